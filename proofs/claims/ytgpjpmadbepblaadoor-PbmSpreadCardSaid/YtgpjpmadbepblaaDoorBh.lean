/- Bitmaps: Within of burinkit. Conditions: the bounds that each theorem names. -/
import Derived.Test.YtgpjpmadbepblaaDoorBf
namespace Go.Bm
theorem tmod_emod (i n : Int) : i.tmod n % n = i % n := by
  rw [Int.tmod_def, Int.sub_mul_emod_self_left]
end Go.Bm
namespace Go.Proofs.YtgpjpmadbepblaaDoor
open Go.RowKit Go.Bm

set_option maxHeartbeats 1000000 in
theorem within0 (i : Int) (n : Nat) (w : World) (h1 : 1 ≤ n) (h2 : n ≤ 1048576) : Calls Tryd.prog 22 #[.int .i64 i, .int .i64 (n : Int)] w fun e w' => e = .returned (.int .i64 (i % n)) ∧ w = w' := by
  have a1 := Int.tmod_lt_of_pos i (show (0 : Int) < n by omega)
  have a2 := Int.lt_tmod_of_pos i (show (0 : Int) < n by omega)
  have hz : ((n : Int) == 0) = false := by simp; omega
  have ht := tmod_emod i n
  by_cases hneg : i.tmod n < 0
  · have e : i.tmod n + n = i % n := by
      rw [← ht, ← Int.add_emod_right]; exact (Int.emod_eq_of_lt (by omega) (by omega)).symm
    have hw : IntKind.i64.wrap (i.tmod n) = i.tmod n := IntWalk.i64_in _ (by omega)
    have HE := Lib.hid e
    clear e ht
    go_enter Tryd.func22, Tryd.ntmps22
    go_wp2
    go_ret
    exact ⟨by rw [← HE.out]; rfl, rfl⟩
  · have e : i.tmod n = i % n := by
      rw [← ht]; exact (Int.emod_eq_of_lt (by omega) (by omega)).symm
    have hw : IntKind.i64.wrap (i.tmod n) = i.tmod n := IntWalk.i64_in _ (by omega)
    have HE := Lib.hid e
    clear e ht
    go_enter Tryd.func22, Tryd.ntmps22
    go_wp2
    go_ret
    exact ⟨by rw [← HE.out]; rfl, rfl⟩
end Go.Proofs.YtgpjpmadbepblaaDoor
