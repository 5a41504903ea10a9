/- The reference's Order at no bitmap and at a bitmap that may not be. Conditions: the bounds that each theorem names. -/
import Derived.Test.YtfniekdohidbiaaVf
namespace Go.Proofs.Ytfniekdohidbiaa
open Go.RowKit Go.Bm Go.Sort

set_option maxHeartbeats 1000000 in
set_option maxRecDepth 100000 in
theorem order21_none (p : Option Addr) (cap : Nat) (w : World) : Calls Try.prog 21 #[.slice p 0 cap] w fun e w' => e = .returned (.tuple #[.slice none 0 0, .int .i64 0]) ∧ Below w.heap.size w w' := by
  go_enter Try.func21, Try.ntmps21
  go_wp2_with fail
  refine wp_loop_rounds 1 ?_
  rw [rounds_succ]
  go_wp2_with fail
  refine wp_loop_rounds 1 ?_
  rw [rounds_succ]
  go_wp2_with fail
  go_ret2
  exact ⟨rfl, Below.refl _ _⟩
set_option maxHeartbeats 1000000 in
set_option maxRecDepth 100000 in
theorem order21_bad (b off n cap m : Nat) (F : Nat → Bmp) (w : World) (hL : IsBms w (some ⟨b, off, none⟩) n cap F) (hm : m < n) (hok : ∀ i, i < m → (F i).ok) (hbad : ¬ (F m).ok) :
    Calls Try.prog 21 #[.slice (some ⟨b, off, none⟩) n cap] w fun e w' => e = .returned (.tuple #[.slice none 0 0, .int .i64 110]) ∧ Below w.heap.size w w' := by
  rcases hL with h | ⟨b', off', he, hnc, hcap, hbs, hrow⟩
  · omega
  cases he
  have HR := Lib.hid hrow
  have HOK := Lib.hid hok
  clear hrow hok
  go_enter Try.func21, Try.ntmps21
  go_wp2_with fail
  go_loopw [4] (fun i wr => ∃ k : Nat, k ≤ m ∧ i = .int .i64 k ∧ Hid (Below w.heap.size w wr)) (fun i _ => n - (intOf i).toNat)
  case atStart => exact ⟨0, Nat.zero_le _, rfl, Below.refl _ _⟩
  case round =>
    obtain ⟨k, hk, rfl, hbel⟩ := hrel
    have hlt : k < n := by omega
    obtain ⟨q0, q1, q2, q3⟩ := HR.out k hlt
    have q0 := (hbel.out.cell (p := ⟨b, off + k * 3, none⟩) hbs).trans q0
    have q1 := (hbel.out.cell (p := ⟨b, off + k * 3 + 1, none⟩) hbs).trans q1
    have q2 := (hbel.out.cell (p := ⟨b, off + k * 3 + 2, none⟩) hbs).trans q2
    have Q3 := Lib.hid (q3.below hbel.out)
    clear q3
    by_cases hkm : k < m
    · have HO := HOK.out k hkm
      go_wp2_with (go_at_call 29; refine (Bmp.may (F k) true _ Q3.out (by simpa using HO)).mono ?_; rintro e w3 ⟨rfl, hbel2⟩)
      go_roundw
      case rel => exact ⟨k + 1, by omega, by go_num, below_then hbel.out hbel2 (Nat.le_refl _)⟩
      case measure => simp [intOf]; omega
    · obtain rfl : k = m := by omega
      have HB := Lib.hid hbad
      clear hbad
      go_wp2_with (go_at_call 29; refine (Bmp.may (F k) false _ Q3.out (by simpa using HB.out)).mono ?_; rintro e w3 ⟨rfl, hbel2⟩)
      go_ret2
      exact ⟨rfl, below_then hbel.out hbel2 (Nat.le_refl _)⟩
end Go.Proofs.Ytfniekdohidbiaa
