/- TrailingZeros64, Inf of Go's library; black of package measure; Count of the reference. Conditions: the bounds that each theorem names. -/
import Derived.Test.YtokdgppaedklhaaDoorWa
namespace Go.Proofs.YtokdgppaedklhaaDoor
open Go.RowKit Go.Bm

/-- the library's table, as its initialiser lays it -/
def TabW (w : World) : Prop := ∀ j, j < 64 → w.cell? ⟨0, j, none⟩ = some (.int .u8 ((Lib.deBruijn64tab.getD j 0 : Nat) : Int))
theorem TabW.pos {w : World} (h : TabW w) : 0 < w.heap.size := World.block_lt_of_cell? w _ (h 0 (by decide))
theorem TabW.below {w w' : World} (h : TabW w) (hb : Below w.heap.size w w') : TabW w' := fun j hj => (hb.cell (p := ⟨0, j, none⟩) h.pos).trans (h j hj)
theorem TabW.drewN {w : World} (h : TabW w) (k : Nat) : TabW (w.drewN k) := h

set_option maxHeartbeats 1000000 in
theorem tz28_core (x k idx : Nat) (w : World) (hx0 : ((x : Int) == 0) = false)
    (key : IntKind.u64.wrap (bits BinOp.and IntKind.u64 (x : Int) (IntKind.u64.wrap (-(x : Int))) * 285870213051353865) / 288230376151711744 = (idx : Int))
    (hi : idx < 64) (hk : k < 64) (hcell : w.cell? ⟨0, idx, none⟩ = some (.int .u8 k)) :
    Calls Tryd.prog 28 #[.int .u64 x] w fun e w' => e = .returned (.int .i64 k) ∧ w = w' := by
  go_enter Tryd.func28, Tryd.ntmps28
  go_wp2_with (simp only [key])
  go_ret
  exact ⟨rfl, rfl⟩
theorem tz28_key (x a : Nat) (hx : x < 18446744073709551616) (hx0 : x ≠ 0) (hlow : x &&& (18446744073709551616 - x) = a) :
    IntKind.u64.wrap (bits BinOp.and IntKind.u64 (x : Int) (IntKind.u64.wrap (-(x : Int))) * 285870213051353865) / 288230376151711744 = ((a * 285870213051353865 % 18446744073709551616 / 288230376151711744 : Nat) : Int) := by
  have e1 : IntKind.u64.wrap (-(x : Int)) = ((18446744073709551616 - x : Nat) : Int) := by rw [IntKind.wrap_u64]; omega
  rw [e1, bits_and_u64_nat x _ hx (by omega), hlow, IntKind.wrap_u64]
  omega
theorem tz28 (x : Nat) (h0 : x ≠ 0) (hx : x < 2 ^ 64) (w : World) (hT : TabW w) : Calls Tryd.prog 28 #[.int .u64 x] w fun e w' => e = .returned (.int .i64 (Lib.ctz 64 x : Nat)) ∧ w = w' := by
  obtain ⟨hlow, hk⟩ := Lib.lowest_bit 64 x h0 hx
  obtain ⟨hi, htab⟩ := Lib.deBruijn64_at _ hk
  have hcell := hT _ hi
  rw [htab] at hcell
  exact tz28_core x _ _ w (by simp; omega) (tz28_key x _ hx h0 hlow) hi hk hcell

set_option maxHeartbeats 1000000 in
theorem inf35 (w : World) : Calls Tryd.prog 35 #[.int .i64 1] w fun e w' => e = .returned (.float .f64 9218868437227405312) ∧ w = w' := by
  have h := call35 9218868437227405312
  go_enter Tryd.func35, Tryd.ntmps35
  go_wp2
  go_ret
  exact ⟨rfl, rfl⟩

set_option maxHeartbeats 2000000 in
theorem black26 (W H : Int) (a : Option Addr) (n cap : Nat) (B : Nat → Nat) (w : World) (hB : IsWords w a n cap B) (hn : n ≤ 10000) :
    Calls Tryd.prog 26 #[.agg #[.int .i64 W, .int .i64 H, .slice a n cap]] w fun e w' => e = .returned (.int .i64 (sumTo (fun i => pop (B i)) n : Nat)) ∧ Below w.heap.size w w' := by
  have hb := (Below.refl w.heap.size w).alloc (Nat.le_refl _) (.cells #[.int .i64 W, .int .i64 H, .slice a n cap] 25)
  have HB := Lib.hid (hB.below hb)
  have HBE := Lib.hid hb
  clear hB hb
  go_enter Tryd.func26, Tryd.ntmps26
  go_wp2_with fail
  go_loop [3, 5, 9] (fun s u i => ∃ k : Nat, k ≤ n ∧ i = .int .i64 k ∧ s = .int .i64 (sumTo (fun i => pop (B i)) k : Nat)) (fun _ _ i => n - (intOf i).toNat)
  case atStart => exact ⟨0, Nat.zero_le _, rfl, rfl⟩
  case round =>
    obtain ⟨k, hk, rfl, rfl⟩ := hrel
    by_cases hlt : k < n
    · rcases HB.out with h | ⟨b, off, rfl, hnc, hcap, hbs, hcell⟩
      · omega
      · obtain ⟨c0, v0⟩ := hcell k hlt
        have hltI : (k : Int) < (n : Int) := by omega
        have hs : sumTo (fun i => pop (B i)) k ≤ k * 64 := sumTo_le k fun i _ => pop_le _
        have hp := pop_le (B k)
        have hst : sumTo (fun i => pop (B i)) (k + 1) = sumTo (fun i => pop (B i)) k + pop (B k) := rfl
        have HST := Lib.hid hst
        clear hst hcell hcap hbs hnc
        generalize sumTo (fun i => pop (B i)) k = s at *
        have hw : wrap64 ((s : Int) + (pop (B k) : Nat)) = ((s + pop (B k) : Nat) : Int) := by rw [← Int.natCast_add]; exact Go.IntWalk.wrap64_in _ ⟨by omega, by omega⟩
        generalize hv : B k = v at *
        go_wp2_with (go_at_call 27; refine (ones27 v v0 _).mono ?_; rintro e w' ⟨rfl, rfl⟩)
        go_round
        case rel => exact ⟨k + 1, by omega, by go_num, by rw [HST.out]; simp⟩
        case measure => simp [intOf]; omega
    · obtain rfl : k = n := by omega
      go_wp2_with fail
      go_ret
      exact ⟨rfl, HBE.out⟩
end Go.Proofs.YtokdgppaedklhaaDoor
