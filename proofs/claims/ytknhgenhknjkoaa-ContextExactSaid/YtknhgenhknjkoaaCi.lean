/- The walk of ContextExact, all cases. Conditions: the bounds that each theorem names. -/
import Derived.Test.YtknhgenhknjkoaaCs
import Derived.Test.YtknhgenhknjkoaaCt
import Derived.Test.YtknhgenhknjkoaaCu
namespace Go.Proofs.Ytknhgenhknjkoaa
open Go.RowKit Go.Bm

set_option maxRecDepth 100000 in
set_option maxHeartbeats 2000000 in
theorem exact_long (W H : Int) (a : Option Addr) (n cap : Nat) (B : Nat → Nat) (tt : Int) (ax : Option Addr) (nx cx : Nat) (ay : Option Addr) (ny cy : Nat) (w : World)
    (hB : IsWords w a n cap B) (hn : 500 < n) :
    Calls Try.prog 3 #[.agg #[.int .i64 W, .int .i64 H, .slice a n cap, .int .i64 tt, .slice ax nx cx, .slice ay ny cy]] w fun e w' => e = .returned (.bool true) ∧ Below w.heap.size w w' := by
  have hn2 : decide ((500 : Int) < (n : Int)) = true := by simp; omega
  have hn3 : decide (500 < n) = true := by simp; omega
  have HBW := Lib.hid hB
  have HI0 := Lib.hid (AInv.new w W H a n cap tt ax nx cx ay ny cy)
  clear hB hn
  go_enter Try.func3, Try.ntmps3
  go_upto_region 1 with fail
  obtain ⟨W0, hW0⟩ : ∃ W0, w.heap.size = W0 := ⟨_, rfl⟩
  have HI := Lib.hid (hW0 ▸ HI0.out)
  rw [hW0]
  have HW0 := Lib.hid hW0
  clear hW0 HI0
  generalize w.alloc (.cells #[.int .i64 W, .int .i64 H, .slice a n cap, .int .i64 tt, .slice ax nx cx, .slice ay ny cy] 27) = w0 at *
  have c0 := HI.out.c0
  have c1 := HI.out.c1
  have c2 := HI.out.c2
  go_wp2_with (go_at_call 9; refine (wakes9 _).mono ?_; rintro e w' ⟨rfl, hbel⟩)
  go_ret
  rw [HW0.out]
  exact ⟨rfl, HI.out.bel.trans (hbel.mono (Nat.le_of_lt HI.out.lt))⟩

set_option maxRecDepth 100000 in
set_option maxHeartbeats 2000000 in
theorem exact_big (W H : Nat) (a : Option Addr) (n cap : Nat) (B : Nat → Nat) (tt : Int) (ax : Option Addr) (nx cx : Nat) (ay : Option Addr) (ny cy : Nat) (w : World)
    (hB : IsWords w a n cap B) (hn : n ≤ 500) (ho : okB W H n B) (h1 : ¬ (W : Int) * (H : Int) ≤ 160000) :
    Calls Try.prog 3 #[.agg #[.int .i64 (W : Int), .int .i64 (H : Int), .slice a n cap, .int .i64 tt, .slice ax nx cx, .slice ay ny cy]] w fun e w' => e = .returned (.bool true) ∧ Below w.heap.size w w' := by
  have hp : (W : Int) * (H : Int) ≤ 1048576 := ho.1.2.2
  have hwr : IntKind.i64.wrap ((W : Int) * (H : Int)) = (W : Int) * (H : Int) := IntWalk.i64_in _ (by omega)
  have h3 : decide ((160000 : Int) < (W : Int) * (H : Int)) = true := by simp; omega
  have hn2 : decide ((500 : Int) < (n : Int)) = false := by simp; omega
  have hn3 : decide (500 < n) = false := by simp; omega
  have HO := Lib.hid ho
  have HBW := Lib.hid hB
  have HI0 := Lib.hid (AInv.new w (W : Int) (H : Int) a n cap tt ax nx cx ay ny cy)
  clear hB hn ho h1 hp
  go_enter Try.func3, Try.ntmps3
  go_upto_region 1 with fail
  obtain ⟨W0, hW0⟩ : ∃ W0, w.heap.size = W0 := ⟨_, rfl⟩
  have HI := Lib.hid (hW0 ▸ HI0.out)
  rw [hW0]
  have HW0 := Lib.hid hW0
  clear hW0 HI0
  generalize w.alloc (.cells #[.int .i64 (W : Int), .int .i64 (H : Int), .slice a n cap, .int .i64 tt, .slice ax nx cx, .slice ay ny cy] 27) = w0 at *
  have c0 := HI.out.c0
  have c1 := HI.out.c1
  have c2 := HI.out.c2
  go_wp2_with (first
    | (go_at_call 8; refine (may0 W H a n cap B true _ (HI.out.words HW0.out HBW.out) (by simp [HO.out])).mono ?_; rintro e w1 ⟨rfl, hbel⟩; have HI1 := Lib.hid (HI.out.step hbel); have c0 := HI1.out.c0; have c1 := HI1.out.c1; have c2 := HI1.out.c2; clear hbel)
    | (go_at_call 9; refine (wakes9 _).mono ?_; rintro e w' ⟨rfl, hbel⟩))
  go_ret
  rw [HW0.out]
  exact ⟨rfl, HI1.out.bel.trans (hbel.mono (Nat.le_of_lt HI1.out.lt))⟩

theorem exact_walk (W H : Int) (a : Option Addr) (n cap : Nat) (B : Nat → Nat) (tt : Int) (ax : Option Addr) (nx cx : Nat) (X : Nat → Int) (ay : Option Addr) (ny cy : Nat) (Y : Nat → Int) (w : World)
    (hB : IsWords w a n cap B) (hno : a = none → n = 0 ∧ cap = 0) (hX : IsInts w ax nx X) (hY : IsInts w ay ny Y) :
    Calls Try.prog 3 #[.agg #[.int .i64 W, .int .i64 H, .slice a n cap, .int .i64 tt, .slice ax nx cx, .slice ay ny cy]] w fun e w' => e = .returned (.bool true) ∧ Below w.heap.size w w' := by
  by_cases hn : n ≤ 500
  · by_cases ho : okB W H n B
    · obtain ⟨W, rfl⟩ : ∃ i : Nat, W = i := ⟨W.toNat, by have := ho.1.1; omega⟩
      obtain ⟨H, rfl⟩ : ∃ i : Nat, H = i := ⟨H.toNat, by have := ho.1.2.1; omega⟩
      by_cases h1 : (W : Int) * (H : Int) ≤ 160000
      · by_cases ht : 0 ≤ tt ∧ tt < 4
        · obtain ⟨t, rfl⟩ : ∃ t : Nat, tt = t := ⟨tt.toNat, by omega⟩
          exact exact_good W H a n cap B t (by omega) ax nx cx X ay ny cy Y w hB hno hX hY hn ho h1
        · exact exact_bad1 W H a n cap B tt ht ax nx cx X ay ny cy Y w hB hno hX hY hn ho h1
      · exact exact_big W H a n cap B tt ax nx cx ay ny cy w hB hn ho h1
    · by_cases ht : 0 ≤ tt ∧ tt < 4
      · obtain ⟨t, rfl⟩ : ∃ t : Nat, tt = t := ⟨tt.toNat, by omega⟩
        exact exact_form W H a n cap B t (by omega) ax nx cx X ay ny cy Y w hB hno hX hY hn ho
      · exact exact_bad2 W H a n cap B tt ht ax nx cx X ay ny cy Y w hB hno hX hY hn ho
  · exact exact_long W H a n cap B tt ax nx cx ay ny cy w hB (by omega)
end Go.Proofs.Ytknhgenhknjkoaa
