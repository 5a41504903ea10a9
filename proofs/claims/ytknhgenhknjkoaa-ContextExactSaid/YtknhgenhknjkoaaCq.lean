/- 'row' of the statement ContextExact: a row's contexts against the document's own answer. Conditions: the bounds that each theorem names. -/
import Derived.Test.YtknhgenhknjkoaaCo
namespace Go.Proofs.Ytknhgenhknjkoaa
open Go.RowKit Go.Bm

set_option maxRecDepth 100000 in
set_option maxHeartbeats 4000000 in
theorem row19_out (W H : Nat) (a : Option Addr) (n cap : Nat) (tt : Int) (ax : Option Addr) (nx cx : Nat) (ay : Option Addr) (ny cy : Nat) (v : Value) (y : Int) (w : World) (hy : ¬ (0 ≤ y ∧ y < H)) :
    Calls Try.prog 19 #[.agg #[.int .i64 (W : Int), .int .i64 (H : Int), .slice a n cap, .int .i64 tt, .slice ax nx cx, .slice ay ny cy], .slice none 0 0, .int .i64 61, v, .int .i64 y] w fun e w' => e = .returned (.bool true) ∧ Below w.heap.size w w' := by
  have hbel := (Below.refl w.heap.size w).alloc (Nat.le_refl _) (.cells #[.int .i64 (W : Int), .int .i64 (H : Int), .slice a n cap, .int .i64 tt, .slice ax nx cx, .slice ay ny cy] 27)
  have HB := Lib.hid hbel
  have HY := Lib.hid hy
  clear hbel hy
  by_cases h1 : y < 0
  · go_enter Try.func19, Try.ntmps19
    go_wp2
    go_ret
    exact ⟨rfl, HB.out⟩
  · have h2 : (H : Int) ≤ y := by have := HY.out; omega
    go_enter Try.func19, Try.ntmps19
    go_wp2
    go_ret
    exact ⟨rfl, HB.out⟩

set_option maxRecDepth 100000 in
set_option maxHeartbeats 4000000 in
theorem row19_in (W H : Nat) (a : Option Addr) (n cap : Nat) (B : Nat → Nat) (t : Nat) (tt : Int) (ax : Option Addr) (nx cx : Nat) (ay : Option Addr) (ny cy : Nat) (g g0 cp N y : Nat) (w : World) (hB : IsWords w a n cap B) (hb : okB W H n B) (ht : t < 4)
    (hN : N = 2 * spw t (spn t)) (hP : IsInts w (some ⟨g0, 0, none⟩) N (plV t)) (hL : IsInts w (some ⟨g, 0, none⟩) W (fun x => (ctx t (px W H B) x y : Nat))) (hy : y < H) :
    Calls Try.prog 19 #[.agg #[.int .i64 (W : Int), .int .i64 (H : Int), .slice a n cap, .int .i64 tt, .slice ax nx cx, .slice ay ny cy], .slice (some ⟨g, 0, none⟩) W W, .int .i64 0, .slice (some ⟨g0, 0, none⟩) N cp, .int .i64 (y : Int)] w
      fun e w' => e = .returned (.bool true) ∧ Below w.heap.size w w' := by
  have hw1 : W ≤ 1048576 := by have := (okS_le hb.1).1; omega
  have hbx := (Below.refl w.heap.size w).alloc (Nat.le_refl _) (.cells #[.int .i64 (W : Int), .int .i64 (H : Int), .slice a n cap, .int .i64 tt, .slice ax nx cx, .slice ay ny cy] 27)
  have HBW := Lib.hid hB
  have HO := Lib.hid hb
  have HN := Lib.hid hN
  have HP := Lib.hid (hP.below hbx)
  have HL := Lib.hid (hL.below hbx)
  have HI0 := Lib.hid (AInv.new w W H a n cap tt ax nx cx ay ny cy)
  have hy1 : (y : Int) < (H : Int) := by omega
  clear hB hb hN hP hL hbx
  go_enter Try.func19, Try.ntmps19
  go_upto_region 1 with fail
  obtain ⟨W0, hW0⟩ : ∃ W0, w.heap.size = W0 := ⟨_, rfl⟩
  have HI := Lib.hid (hW0 ▸ HI0.out)
  rw [hW0]
  have HW0 := Lib.hid hW0
  clear hW0 HI0
  generalize w.alloc (.cells #[.int .i64 (W : Int), .int .i64 (H : Int), .slice a n cap, .int .i64 tt, .slice ax nx cx, .slice ay ny cy] 27) = w0 at *
  have c0 := HI.out.c0
  have c1 := HI.out.c1
  have q1 : decide ((y : Int) < 0) = false := by simp
  have q2 : decide (H ≤ y) = false := by simp; omega
  go_wp2_with fail
  clear c0 c1
  go_loopw [11] (fun v wr => ∃ x : Nat, x ≤ W ∧ v = .int .i64 x ∧ Hid (Below w0.heap.size w0 wr)) (fun v _ => W - (intOf v).toNat)
  case atStart => exact ⟨0, Nat.zero_le _, rfl, Below.refl _ _⟩
  case round =>
    obtain ⟨x, hx, rfl, hbr⟩ := hrel
    have hi := Lib.hid (HI.out.step hbr.out)
    by_cases hlt : x < W
    · have c0 := hi.out.c0
      have c1 := hi.out.c1
      have c2 := hi.out.c2
      rcases (HL.out.below hbr.out) with h0 | ⟨_, _, h1, hgl, hcell⟩
      · omega
      · cases h1
        have d : wr.cell? ⟨g, x, none⟩ = some (.int .i64 (ctx t (px W H B) x y : Nat)) := by
          have := hcell x hlt
          rwa [Nat.zero_add] at this
        have HGL : g < wr.heap.size := hgl
        have HCT := Lib.hid (fun w1 hb1 => at6 W H a n cap B t g0 cp N x y w1 (hi.out.words HW0.out HBW.out |>.below hb1) HO.out ht HN.out ((HP.out.below hbr.out).below hb1))
        clear hcell hgl
        generalize ctx t (px W H B) x y = cv at *
        have hq : ((cv : Int) != (cv : Int)) = false := by simp
        have z1 : (0 : Int) ≤ (x : Int) := by omega
        have z2 : (x : Int) < (W : Int) := by omega
        go_upto_region 8 with fail
        go_region_held3 (fun w' => w'.cell? ⟨W0, 0, none⟩ = some (.int .i64 (W : Int)) ∧ w'.cell? ⟨W0, 1, none⟩ = some (.int .i64 (H : Int)) ∧ w'.cell? ⟨W0, 2, none⟩ = some (.slice a n cap) ∧ w'.cell? ⟨g, x, none⟩ = some (.int .i64 (cv : Int))) (go_keep)
          ((go_at_call 18; refine (HCT.out _ ?_).mono ?_; exact (Below.drew (Below.refl _ wr)); rintro e w3 ⟨rfl, hb3⟩; have hb3 : Below wr.heap.size wr w3 := Below.trans (Below.drew (Below.refl _ wr)) hb3; have bel3 := Lib.hid (hbr.out.trans (hb3.mono hbr.out.size)); have i3 := Lib.hid (HI.out.step bel3.out); have c0 := i3.out.c0; have c1 := i3.out.c1; have c2 := i3.out.c2; have d := (hb3.cell (p := ⟨g, x, none⟩) HGL).trans d; clear hb3))
        clear c0 c1 c2 d
        go_wp2_with fail
        go_roundw
        case rel => exact ⟨x + 1, by omega, by go_num, bel3⟩
        case measure => simp [intOf]; omega
    · go_wp2_with fail
      go_ret
      exact ⟨rfl, by rw [HW0.out]; exact HI.out.bel.trans (hbr.out.mono (Nat.le_of_lt HI.out.lt))⟩
end Go.Proofs.Ytknhgenhknjkoaa
