/- The walk of ContextMoved. Conditions: the bounds that each theorem names. -/
import Derived.Test.YtknhgenhknjkoaaCl
namespace Go.Bm
theorem moved_size {W H dx dy n : Nat} (h1 : (W : Int) * (H : Int) ≤ 8000) (hW : 1 ≤ W) (hH : 1 ≤ H) (hn : n = H * wd W) (h2 : 64 * (n : Int) + 64 ≤ 160000) (hx : dx ≤ 69) (hy : dy ≤ 4) :
    okS ((W + dx + 2 : Nat) : Int) ((H + dy + 1 : Nat) : Int) ∧ W ≤ 8000 ∧ H ≤ 2500 := by
  have hwp : 1 ≤ wd W := by unfold wd; omega
  have hHn : H * 1 ≤ H * wd W := Nat.mul_le_mul (Nat.le_refl _) hwp
  have hH2 : H ≤ 2500 := by omega
  have hWH : W * H ≤ 8000 := by
    have : ((W * H : Nat) : Int) ≤ 8000 := by rw [Int.natCast_mul]; exact h1
    omega
  have hW2 : W * 1 ≤ W * H := Nat.mul_le_mul (Nat.le_refl _) hH
  have e : (W + dx + 2) * (H + dy + 1) = W * H + W * (dy + 1) + ((dx + 2) * H + (dx + 2) * (dy + 1)) := by
    rw [show W + dx + 2 = W + (dx + 2) by omega, show H + dy + 1 = H + (dy + 1) by omega, Nat.add_mul W, Nat.mul_add W H, Nat.mul_add (dx + 2) H]
  have k1 : W * (dy + 1) ≤ 8000 * 5 := Nat.mul_le_mul (by omega) (by omega)
  have k2 : (dx + 2) * H ≤ 71 * 2500 := Nat.mul_le_mul (by omega) (by omega)
  have k3 : (dx + 2) * (dy + 1) ≤ 71 * 5 := Nat.mul_le_mul (by omega) (by omega)
  refine ⟨⟨by omega, by omega, ?_⟩, by omega, hH2⟩
  rw [← Int.natCast_mul, e]
  omega
theorem okB_white {W H : Nat} (h : okS (W : Int) (H : Int)) : okB (W : Int) (H : Int) (H * wd W) (fun _ => 0) :=
  ⟨h, by simp, fun y _ => Or.inr (by simp)⟩
/-- what has been laid on white -/
theorem laid_px {W H n : Nat} {B : Nat → Nat} {Ws Hs x y : Nat} {C : Nat → Nat} (h : Laid W H n (px W H (fun _ => 0)) (px Ws Hs B) x y Ws Hs 0 C) (a b : Int) : px W H C (a + x) (b + y) = px Ws Hs B a b := by
  rw [h.2]
  by_cases c : ((x : Int) ≤ a + x ∧ a + x < (x : Int) + Ws ∧ (y : Int) ≤ b + y ∧ b + y < (y : Int) + Hs) ∨ (b + y = (y : Int) + Hs ∧ (x : Int) ≤ a + x ∧ a + x < (x : Int) + (0 : Nat))
  · rw [if_pos c]
    congr 1 <;> omega
  · rw [if_neg c, px_far (W := Ws) (H := Hs) (by omega)]
    unfold px
    split <;> simp
theorem ctx_moved {t : Nat} (ht : t < 4) {W H n : Nat} {B : Nat → Nat} {Ws Hs x y : Nat} {C : Nat → Nat} (h : Laid W H n (px W H (fun _ => 0)) (px Ws Hs B) x y Ws Hs 0 C) (a b : Int) :
    ctx t (px W H C) (a + x) (b + y) = ctx t (px Ws Hs B) a b :=
  ctx_congr ht fun dx dy _ _ _ _ _ => by
    have := laid_px h (a + dx) (b + dy)
    rw [← this]
    congr 1 <;> omega
end Go.Bm
namespace Go.Proofs.Ytknhgenhknjkoaa
open Go.RowKit Go.Bm

theorem whiteI (Wi Hi : Int) (W H : Nat) (w : World) (hWi : Wi = W) (hHi : Hi = H) (hW : W ≤ 1048576) (hH : H ≤ 1048576) :
    Calls Try.prog 26 #[.int .i64 Wi, .int .i64 Hi] w fun e w' => ∃ g, e = .returned (.agg #[.int .i64 (W : Int), .int .i64 (H : Int), .slice (some ⟨g, 0, none⟩) (H * wd W) (H * wd W)]) ∧ IsOwn w' g (H * wd W) (fun _ => 0) ∧ w.heap.size ≤ g ∧ Below w.heap.size w w' := by
  subst hWi; subst hHi
  exact white0 W H w hW hH
theorem whiteN (Wi Hi : Int) (W H n : Nat) (w : World) (hWi : Wi = W) (hHi : Hi = H) (hW : W ≤ 1048576) (hH : H ≤ 1048576) (hn : H * wd W = n) :
    Calls Try.prog 26 #[.int .i64 Wi, .int .i64 Hi] w fun e w' => ∃ g, e = .returned (.agg #[.int .i64 (W : Int), .int .i64 (H : Int), .slice (some ⟨g, 0, none⟩) n n]) ∧ IsOwn w' g n (fun _ => 0) ∧ w.heap.size ≤ g ∧ Below w.heap.size w w' := by
  subst hn
  exact whiteI Wi Hi W H w hWi hHi hW hH
theorem within70 (i : Int) (k : Nat) (w : World) (hk : i % 70 = k) : Calls Try.prog 22 #[.int .i64 i, .int .i64 70] w fun e w' => e = .returned (.int .i64 (k : Nat)) ∧ w = w' := within_nat i 70 k w (by decide) (by decide) hk
theorem within5 (i : Int) (k : Nat) (w : World) (hk : i % 5 = k) : Calls Try.prog 22 #[.int .i64 i, .int .i64 5] w fun e w' => e = .returned (.int .i64 (k : Nat)) ∧ w = w' := within_nat i 5 k w (by decide) (by decide) hk

set_option maxRecDepth 100000 in
set_option maxHeartbeats 8000000 in
theorem moved_main (W H : Nat) (a : Option Addr) (n cap : Nat) (B : Nat → Nat) (tt : Int) (ax : Option Addr) (nx cx : Nat) (X : Nat → Int) (ay : Option Addr) (ny cy : Nat) (Y : Nat → Int) (w : World)
    (hB : IsWords w a n cap B) (hX : IsInts w ax nx X) (hY : IsInts w ay ny Y) (ho : okB W H n B) (h1 : (W : Int) * (H : Int) ≤ 8000) (h2 : 64 * (n : Int) + 64 ≤ 160000) (hx0 : 0 < nx) (hy0 : 0 < ny) :
    Calls Try.prog 6 #[.agg #[.int .i64 (W : Int), .int .i64 (H : Int), .slice a n cap, .int .i64 tt, .slice ax nx cx, .slice ay ny cy]] w fun e w' => e = .returned (.bool true) ∧ Below w.heap.size w w' := by
  have hw0 : 1 ≤ W := by have := ho.1.1; omega
  have hh0 : 1 ≤ H := by have := ho.1.2.1; omega
  have hw1 : W ≤ 1048576 := by have := (okS_le ho.1).1; omega
  have hw2 : H ≤ 1048576 := by have := (okS_le ho.1).2; omega
  have hp : 0 ≤ (W : Int) * (H : Int) := Int.mul_nonneg (by omega) (by omega)
  have hwr : IntKind.i64.wrap ((W : Int) * (H : Int)) = (W : Int) * (H : Int) := IntWalk.i64_in _ (by omega)
  have HN := Lib.hid (show n ≤ 17179869184 by omega)
  have H2 := Lib.hid (decide_eq_true h2)
  have h3 : decide ((8000 : Int) < (W : Int) * (H : Int)) = false := by simp; omega
  have hx1 : ((nx : Int) == 0) = false := by simp; omega
  have hy1 : ((ny : Int) == 0) = false := by simp; omega
  have HO := Lib.hid ho
  have HSZ := Lib.hid (fun (dx dy : Nat) (hx : dx ≤ 69) (hy : dy ≤ 4) => moved_size (dx := dx) (dy := dy) h1 hw0 hh0 (by have := ho.2.1; simpa using this) h2 hx hy)
  have HBW := Lib.hid hB
  have HXW := Lib.hid hX
  have HYW := Lib.hid hY
  have HI0 := Lib.hid (AInv.new w W H a n cap tt ax nx cx ay ny cy)
  clear hB ho hX hY h1 h2
  go_enter Try.func6, Try.ntmps6
  go_upto_region 1 with fail
  obtain ⟨W0, hW0⟩ : ∃ W0, w.heap.size = W0 := ⟨_, rfl⟩
  have HI := Lib.hid (hW0 ▸ HI0.out)
  rw [hW0]
  have HW0 := Lib.hid hW0
  clear hW0 HI0
  generalize w.alloc (.cells #[.int .i64 (W : Int), .int .i64 (H : Int), .slice a n cap, .int .i64 tt, .slice ax nx cx, .slice ay ny cy] 27) = w0 at *
  have c0 := HI.out.c0
  have c1 := HI.out.c1
  have c2 := HI.out.c2
  go_upto_region 3 with (first
    | (go_at_call 8; refine (may0 W H a n cap B true _ (HI.out.words HW0.out HBW.out) (by simp [HO.out])).mono ?_; rintro e w1 ⟨rfl, hbel⟩; have HI1 := Lib.hid (HI.out.step hbel); have c0 := HI1.out.c0; have c1 := HI1.out.c1; have c2 := HI1.out.c2; have c4 := HI1.out.c4; have c5 := HI1.out.c5; clear hbel)
    | (go_at_call 21; refine (small1 w1.heap.size n cap a 160000 true _ HN.out (by rw [World.cell?_alloc_at _ _ _ _ rfl]; rfl) H2.out.symm).mono ?_; rintro e w' ⟨rfl, rfl⟩))
  have HI2 := Lib.hid (HI1.out.step ((Below.refl w1.heap.size w1).alloc (Nat.le_refl _) (.cells #[.int .i64 (W : Int), .int .i64 (H : Int), .slice a n cap] 24)))
  clear HI HI1 c0 c1 c2 c4 c5 hwr hp h3 H2
  generalize w1.alloc (.cells #[.int .i64 (W : Int), .int .i64 (H : Int), .slice a n cap] 24) = w2 at *
  obtain ⟨dx, hxm⟩ : ∃ x : Nat, X 0 % 70 = x := ⟨(X 0 % 70).toNat, by omega⟩
  obtain ⟨dy, hym⟩ : ∃ y : Nat, Y 0 % 5 = y := ⟨(Y 0 % 5).toNat, by omega⟩
  have hdx : dx ≤ 69 := by omega
  have hdy : dy ≤ 4 := by omega
  have HXM := Lib.hid hxm
  have HYM := Lib.hid hym
  obtain ⟨bx, ox, rfl, _, hcx⟩ := (HI2.out.intsX HW0.out HXW.out).at hx0
  obtain ⟨by', oy, rfl, _, hcy⟩ := (HI2.out.intsY HW0.out HYW.out).at hy0
  have dx0 : w2.cell? ⟨bx, ox, none⟩ = some (.int .i64 (X 0)) := hcx 0 hx0
  have dy0 : w2.cell? ⟨by', oy, none⟩ = some (.int .i64 (Y 0)) := hcy 0 hy0
  have hx2 : (0 : Int) < (nx : Int) := by omega
  have hy2 : (0 : Int) < (ny : Int) := by omega
  clear hxm hym hcx hcy
  have c0 := HI2.out.c0
  have c1 := HI2.out.c1
  have c2 := HI2.out.c2
  have c4 := HI2.out.c4
  have c5 := HI2.out.c5
  have hWc : W + dx + 2 ≤ 1048576 := by have := HSZ.out dx dy hdx hdy; omega
  have hHc : H + dy + 1 ≤ 1048576 := by have := HSZ.out dx dy hdx hdy; omega
  have HOC := Lib.hid (okB_white (HSZ.out dx dy hdx hdy).1)
  go_upto_region 4 with (go_at_call 22; refine (within70 _ dx _ HXM.out).mono ?_; rintro e w' ⟨rfl, rfl⟩)
  go_upto_region 5 with (go_at_call 22; refine (within5 _ dy _ HYM.out).mono ?_; rintro e w' ⟨rfl, rfl⟩)
  clear dx0 dy0
  have HN9 := Lib.hid (show (H + dy + 1) * wd (W + dx + 2) ≤ 9223372036854775807 from Nat.le_trans (Nat.mul_le_mul hHc (wd_le hWc)) (by decide))
  generalize hWe : W + dx + 2 = Wc at *
  generalize hHe : H + dy + 1 = Hc at *
  generalize hne : Hc * wd Wc = nc at *
  have HWE := Lib.hid hWe
  have HHE := Lib.hid hHe
  have HNEC := Lib.hid hne
  clear hWe hHe hne
  go_upto_region 6 with (go_at_call 26; refine (whiteN _ _ Wc Hc nc _ (by have := HWE.out; omega) (by have := HHE.out; omega) hWc hHc HNEC.out).mono ?_; rintro e w5 ⟨g, rfl, hown, hge, hbel⟩)
  have hbx := (Below.refl w5.heap.size w5).alloc (Nat.le_refl _) (.cells #[.int .i64 (Wc : Int), .int .i64 (Hc : Int), .slice (some ⟨g, 0, none⟩) nc nc] 24)
  have HI5 := Lib.hid ((HI2.out.step hbel).step hbx)
  have HOW := Lib.hid (hown.below hbx)
  have hW0g : W0 < g := Nat.lt_of_lt_of_le HI2.out.lt hge
  have e0 : (w5.alloc (.cells #[.int .i64 (Wc : Int), .int .i64 (Hc : Int), .slice (some ⟨g, 0, none⟩) nc nc] 24)).cell? ⟨w5.heap.size, 0, none⟩ = some (.int .i64 (Wc : Int)) := by rw [World.cell?_alloc_at _ _ _ _ rfl]; rfl
  have e1 : (w5.alloc (.cells #[.int .i64 (Wc : Int), .int .i64 (Hc : Int), .slice (some ⟨g, 0, none⟩) nc nc] 24)).cell? ⟨w5.heap.size, 1, none⟩ = some (.int .i64 (Hc : Int)) := by rw [World.cell?_alloc_at _ _ _ _ rfl]; rfl
  have e2 : (w5.alloc (.cells #[.int .i64 (Wc : Int), .int .i64 (Hc : Int), .slice (some ⟨g, 0, none⟩) nc nc] 24)).cell? ⟨w5.heap.size, 2, none⟩ = some (.slice (some ⟨g, 0, none⟩) nc nc) := by rw [World.cell?_alloc_at _ _ _ _ rfl]; rfl
  have hgc : g < w5.heap.size := hown.lt
  obtain ⟨gc, hgce⟩ : ∃ gc, w5.heap.size = gc := ⟨_, rfl⟩
  rw [hgce] at e0 e1 e2 hgc ⊢
  clear hgce hbx hown hge hbel HI2 c0 c1 c2 c4 c5
  generalize w5.alloc (.cells #[.int .i64 (Wc : Int), .int .i64 (Hc : Int), .slice (some ⟨g, 0, none⟩) nc nc] 24) = w6 at *
  have hgc2 : gc < w6.heap.size := World.block_lt_of_cell? w6 _ e0
  have hn0 : n = H * wd W := by have := HO.out.2.1; simpa using this
  have hn1 : 0 < n := by
    have hwp : 1 ≤ wd W := by unfold wd; omega
    have : 1 * 1 ≤ H * wd W := Nat.mul_le_mul (by omega) hwp
    omega
  have hag : ∀ b off, a = some ⟨b, off, none⟩ → b ≠ g := by
    intro b off ha
    rcases HBW.out with h | ⟨bb, oo, h1, _, _, h4, _⟩
    · omega
    · rw [ha] at h1
      cases h1
      have := HW0.out
      omega
  have HAG := Lib.hid hag
  have HNE := Lib.hid hn0
  have c0 := HI5.out.c0
  have c1 := HI5.out.c1
  have c2 := HI5.out.c2
  have hxW : dx + W ≤ Wc := by have := HWE.out; omega
  have hyH : dy + H ≤ Hc := by have := HHE.out; omega
  clear hn0 hn1 hag
  go_upto_region 7 with (go_at_call 27; refine (lay0 Wc Hc g nc nc (fun _ => 0) dx dy W H a n cap B _ hWc hHc hw1 hw2 hw0 hh0 (Nat.le_refl _) HN9.out HOC.out HOW.out (HI5.out.words HW0.out HBW.out) HNE.out hxW hyH HAG.out).mono ?_; rintro e w7 ⟨C, rfl, hc7, hl7, hg7⟩)
  have HC7 := Lib.hid hc7
  have HL7 := Lib.hid hl7
  have hI := Lib.hid (HI5.out.grown hg7 hW0g)
  have C0 := Lib.hid ((hg7.cell_far ⟨gc, 0, none⟩ hgc2 (by simp; omega)).trans e0)
  have C1 := Lib.hid ((hg7.cell_far ⟨gc, 1, none⟩ hgc2 (by simp; omega)).trans e1)
  have C2 := Lib.hid ((hg7.cell_far ⟨gc, 2, none⟩ hgc2 (by simp; omega)).trans e2)
  have hgc7 : gc < w7.heap.size := Nat.lt_of_lt_of_le hgc2 hg7.size
  clear e0 e1 e2 c0 c1 c2 hc7 hl7 hg7 HI5 HOW HAG hx2 hy2
  go_wp2_with fail
  go_loopw [6] (fun v wx => ∃ t : Nat, t ≤ 4 ∧ v = .int .i64 t ∧ Hid (Below w7.heap.size w7 wx)) (fun v _ => 4 - (intOf v).toNat)
  case atStart => exact ⟨0, by omega, rfl, Below.refl _ _⟩
  case round =>
    obtain ⟨t, ht4, rfl, hbx⟩ := hrel
    by_cases hlt : t < 4
    · have htd : decide ((t : Int) < 4) = true := by simp; omega
      go_wp2_with fail
      go_loopw [7] (fun v wx => ∃ i : Nat, i ≤ 8 ∧ v = .int .i64 i ∧ Hid (Below w7.heap.size w7 wx)) (fun v _ => 8 - (intOf v).toNat)
      case atStart => exact ⟨0, by omega, rfl, hbx⟩
      case round =>
        clear hbx
        obtain ⟨i, hi8, rfl, hbx⟩ := hrel
        have hi := Lib.hid (hI.out.step hbx.out)
        have c0 := hi.out.c0
        have c1 := hi.out.c1
        have c2 := hi.out.c2
        have c4 := hi.out.c4
        have c5 := hi.out.c5
        by_cases hix : i < nx
        · by_cases hiy : i < ny
          · by_cases hi8' : i < 8
            · rcases hi.out.intsX HW0.out HXW.out with h | ⟨_, _, h1, _, hcx⟩
              · omega
              · cases h1
                rcases hi.out.intsY HW0.out HYW.out with h | ⟨_, _, h1, _, hcy⟩
                · omega
                · cases h1
                  have dX := hcx i hix
                  have dY := hcy i hiy
                  have x1 := Int.tmod_lt_of_pos (X i) (show (0 : Int) < 300 by decide)
                  have x2 := Int.lt_tmod_of_pos (X i) (show (0 : Int) < 300 by decide)
                  have y1 := Int.tmod_lt_of_pos (Y i) (show (0 : Int) < 60 by decide)
                  have y2 := Int.lt_tmod_of_pos (Y i) (show (0 : Int) < 60 by decide)
                  clear hcx hcy
                  go_upto_region 15 with fail
                  have HQ := Lib.hid (ctx_moved hlt HL7.out ((X i).tmod 300) ((Y i).tmod 60))
                  have HF := Lib.hid (ctx_far (W := W) (H := H) (B := B) (x := (W : Int) + 5) (y := (Y i).tmod 60) hlt (by omega))
                  clear dX dY c4 c5
                  generalize (X i).tmod 300 = xi at *
                  generalize (Y i).tmod 60 = yi at *
                  go_upto_region 16 with (go_at_call 14; refine (at_ok W H a n cap B t xi yi _ (hi.out.words HW0.out HBW.out) HO.out hlt).mono ?_; rintro e w10 ⟨rfl, hb10⟩)
                  have bel10 := Lib.hid (hbx.out.trans (hb10.mono hbx.out.size))
                  clear c0 c1 c2 hb10
                  have e0 := (bel10.out.cell (p := ⟨gc, 0, none⟩) hgc7).trans C0.out
                  have e1 := (bel10.out.cell (p := ⟨gc, 1, none⟩) hgc7).trans C1.out
                  have e2 := (bel10.out.cell (p := ⟨gc, 2, none⟩) hgc7).trans C2.out
                  have ho10 := Lib.hid (HC7.out.below bel10.out)
                  go_upto_region 17 with (go_at_call 14; refine (at_ok Wc Hc (some ⟨g, 0, none⟩) nc nc C t (xi + dx) (yi + dy) _ (ho10.out.words (Nat.le_refl _) HN9.out) HL7.out.1 hlt).mono ?_; rintro e w11 ⟨rfl, hb11⟩)
                  rw [HQ.out]
                  have bel11 := Lib.hid (bel10.out.trans (hb11.mono bel10.out.size))
                  have hi11 := Lib.hid (hI.out.step bel11.out)
                  clear e0 e1 e2 hb11 bel10 ho10
                  have c0 := hi11.out.c0
                  have c1 := hi11.out.c1
                  have c2 := hi11.out.c2
                  go_upto_region 18 with (go_at_call 14; refine (at_ok W H a n cap B t ((W : Int) + 5) yi _ (hi11.out.words HW0.out HBW.out) HO.out hlt).mono ?_; rintro e w12 ⟨rfl, hb12⟩)
                  rw [HF.out]
                  have bel12 := Lib.hid (bel11.out.trans (hb12.mono bel11.out.size))
                  clear c0 c1 c2 hb12 bel11
                  generalize ctx t (px W H B) xi yi = cv at *
                  go_wp2_with fail
                  go_roundw
                  case rel => exact ⟨i + 1, by omega, by go_num, bel12⟩
                  case measure => simp [intOf]; omega
            · have q1 : decide ((i : Int) < 8) = false := by simp; omega
              go_wp2_with fail
              go_roundw
              case rel => exact ⟨t + 1, by omega, by go_num, hbx⟩
              case measure => simp [intOf]; omega
          · have q1 : decide ((i : Int) < (ny : Int)) = false := by simp; omega
            have q2 : decide (i < ny) = false := by simp; omega
            go_wp2_with fail
            go_roundw
            case rel => exact ⟨t + 1, by omega, by go_num, hbx⟩
            case measure => simp [intOf]; omega
        · have q1 : decide ((i : Int) < (nx : Int)) = false := by simp; omega
          have q2 : decide (i < nx) = false := by simp; omega
          go_wp2_with fail
          go_roundw
          case rel => exact ⟨t + 1, by omega, by go_num, hbx⟩
          case measure => simp [intOf]; omega
    · go_wp2_with (go_at_call 9; refine (wakes9 _).mono ?_; rintro e w' ⟨rfl, hbel⟩)
      go_ret
      have hi := hI.out.step hbx.out
      have := hi.bel.trans (hbel.mono (Nat.le_of_lt hi.lt))
      rw [HW0.out]
      exact ⟨rfl, this⟩

set_option maxRecDepth 100000 in
set_option maxHeartbeats 2000000 in
theorem moved_no (W H : Int) (a : Option Addr) (n cap : Nat) (B : Nat → Nat) (tt : Int) (ax : Option Addr) (nx cx : Nat) (ay : Option Addr) (ny cy : Nat) (w : World)
    (hB : IsWords w a n cap B) (ho : ¬ okB W H n B) :
    Calls Try.prog 6 #[.agg #[.int .i64 W, .int .i64 H, .slice a n cap, .int .i64 tt, .slice ax nx cx, .slice ay ny cy]] w fun e w' => e = .returned (.bool true) ∧ Below w.heap.size w w' := by
  have HO := Lib.hid ho
  have HBW := Lib.hid hB
  have HI0 := Lib.hid (AInv.new w W H a n cap tt ax nx cx ay ny cy)
  clear hB ho
  go_enter Try.func6, Try.ntmps6
  go_upto_region 1 with fail
  obtain ⟨W0, hW0⟩ : ∃ W0, w.heap.size = W0 := ⟨_, rfl⟩
  have HI := Lib.hid (hW0 ▸ HI0.out)
  rw [hW0]
  have HW0 := Lib.hid hW0
  clear hW0 HI0
  generalize w.alloc (.cells #[.int .i64 W, .int .i64 H, .slice a n cap, .int .i64 tt, .slice ax nx cx, .slice ay ny cy] 27) = w0 at *
  have c0 := HI.out.c0
  have c1 := HI.out.c1
  have c2 := HI.out.c2
  go_wp2_with (first
    | (go_at_call 8; refine (may0 W H a n cap B false _ (HI.out.words HW0.out HBW.out) (by simp [HO.out])).mono ?_; rintro e w1 ⟨rfl, hbel⟩; have HI1 := Lib.hid (HI.out.step hbel); have c0 := HI1.out.c0; have c1 := HI1.out.c1; have c2 := HI1.out.c2; have c4 := HI1.out.c4; have c5 := HI1.out.c5; clear hbel)
    | (go_at_call 9; refine (wakes9 _).mono ?_; rintro e w' ⟨rfl, hbel⟩))
  go_ret
  rw [HW0.out]
  exact ⟨rfl, HI1.out.bel.trans (hbel.mono (Nat.le_of_lt HI1.out.lt))⟩

set_option maxRecDepth 100000 in
set_option maxHeartbeats 2000000 in
theorem moved_big (W H : Nat) (a : Option Addr) (n cap : Nat) (B : Nat → Nat) (tt : Int) (ax : Option Addr) (nx cx : Nat) (ay : Option Addr) (ny cy : Nat) (w : World)
    (hB : IsWords w a n cap B) (ho : okB W H n B) (h1 : ¬ (W : Int) * (H : Int) ≤ 8000) :
    Calls Try.prog 6 #[.agg #[.int .i64 (W : Int), .int .i64 (H : Int), .slice a n cap, .int .i64 tt, .slice ax nx cx, .slice ay ny cy]] w fun e w' => e = .returned (.bool true) ∧ Below w.heap.size w w' := by
  have hp : (W : Int) * (H : Int) ≤ 1048576 := ho.1.2.2
  have hwr : IntKind.i64.wrap ((W : Int) * (H : Int)) = (W : Int) * (H : Int) := IntWalk.i64_in _ (by omega)
  have h3 : decide ((8000 : Int) < (W : Int) * (H : Int)) = true := by simp; omega
  have HO := Lib.hid ho
  have HBW := Lib.hid hB
  have HI0 := Lib.hid (AInv.new w (W : Int) (H : Int) a n cap tt ax nx cx ay ny cy)
  clear hB ho h1 hp
  go_enter Try.func6, Try.ntmps6
  go_upto_region 1 with fail
  obtain ⟨W0, hW0⟩ : ∃ W0, w.heap.size = W0 := ⟨_, rfl⟩
  have HI := Lib.hid (hW0 ▸ HI0.out)
  rw [hW0]
  have HW0 := Lib.hid hW0
  clear hW0 HI0
  generalize w.alloc (.cells #[.int .i64 (W : Int), .int .i64 (H : Int), .slice a n cap, .int .i64 tt, .slice ax nx cx, .slice ay ny cy] 27) = w0 at *
  have c0 := HI.out.c0
  have c1 := HI.out.c1
  have c2 := HI.out.c2
  go_wp2_with (first
    | (go_at_call 8; refine (may0 W H a n cap B true _ (HI.out.words HW0.out HBW.out) (by simp [HO.out])).mono ?_; rintro e w1 ⟨rfl, hbel⟩; have HI1 := Lib.hid (HI.out.step hbel); have c0 := HI1.out.c0; have c1 := HI1.out.c1; have c2 := HI1.out.c2; have c4 := HI1.out.c4; have c5 := HI1.out.c5; clear hbel)
    | (go_at_call 9; refine (wakes9 _).mono ?_; rintro e w' ⟨rfl, hbel⟩))
  go_ret
  rw [HW0.out]
  exact ⟨rfl, HI1.out.bel.trans (hbel.mono (Nat.le_of_lt HI1.out.lt))⟩

set_option maxRecDepth 100000 in
set_option maxHeartbeats 2000000 in
theorem moved_nx (W H : Nat) (a : Option Addr) (n cap : Nat) (B : Nat → Nat) (tt : Int) (ax : Option Addr) (nx cx : Nat) (ay : Option Addr) (ny cy : Nat) (w : World)
    (hB : IsWords w a n cap B) (ho : okB W H n B) (h1 : (W : Int) * (H : Int) ≤ 8000) (hx : nx = 0) :
    Calls Try.prog 6 #[.agg #[.int .i64 (W : Int), .int .i64 (H : Int), .slice a n cap, .int .i64 tt, .slice ax nx cx, .slice ay ny cy]] w fun e w' => e = .returned (.bool true) ∧ Below w.heap.size w w' := by
  have hp : 0 ≤ (W : Int) * (H : Int) := Int.mul_nonneg (by omega) (by omega)
  have hwr : IntKind.i64.wrap ((W : Int) * (H : Int)) = (W : Int) * (H : Int) := IntWalk.i64_in _ (by omega)
  have h3 : decide ((8000 : Int) < (W : Int) * (H : Int)) = false := by simp; omega
  have hx1 : ((nx : Int) == 0) = true := by simp; omega
  have HO := Lib.hid ho
  have HBW := Lib.hid hB
  have HI0 := Lib.hid (AInv.new w (W : Int) (H : Int) a n cap tt ax nx cx ay ny cy)
  clear hB ho h1 hp hx
  go_enter Try.func6, Try.ntmps6
  go_upto_region 1 with fail
  obtain ⟨W0, hW0⟩ : ∃ W0, w.heap.size = W0 := ⟨_, rfl⟩
  have HI := Lib.hid (hW0 ▸ HI0.out)
  rw [hW0]
  have HW0 := Lib.hid hW0
  clear hW0 HI0
  generalize w.alloc (.cells #[.int .i64 (W : Int), .int .i64 (H : Int), .slice a n cap, .int .i64 tt, .slice ax nx cx, .slice ay ny cy] 27) = w0 at *
  have c0 := HI.out.c0
  have c1 := HI.out.c1
  have c2 := HI.out.c2
  go_wp2_with (first
    | (go_at_call 8; refine (may0 W H a n cap B true _ (HI.out.words HW0.out HBW.out) (by simp [HO.out])).mono ?_; rintro e w1 ⟨rfl, hbel⟩; have HI1 := Lib.hid (HI.out.step hbel); have c0 := HI1.out.c0; have c1 := HI1.out.c1; have c2 := HI1.out.c2; have c4 := HI1.out.c4; have c5 := HI1.out.c5; clear hbel)
    | (go_at_call 9; refine (wakes9 _).mono ?_; rintro e w' ⟨rfl, hbel⟩))
  go_ret
  rw [HW0.out]
  exact ⟨rfl, HI1.out.bel.trans (hbel.mono (Nat.le_of_lt HI1.out.lt))⟩

set_option maxRecDepth 100000 in
set_option maxHeartbeats 2000000 in
theorem moved_ny (W H : Nat) (a : Option Addr) (n cap : Nat) (B : Nat → Nat) (tt : Int) (ax : Option Addr) (nx cx : Nat) (ay : Option Addr) (ny cy : Nat) (w : World)
    (hB : IsWords w a n cap B) (ho : okB W H n B) (h1 : (W : Int) * (H : Int) ≤ 8000) (hx : 0 < nx) (hy : ny = 0) :
    Calls Try.prog 6 #[.agg #[.int .i64 (W : Int), .int .i64 (H : Int), .slice a n cap, .int .i64 tt, .slice ax nx cx, .slice ay ny cy]] w fun e w' => e = .returned (.bool true) ∧ Below w.heap.size w w' := by
  have hp : 0 ≤ (W : Int) * (H : Int) := Int.mul_nonneg (by omega) (by omega)
  have hwr : IntKind.i64.wrap ((W : Int) * (H : Int)) = (W : Int) * (H : Int) := IntWalk.i64_in _ (by omega)
  have h3 : decide ((8000 : Int) < (W : Int) * (H : Int)) = false := by simp; omega
  have hy1 : ((ny : Int) == 0) = true := by simp; omega
  have hx1 : ((nx : Int) == 0) = false := by simp; omega
  have HO := Lib.hid ho
  have HBW := Lib.hid hB
  have HI0 := Lib.hid (AInv.new w (W : Int) (H : Int) a n cap tt ax nx cx ay ny cy)
  clear hB ho h1 hp hy
  go_enter Try.func6, Try.ntmps6
  go_upto_region 1 with fail
  obtain ⟨W0, hW0⟩ : ∃ W0, w.heap.size = W0 := ⟨_, rfl⟩
  have HI := Lib.hid (hW0 ▸ HI0.out)
  rw [hW0]
  have HW0 := Lib.hid hW0
  clear hW0 HI0
  generalize w.alloc (.cells #[.int .i64 (W : Int), .int .i64 (H : Int), .slice a n cap, .int .i64 tt, .slice ax nx cx, .slice ay ny cy] 27) = w0 at *
  have c0 := HI.out.c0
  have c1 := HI.out.c1
  have c2 := HI.out.c2
  go_wp2_with (first
    | (go_at_call 8; refine (may0 W H a n cap B true _ (HI.out.words HW0.out HBW.out) (by simp [HO.out])).mono ?_; rintro e w1 ⟨rfl, hbel⟩; have HI1 := Lib.hid (HI.out.step hbel); have c0 := HI1.out.c0; have c1 := HI1.out.c1; have c2 := HI1.out.c2; have c4 := HI1.out.c4; have c5 := HI1.out.c5; clear hbel)
    | (go_at_call 9; refine (wakes9 _).mono ?_; rintro e w' ⟨rfl, hbel⟩))
  go_ret
  rw [HW0.out]
  exact ⟨rfl, HI1.out.bel.trans (hbel.mono (Nat.le_of_lt HI1.out.lt))⟩

set_option maxRecDepth 100000 in
set_option maxHeartbeats 2000000 in
theorem moved_long (W H : Nat) (a : Option Addr) (n cap : Nat) (B : Nat → Nat) (tt : Int) (ax : Option Addr) (nx cx : Nat) (ay : Option Addr) (ny cy : Nat) (w : World)
    (hB : IsWords w a n cap B) (ho : okB W H n B) (h1 : (W : Int) * (H : Int) ≤ 8000) (hx : 0 < nx) (hy : 0 < ny) (hn : n ≤ 17179869184) (h2 : ¬ 64 * (n : Int) + 64 ≤ 160000) :
    Calls Try.prog 6 #[.agg #[.int .i64 (W : Int), .int .i64 (H : Int), .slice a n cap, .int .i64 tt, .slice ax nx cx, .slice ay ny cy]] w fun e w' => e = .returned (.bool true) ∧ Below w.heap.size w w' := by
  have hp : 0 ≤ (W : Int) * (H : Int) := Int.mul_nonneg (by omega) (by omega)
  have hwr : IntKind.i64.wrap ((W : Int) * (H : Int)) = (W : Int) * (H : Int) := IntWalk.i64_in _ (by omega)
  have h3 : decide ((8000 : Int) < (W : Int) * (H : Int)) = false := by simp; omega
  have H2 := Lib.hid (decide_eq_false h2)
  have HN := Lib.hid hn
  have hx1 : ((nx : Int) == 0) = false := by simp; omega
  have hy1 : ((ny : Int) == 0) = false := by simp; omega
  have HO := Lib.hid ho
  have HBW := Lib.hid hB
  have HI0 := Lib.hid (AInv.new w (W : Int) (H : Int) a n cap tt ax nx cx ay ny cy)
  clear hB ho h1 hp h2 hn
  go_enter Try.func6, Try.ntmps6
  go_upto_region 1 with fail
  obtain ⟨W0, hW0⟩ : ∃ W0, w.heap.size = W0 := ⟨_, rfl⟩
  have HI := Lib.hid (hW0 ▸ HI0.out)
  rw [hW0]
  have HW0 := Lib.hid hW0
  clear hW0 HI0
  generalize w.alloc (.cells #[.int .i64 (W : Int), .int .i64 (H : Int), .slice a n cap, .int .i64 tt, .slice ax nx cx, .slice ay ny cy] 27) = w0 at *
  have c0 := HI.out.c0
  have c1 := HI.out.c1
  have c2 := HI.out.c2
  go_wp2_with (first
    | (go_at_call 8; refine (may0 W H a n cap B true _ (HI.out.words HW0.out HBW.out) (by simp [HO.out])).mono ?_; rintro e w1 ⟨rfl, hbel⟩; have HI1 := Lib.hid (HI.out.step hbel); have c0 := HI1.out.c0; have c1 := HI1.out.c1; have c2 := HI1.out.c2; have c4 := HI1.out.c4; have c5 := HI1.out.c5; clear hbel)
    | (go_at_call 21; refine (small1 w1.heap.size n cap a 160000 false _ HN.out (by rw [World.cell?_alloc_at _ _ _ _ rfl]; rfl) H2.out.symm).mono ?_; rintro e w' ⟨rfl, rfl⟩)
    | (go_at_call 9; refine (wakes9 _).mono ?_; rintro e w' ⟨rfl, hbel⟩))
  go_ret
  rw [HW0.out]
  have HI2 := HI1.out.step ((Below.refl w1.heap.size w1).alloc (Nat.le_refl _) (.cells #[.int .i64 (W : Int), .int .i64 (H : Int), .slice a n cap] 24))
  exact ⟨rfl, HI2.bel.trans (hbel.mono (Nat.le_of_lt HI2.lt))⟩

theorem moved_walk (W H : Int) (a : Option Addr) (n cap : Nat) (B : Nat → Nat) (tt : Int) (ax : Option Addr) (nx cx : Nat) (X : Nat → Int) (ay : Option Addr) (ny cy : Nat) (Y : Nat → Int) (w : World)
    (hB : IsWords w a n cap B) (hX : IsInts w ax nx X ∧ nx ≤ cx ∧ cx ≤ 9223372036854775807 ∧ ∀ i, i < nx → -9223372036854775808 ≤ X i ∧ X i ≤ 9223372036854775807)
    (hY : IsInts w ay ny Y ∧ ny ≤ cy ∧ cy ≤ 9223372036854775807 ∧ ∀ i, i < ny → -9223372036854775808 ≤ Y i ∧ Y i ≤ 9223372036854775807) :
    Calls Try.prog 6 #[.agg #[.int .i64 W, .int .i64 H, .slice a n cap, .int .i64 tt, .slice ax nx cx, .slice ay ny cy]] w fun e w' => e = .returned (.bool true) ∧ Below w.heap.size w w' := by
  by_cases ho : okB W H n B
  · obtain ⟨W, rfl⟩ : ∃ i : Nat, W = i := ⟨W.toNat, by have := ho.1.1; omega⟩
    obtain ⟨H, rfl⟩ : ∃ i : Nat, H = i := ⟨H.toNat, by have := ho.1.2.1; omega⟩
    have hn : n ≤ 17179869184 := by
      have h1 : n = H * wd W := by have := ho.2.1; simpa using this
      have h2 := (okS_le ho.1)
      rw [h1]
      exact Nat.le_trans (Nat.mul_le_mul (show H ≤ 1048576 by omega) (wd_le (W := W) (by omega))) (by decide)
    by_cases h1 : (W : Int) * (H : Int) ≤ 8000
    · by_cases hx : nx = 0
      · exact moved_nx W H a n cap B tt ax nx cx ay ny cy w hB ho h1 hx
      · by_cases hy : ny = 0
        · exact moved_ny W H a n cap B tt ax nx cx ay ny cy w hB ho h1 (by omega) hy
        · by_cases h2 : 64 * (n : Int) + 64 ≤ 160000
          · exact moved_main W H a n cap B tt ax nx cx X ay ny cy Y w hB hX.1 hY.1 ho h1 h2 (by omega) (by omega)
          · exact moved_long W H a n cap B tt ax nx cx ay ny cy w hB ho h1 (by omega) (by omega) hn h2
    · exact moved_big W H a n cap B tt ax nx cx ay ny cy w hB ho h1
  · exact moved_no W H a n cap B tt ax nx cx ay ny cy w hB ho
end Go.Proofs.Ytknhgenhknjkoaa

