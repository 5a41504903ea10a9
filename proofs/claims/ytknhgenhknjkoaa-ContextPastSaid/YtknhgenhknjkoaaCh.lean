/- The walk of ContextPast. Conditions: the bounds that each theorem names. -/
import Derived.Test.YtknhgenhknjkoaaAi
namespace Go.Proofs.Ytknhgenhknjkoaa
open Go.RowKit Go.Bm

set_option maxRecDepth 100000 in
set_option maxHeartbeats 8000000 in
theorem past_main (W H : Nat) (a : Option Addr) (n cap : Nat) (B : Nat → Nat) (tt : Int) (ax : Option Addr) (nx cx : Nat) (X : Nat → Int) (ay : Option Addr) (ny cy : Nat) (Y : Nat → Int) (w : World)
    (hB : IsWords w a n cap B) (hX : IsInts w ax nx X) (hY : IsInts w ay ny Y) (ho : okB W H n B) (h1 : (W : Int) * (H : Int) ≤ 8000) (h2 : 64 * (n : Int) + 64 ≤ 160000) (hx0 : 0 < nx) (hy0 : 0 < ny) :
    Calls Try.prog 5 #[.agg #[.int .i64 (W : Int), .int .i64 (H : Int), .slice a n cap, .int .i64 tt, .slice ax nx cx, .slice ay ny cy]] w fun e w' => e = .returned (.bool true) ∧ Below w.heap.size w w' := by
  have hw0 : 1 ≤ W := by have := ho.1.1; omega
  have hh0 : 1 ≤ H := by have := ho.1.2.1; omega
  have hw1 : W ≤ 1048576 := by have := (okS_le ho.1).1; omega
  have hw2 : H ≤ 1048576 := by have := (okS_le ho.1).2; omega
  have hp : 0 ≤ (W : Int) * (H : Int) := Int.mul_nonneg (by omega) (by omega)
  have hwr : IntKind.i64.wrap ((W : Int) * (H : Int)) = (W : Int) * (H : Int) := IntWalk.i64_in _ (by omega)
  have HN := Lib.hid (show n ≤ 17179869184 by omega)
  have H2 := Lib.hid (decide_eq_true h2)
  have h3 : decide ((8000 : Int) < (W : Int) * (H : Int)) = false := by simp; omega
  have hx1 : ((nx : Int) == 0) = false := by simp; omega
  have hy1 : ((ny : Int) == 0) = false := by simp; omega
  have HO := Lib.hid ho
  have HBW := Lib.hid hB
  have HXW := Lib.hid hX
  have HYW := Lib.hid hY
  have HI0 := Lib.hid (AInv.new w W H a n cap tt ax nx cx ay ny cy)
  clear hB ho hX hY h1 h2
  go_enter Try.func5, Try.ntmps5
  go_upto_region 1 with fail
  obtain ⟨W0, hW0⟩ : ∃ W0, w.heap.size = W0 := ⟨_, rfl⟩
  have HI := Lib.hid (hW0 ▸ HI0.out)
  rw [hW0]
  have HW0 := Lib.hid hW0
  clear hW0 HI0
  generalize w.alloc (.cells #[.int .i64 (W : Int), .int .i64 (H : Int), .slice a n cap, .int .i64 tt, .slice ax nx cx, .slice ay ny cy] 27) = w0 at *
  have c0 := HI.out.c0
  have c1 := HI.out.c1
  have c2 := HI.out.c2
  go_upto_region 3 with (first
    | (go_at_call 8; refine (may0 W H a n cap B true _ (HI.out.words HW0.out HBW.out) (by simp [HO.out])).mono ?_; rintro e w1 ⟨rfl, hbel⟩; have HI1 := Lib.hid (HI.out.step hbel); have c0 := HI1.out.c0; have c1 := HI1.out.c1; have c2 := HI1.out.c2; have c4 := HI1.out.c4; have c5 := HI1.out.c5; clear hbel)
    | (go_at_call 21; refine (small1 w1.heap.size n cap a 160000 true _ HN.out (by rw [World.cell?_alloc_at _ _ _ _ rfl]; rfl) H2.out.symm).mono ?_; rintro e w' ⟨rfl, rfl⟩))
  have HI2 := Lib.hid (HI1.out.step ((Below.refl w1.heap.size w1).alloc (Nat.le_refl _) (.cells #[.int .i64 (W : Int), .int .i64 (H : Int), .slice a n cap] 24)))
  clear HI HI1 c0 c1 c2 c4 c5 hwr hp h3 H2
  generalize w1.alloc (.cells #[.int .i64 (W : Int), .int .i64 (H : Int), .slice a n cap] 24) = w2 at *
  obtain ⟨x, hxm⟩ : ∃ x : Nat, X 0 % (W : Int) = x := ⟨(X 0 % (W : Int)).toNat, by have := Int.emod_nonneg (X 0) (show (W : Int) ≠ 0 by omega); omega⟩
  obtain ⟨y, hym⟩ : ∃ y : Nat, Y 0 % (H : Int) = y := ⟨(Y 0 % (H : Int)).toNat, by have := Int.emod_nonneg (Y 0) (show (H : Int) ≠ 0 by omega); omega⟩
  have hxW : x < W := by have := Int.emod_lt_of_pos (X 0) (show (0 : Int) < W by omega); omega
  have hyH : y < H := by have := Int.emod_lt_of_pos (Y 0) (show (0 : Int) < H by omega); omega
  have HXM := Lib.hid hxm
  have HYM := Lib.hid hym
  obtain ⟨bx, ox, rfl, _, hcx⟩ := (HI2.out.intsX HW0.out HXW.out).at hx0
  obtain ⟨by', oy, rfl, _, hcy⟩ := (HI2.out.intsY HW0.out HYW.out).at hy0
  have dx : w2.cell? ⟨bx, ox, none⟩ = some (.int .i64 (X 0)) := hcx 0 hx0
  have dy : w2.cell? ⟨by', oy, none⟩ = some (.int .i64 (Y 0)) := hcy 0 hy0
  have hx2 : (0 : Int) < (nx : Int) := by omega
  have hy2 : (0 : Int) < (ny : Int) := by omega
  clear hxm hym hcx hcy
  have c0 := HI2.out.c0
  have c1 := HI2.out.c1
  have c4 := HI2.out.c4
  have c5 := HI2.out.c5
  go_quiet ((go_at_call 22; exact quiet0 (within_nat _ _ _ _ hw0 hw1 HXM.out)))
  go_upto_region 4 with fail
  have HI3 := Lib.hid (HI2.out.step (below_drewN (Below.refl _ _) nq))
  have dy : (w2.drewN nq).cell? ⟨by', oy, none⟩ = some (.int .i64 (Y 0)) := dy
  clear c0 c1 c4 c5 dx HI2
  generalize w2.drewN nq = w3 at *
  have c0 := HI3.out.c0
  have c1 := HI3.out.c1
  have c5 := HI3.out.c5
  go_quiet ((go_at_call 22; exact quiet0 (within_nat _ _ _ _ hh0 hw2 HYM.out)))
  have HI4 := Lib.hid (HI3.out.step (below_drewN (Below.refl _ _) nq))
  clear c0 c1 c5 dy HI3 HXM HYM
  generalize w3.drewN nq = w4 at *
  have c0 := HI4.out.c0
  have c1 := HI4.out.c1
  have c2 := HI4.out.c2
  have hn0 : n = H * wd W := by have := HO.out.2.1; simpa using this
  have hn1 : 0 < n := by
    have hwp : 1 ≤ wd W := by unfold wd; omega
    have : 1 * 1 ≤ H * wd W := Nat.mul_le_mul (by omega) hwp
    omega
  have HN0 := Lib.hid hn0
  have HN1 := Lib.hid hn1
  clear hn0 hn1
  go_upto_region 6 with (go_at_call 23; refine (copy0 W H a n cap B _ (HI4.out.words HW0.out HBW.out) HN1.out HN.out).mono ?_; rintro e w5 ⟨g, cp, rfl, hc1, hc2, hown, hge, hbel⟩)
  have HC1 := Lib.hid hc1
  have HC2 := Lib.hid hc2
  have hbx := (Below.refl w5.heap.size w5).alloc (Nat.le_refl _) (.cells #[.int .i64 (W : Int), .int .i64 (H : Int), .slice (some ⟨g, 0, none⟩) n cp] 24)
  have HI5 := Lib.hid ((HI4.out.step hbel).step hbx)
  have HOW := Lib.hid (hown.below hbx)
  have hW0g : W0 < g := Nat.lt_of_lt_of_le HI4.out.lt hge
  have e0 : (w5.alloc (.cells #[.int .i64 (W : Int), .int .i64 (H : Int), .slice (some ⟨g, 0, none⟩) n cp] 24)).cell? ⟨w5.heap.size, 0, none⟩ = some (.int .i64 (W : Int)) := by rw [World.cell?_alloc_at _ _ _ _ rfl]; rfl
  have e1 : (w5.alloc (.cells #[.int .i64 (W : Int), .int .i64 (H : Int), .slice (some ⟨g, 0, none⟩) n cp] 24)).cell? ⟨w5.heap.size, 1, none⟩ = some (.int .i64 (H : Int)) := by rw [World.cell?_alloc_at _ _ _ _ rfl]; rfl
  have e2 : (w5.alloc (.cells #[.int .i64 (W : Int), .int .i64 (H : Int), .slice (some ⟨g, 0, none⟩) n cp] 24)).cell? ⟨w5.heap.size, 2, none⟩ = some (.slice (some ⟨g, 0, none⟩) n cp) := by rw [World.cell?_alloc_at _ _ _ _ rfl]; rfl
  have hgc : g < w5.heap.size := hown.lt
  obtain ⟨gc, hgce⟩ : ∃ gc, w5.heap.size = gc := ⟨_, rfl⟩
  rw [hgce] at e0 e1 e2 hgc ⊢
  clear hgce hc1 hc2 hbx hown hge hbel HI4 c0 c1 c2
  generalize w5.alloc (.cells #[.int .i64 (W : Int), .int .i64 (H : Int), .slice (some ⟨g, 0, none⟩) n cp] 24) = w6 at *
  have hgc2 : gc < w6.heap.size := World.block_lt_of_cell? w6 _ e0
  have E0 := Lib.hid e0
  have E1 := Lib.hid e1
  have E2 := Lib.hid e2
  clear e0 e1 e2
  go_wp2_with fail
  go_loopw [6] (fun v wr => ∃ j : Nat, y ≤ j ∧ j ≤ H ∧ v = .int .i64 j ∧ ∃ C, Hid (Turned W H n B x y C) ∧ Hid (IsOwn wr g n C) ∧ Hid (w6.grownBy wr (some g))) (fun v _ => H - (intOf v).toNat)
  case atStart => exact ⟨y, Nat.le_refl _, Nat.le_of_lt hyH, rfl, B, ⟨HO.out, fun _ _ _ => rfl⟩, HOW, grown_refl _ _⟩
  case round =>
    obtain ⟨j, hyj, hj, rfl, C, hT, hown, hgr⟩ := hrel
    have c0 := (hgr.out.cell_far ⟨gc, 0, none⟩ hgc2 (by simp; omega)).trans E0.out
    have c1 := (hgr.out.cell_far ⟨gc, 1, none⟩ hgc2 (by simp; omega)).trans E1.out
    have c2 := (hgr.out.cell_far ⟨gc, 2, none⟩ hgc2 (by simp; omega)).trans E2.out
    by_cases hjH : j < H
    · go_wp2_with fail
      clear c0 c1 c2
      go_loopw [7] (fun v wr => ∃ i : Nat, i ≤ W ∧ v = .int .i64 i ∧ ∃ C, Hid (Turned W H n B x y C) ∧ Hid (IsOwn wr g n C) ∧ Hid (w6.grownBy wr (some g))) (fun v _ => W - (intOf v).toNat)
      case atStart => exact ⟨0, Nat.zero_le _, rfl, C, hT, hown, hgr⟩
      case round =>
        clear hT hown hgr
        obtain ⟨i, hi, rfl, C, hT, hown, hgr⟩ := hrel
        have c0 := (hgr.out.cell_far ⟨gc, 0, none⟩ hgc2 (by simp; omega)).trans E0.out
        have c1 := (hgr.out.cell_far ⟨gc, 1, none⟩ hgc2 (by simp; omega)).trans E1.out
        have c2 := (hgr.out.cell_far ⟨gc, 2, none⟩ hgc2 (by simp; omega)).trans E2.out
        have hgcr : gc < wr.heap.size := Nat.lt_of_lt_of_le hgc2 hgr.out.size
        by_cases hiW : i < W
        · have hpl := px_le W H C i j
          by_cases q1 : y < j
          · go_upto_region 13 with fail
            have hcc : y < j ∨ (y ≤ j ∧ x ≤ i) := by omega
            have HCC := Lib.hid hcc
            have hng : (some gc : Option Nat) ≠ some g := by simp; omega
            have hsub : IntKind.i64.wrap (1 - (px W H C i j : Int)) = ((1 - px W H C i j : Nat) : Int) := by rw [IntWalk.i64_in _ (by omega)]; omega
            clear hcc
            go_region_held3 (fun w' => w'.cell? ⟨gc, 0, none⟩ = some (.int .i64 (W : Int)) ∧ w'.cell? ⟨gc, 1, none⟩ = some (.int .i64 (H : Int)) ∧ w'.cell? ⟨gc, 2, none⟩ = some (.slice (some ⟨g, 0, none⟩) n cp)) (go_keep)
              ((first
                | (go_at_call 25; refine (get_any W H (some ⟨g, 0, none⟩) n cp C i j _ hw1 hw2 HN0.out ?_).mono ?_; exact (hown.out.words HC1.out HC2.out); rintro e w7 ⟨rfl, hb7⟩; have hb7 : Below wr.heap.size wr w7 := Below.trans (Below.drew (Below.refl _ wr)) hb7; have o7 := Lib.hid (hown.out.below hb7); have c0 := (hb7.cell (p := ⟨gc, 0, none⟩) hgcr).trans c0; have c1 := (hb7.cell (p := ⟨gc, 1, none⟩) hgcr).trans c1; have c2 := (hb7.cell (p := ⟨gc, 2, none⟩) hgcr).trans c2; have hg7 := Lib.hid (hgr.out.trans (grown_of_below hb7 _)); have hl7 : gc < w7.heap.size := Nat.lt_of_lt_of_le hgcr hb7.size; clear hb7)
                | (go_at_call 24; refine (putI W H g n cp C i j (1 - px W H C i j) _ _ hw1 hw2 HN0.out ?_ hiW hjH ?_ ?_).mono ?_; exact o7.out; exact Nat.sub_le _ _; (first | rfl | exact hsub); rintro e w8 ⟨rfl, o8, g8⟩; have hg8 := Lib.hid (hg7.out.trans g8); have c0 := (g8.cell_far ⟨gc, 0, none⟩ hl7 hng).trans c0; have c1 := (g8.cell_far ⟨gc, 1, none⟩ hl7 hng).trans c1; have c2 := (g8.cell_far ⟨gc, 2, none⟩ hl7 hng).trans c2; have O8 := Lib.hid o8; clear o8 g8)))
            clear c0 c1 c2 hsub
            go_wp2_with fail
            go_roundw
            case rel => exact ⟨i + 1, by omega, by go_num, _, hT.out.step hiW (by omega) HCC.out, O8.out, hg8⟩
            case measure => simp [intOf]; omega
          · by_cases q2 : x ≤ i
            · go_upto_region 13 with fail
              have hcc : y < j ∨ (y ≤ j ∧ x ≤ i) := by omega
              have HCC := Lib.hid hcc
              have hng : (some gc : Option Nat) ≠ some g := by simp; omega
              have hsub : IntKind.i64.wrap (1 - (px W H C i j : Int)) = ((1 - px W H C i j : Nat) : Int) := by rw [IntWalk.i64_in _ (by omega)]; omega
              clear hcc
              go_region_held3 (fun w' => w'.cell? ⟨gc, 0, none⟩ = some (.int .i64 (W : Int)) ∧ w'.cell? ⟨gc, 1, none⟩ = some (.int .i64 (H : Int)) ∧ w'.cell? ⟨gc, 2, none⟩ = some (.slice (some ⟨g, 0, none⟩) n cp)) (go_keep)
                ((first
                  | (go_at_call 25; refine (get_any W H (some ⟨g, 0, none⟩) n cp C i j _ hw1 hw2 HN0.out ?_).mono ?_; exact (hown.out.words HC1.out HC2.out); rintro e w7 ⟨rfl, hb7⟩; have hb7 : Below wr.heap.size wr w7 := Below.trans (Below.drew (Below.refl _ wr)) hb7; have o7 := Lib.hid (hown.out.below hb7); have c0 := (hb7.cell (p := ⟨gc, 0, none⟩) hgcr).trans c0; have c1 := (hb7.cell (p := ⟨gc, 1, none⟩) hgcr).trans c1; have c2 := (hb7.cell (p := ⟨gc, 2, none⟩) hgcr).trans c2; have hg7 := Lib.hid (hgr.out.trans (grown_of_below hb7 _)); have hl7 : gc < w7.heap.size := Nat.lt_of_lt_of_le hgcr hb7.size; clear hb7)
                  | (go_at_call 24; refine (putI W H g n cp C i j (1 - px W H C i j) _ _ hw1 hw2 HN0.out ?_ hiW hjH ?_ ?_).mono ?_; exact o7.out; exact Nat.sub_le _ _; (first | rfl | exact hsub); rintro e w8 ⟨rfl, o8, g8⟩; have hg8 := Lib.hid (hg7.out.trans g8); have c0 := (g8.cell_far ⟨gc, 0, none⟩ hl7 hng).trans c0; have c1 := (g8.cell_far ⟨gc, 1, none⟩ hl7 hng).trans c1; have c2 := (g8.cell_far ⟨gc, 2, none⟩ hl7 hng).trans c2; have O8 := Lib.hid o8; clear o8 g8)))
              clear c0 c1 c2 hsub
              go_wp2_with fail
              go_roundw
              case rel => exact ⟨i + 1, by omega, by go_num, _, hT.out.step hiW (by omega) HCC.out, O8.out, hg8⟩
              case measure => simp [intOf]; omega
            · have q3 : decide (y < j) = false := by simp; omega
              have q4 : decide (x ≤ i) = false := by simp; omega
              go_wp2_with fail
              go_roundw
              case rel => exact ⟨i + 1, by omega, by go_num, C, hT, hown, hgr⟩
              case measure => simp [intOf]; omega
        · go_wp2_with fail
          go_roundw
          case rel => exact ⟨j + 1, by omega, by omega, by go_num, C, hT, hown, hgr⟩
          case measure => simp [intOf]; omega
    · have hI := Lib.hid (HI5.out.grown hgr.out hW0g)
      have hgcr : gc < wr.heap.size := Nat.lt_of_lt_of_le hgc2 hgr.out.size
      have C0 := Lib.hid c0
      have C1 := Lib.hid c1
      have C2 := Lib.hid c2
      go_wp2_with fail
      clear c0 c1 c2
      obtain ⟨w9, rfl⟩ : ∃ w9 : World, w9 = wr := ⟨_, rfl⟩
      go_loopw [8] (fun v wx => ∃ t : Nat, t ≤ 4 ∧ v = .int .i64 t ∧ Hid (Below w9.heap.size w9 wx)) (fun v _ => 4 - (intOf v).toNat)
      case atStart => exact ⟨0, by omega, rfl, Below.refl _ _⟩
      case round =>
        obtain ⟨t, ht4, rfl, hbx⟩ := hrel
        have hi := Lib.hid (hI.out.step hbx.out)
        by_cases hlt : t < 4
        · have HQ := Lib.hid (hT.out.ctx hlt)
          have c0 := hi.out.c0
          have c1 := hi.out.c1
          have c2 := hi.out.c2
          go_upto_region 18 with (go_at_call 14; refine (at_ok W H a n cap B t x y _ (hi.out.words HW0.out HBW.out) HO.out hlt).mono ?_; rintro e w10 ⟨rfl, hb10⟩)
          have bel10 := Lib.hid (hbx.out.trans (hb10.mono hbx.out.size))
          clear c0 c1 c2 hb10 hbx
          have e0 := (bel10.out.cell (p := ⟨gc, 0, none⟩) hgcr).trans C0.out
          have e1 := (bel10.out.cell (p := ⟨gc, 1, none⟩) hgcr).trans C1.out
          have e2 := (bel10.out.cell (p := ⟨gc, 2, none⟩) hgcr).trans C2.out
          have ho10 := Lib.hid (hown.out.below bel10.out)
          go_upto_region 19 with (go_at_call 14; refine (at_ok W H (some ⟨g, 0, none⟩) n cp C t x y _ (ho10.out.words HC1.out HC2.out) hT.out.1 hlt).mono ?_; rintro e w11 ⟨rfl, hb11⟩)
          rw [HQ.out]
          have bel11 := Lib.hid (bel10.out.trans (hb11.mono bel10.out.size))
          have ho11 := Lib.hid (ho10.out.below hb11)
          clear e0 e1 e2 hb11 bel10 ho10
          have e0 := (bel11.out.cell (p := ⟨gc, 0, none⟩) hgcr).trans C0.out
          have e1 := (bel11.out.cell (p := ⟨gc, 1, none⟩) hgcr).trans C1.out
          have e2 := (bel11.out.cell (p := ⟨gc, 2, none⟩) hgcr).trans C2.out
          go_upto_region 20 with (go_at_call 15; refine (row_ok W H (some ⟨g, 0, none⟩) n cp C t y _ (ho11.out.words HC1.out HC2.out) hT.out.1 hlt hyH).mono ?_; rintro e w12 ⟨gr, _, rfl, hh, hb12⟩)
          have bel12 := Lib.hid (bel11.out.trans (hb12.mono bel11.out.size))
          have d : w12.cell? ⟨gr, x, none⟩ = some (.int .i64 (ctx t (px W H B) x y : Nat)) := by
            rw [Joins.cell_of_block hh, ivals_get _ _ hxW, HQ.out]
          clear e0 e1 e2 hb12 bel11 ho11 hh
          have e0 := (bel12.out.cell (p := ⟨gc, 0, none⟩) hgcr).trans C0.out
          generalize ctx t (px W H B) x y = cv at *
          go_wp2_with fail
          go_roundw
          case rel => exact ⟨t + 1, by omega, by go_num, bel12⟩
          case measure => simp [intOf]; omega
        · go_wp2_with (go_at_call 9; refine (wakes9 _).mono ?_; rintro e w' ⟨rfl, hbel⟩)
          go_ret
          have hl := hi.out.lt
          refine ⟨rfl, ?_⟩
          have := hi.out.bel.trans (hbel.mono (Nat.le_of_lt hl))
          rw [HW0.out]
          exact this

set_option maxRecDepth 100000 in
set_option maxHeartbeats 2000000 in
theorem past_no (W H : Int) (a : Option Addr) (n cap : Nat) (B : Nat → Nat) (tt : Int) (ax : Option Addr) (nx cx : Nat) (ay : Option Addr) (ny cy : Nat) (w : World)
    (hB : IsWords w a n cap B) (ho : ¬ okB W H n B) :
    Calls Try.prog 5 #[.agg #[.int .i64 W, .int .i64 H, .slice a n cap, .int .i64 tt, .slice ax nx cx, .slice ay ny cy]] w fun e w' => e = .returned (.bool true) ∧ Below w.heap.size w w' := by
  have HO := Lib.hid ho
  have HBW := Lib.hid hB
  have HI0 := Lib.hid (AInv.new w W H a n cap tt ax nx cx ay ny cy)
  clear hB ho
  go_enter Try.func5, Try.ntmps5
  go_upto_region 1 with fail
  obtain ⟨W0, hW0⟩ : ∃ W0, w.heap.size = W0 := ⟨_, rfl⟩
  have HI := Lib.hid (hW0 ▸ HI0.out)
  rw [hW0]
  have HW0 := Lib.hid hW0
  clear hW0 HI0
  generalize w.alloc (.cells #[.int .i64 W, .int .i64 H, .slice a n cap, .int .i64 tt, .slice ax nx cx, .slice ay ny cy] 27) = w0 at *
  have c0 := HI.out.c0
  have c1 := HI.out.c1
  have c2 := HI.out.c2
  go_wp2_with (first
    | (go_at_call 8; refine (may0 W H a n cap B false _ (HI.out.words HW0.out HBW.out) (by simp [HO.out])).mono ?_; rintro e w1 ⟨rfl, hbel⟩; have HI1 := Lib.hid (HI.out.step hbel); have c0 := HI1.out.c0; have c1 := HI1.out.c1; have c2 := HI1.out.c2; have c4 := HI1.out.c4; have c5 := HI1.out.c5; clear hbel)
    | (go_at_call 9; refine (wakes9 _).mono ?_; rintro e w' ⟨rfl, hbel⟩))
  go_ret
  rw [HW0.out]
  exact ⟨rfl, HI1.out.bel.trans (hbel.mono (Nat.le_of_lt HI1.out.lt))⟩

set_option maxRecDepth 100000 in
set_option maxHeartbeats 2000000 in
theorem past_big (W H : Nat) (a : Option Addr) (n cap : Nat) (B : Nat → Nat) (tt : Int) (ax : Option Addr) (nx cx : Nat) (ay : Option Addr) (ny cy : Nat) (w : World)
    (hB : IsWords w a n cap B) (ho : okB W H n B) (h1 : ¬ (W : Int) * (H : Int) ≤ 8000) :
    Calls Try.prog 5 #[.agg #[.int .i64 (W : Int), .int .i64 (H : Int), .slice a n cap, .int .i64 tt, .slice ax nx cx, .slice ay ny cy]] w fun e w' => e = .returned (.bool true) ∧ Below w.heap.size w w' := by
  have hp : (W : Int) * (H : Int) ≤ 1048576 := ho.1.2.2
  have hwr : IntKind.i64.wrap ((W : Int) * (H : Int)) = (W : Int) * (H : Int) := IntWalk.i64_in _ (by omega)
  have h3 : decide ((8000 : Int) < (W : Int) * (H : Int)) = true := by simp; omega
  have HO := Lib.hid ho
  have HBW := Lib.hid hB
  have HI0 := Lib.hid (AInv.new w (W : Int) (H : Int) a n cap tt ax nx cx ay ny cy)
  clear hB ho h1 hp
  go_enter Try.func5, Try.ntmps5
  go_upto_region 1 with fail
  obtain ⟨W0, hW0⟩ : ∃ W0, w.heap.size = W0 := ⟨_, rfl⟩
  have HI := Lib.hid (hW0 ▸ HI0.out)
  rw [hW0]
  have HW0 := Lib.hid hW0
  clear hW0 HI0
  generalize w.alloc (.cells #[.int .i64 (W : Int), .int .i64 (H : Int), .slice a n cap, .int .i64 tt, .slice ax nx cx, .slice ay ny cy] 27) = w0 at *
  have c0 := HI.out.c0
  have c1 := HI.out.c1
  have c2 := HI.out.c2
  go_wp2_with (first
    | (go_at_call 8; refine (may0 W H a n cap B true _ (HI.out.words HW0.out HBW.out) (by simp [HO.out])).mono ?_; rintro e w1 ⟨rfl, hbel⟩; have HI1 := Lib.hid (HI.out.step hbel); have c0 := HI1.out.c0; have c1 := HI1.out.c1; have c2 := HI1.out.c2; have c4 := HI1.out.c4; have c5 := HI1.out.c5; clear hbel)
    | (go_at_call 9; refine (wakes9 _).mono ?_; rintro e w' ⟨rfl, hbel⟩))
  go_ret
  rw [HW0.out]
  exact ⟨rfl, HI1.out.bel.trans (hbel.mono (Nat.le_of_lt HI1.out.lt))⟩

set_option maxRecDepth 100000 in
set_option maxHeartbeats 2000000 in
theorem past_nx (W H : Nat) (a : Option Addr) (n cap : Nat) (B : Nat → Nat) (tt : Int) (ax : Option Addr) (nx cx : Nat) (ay : Option Addr) (ny cy : Nat) (w : World)
    (hB : IsWords w a n cap B) (ho : okB W H n B) (h1 : (W : Int) * (H : Int) ≤ 8000) (hx : nx = 0) :
    Calls Try.prog 5 #[.agg #[.int .i64 (W : Int), .int .i64 (H : Int), .slice a n cap, .int .i64 tt, .slice ax nx cx, .slice ay ny cy]] w fun e w' => e = .returned (.bool true) ∧ Below w.heap.size w w' := by
  have hp : 0 ≤ (W : Int) * (H : Int) := Int.mul_nonneg (by omega) (by omega)
  have hwr : IntKind.i64.wrap ((W : Int) * (H : Int)) = (W : Int) * (H : Int) := IntWalk.i64_in _ (by omega)
  have h3 : decide ((8000 : Int) < (W : Int) * (H : Int)) = false := by simp; omega
  have hx1 : ((nx : Int) == 0) = true := by simp; omega
  have HO := Lib.hid ho
  have HBW := Lib.hid hB
  have HI0 := Lib.hid (AInv.new w (W : Int) (H : Int) a n cap tt ax nx cx ay ny cy)
  clear hB ho h1 hp hx
  go_enter Try.func5, Try.ntmps5
  go_upto_region 1 with fail
  obtain ⟨W0, hW0⟩ : ∃ W0, w.heap.size = W0 := ⟨_, rfl⟩
  have HI := Lib.hid (hW0 ▸ HI0.out)
  rw [hW0]
  have HW0 := Lib.hid hW0
  clear hW0 HI0
  generalize w.alloc (.cells #[.int .i64 (W : Int), .int .i64 (H : Int), .slice a n cap, .int .i64 tt, .slice ax nx cx, .slice ay ny cy] 27) = w0 at *
  have c0 := HI.out.c0
  have c1 := HI.out.c1
  have c2 := HI.out.c2
  go_wp2_with (first
    | (go_at_call 8; refine (may0 W H a n cap B true _ (HI.out.words HW0.out HBW.out) (by simp [HO.out])).mono ?_; rintro e w1 ⟨rfl, hbel⟩; have HI1 := Lib.hid (HI.out.step hbel); have c0 := HI1.out.c0; have c1 := HI1.out.c1; have c2 := HI1.out.c2; have c4 := HI1.out.c4; have c5 := HI1.out.c5; clear hbel)
    | (go_at_call 9; refine (wakes9 _).mono ?_; rintro e w' ⟨rfl, hbel⟩))
  go_ret
  rw [HW0.out]
  exact ⟨rfl, HI1.out.bel.trans (hbel.mono (Nat.le_of_lt HI1.out.lt))⟩

set_option maxRecDepth 100000 in
set_option maxHeartbeats 2000000 in
theorem past_ny (W H : Nat) (a : Option Addr) (n cap : Nat) (B : Nat → Nat) (tt : Int) (ax : Option Addr) (nx cx : Nat) (ay : Option Addr) (ny cy : Nat) (w : World)
    (hB : IsWords w a n cap B) (ho : okB W H n B) (h1 : (W : Int) * (H : Int) ≤ 8000) (hx : 0 < nx) (hy : ny = 0) :
    Calls Try.prog 5 #[.agg #[.int .i64 (W : Int), .int .i64 (H : Int), .slice a n cap, .int .i64 tt, .slice ax nx cx, .slice ay ny cy]] w fun e w' => e = .returned (.bool true) ∧ Below w.heap.size w w' := by
  have hp : 0 ≤ (W : Int) * (H : Int) := Int.mul_nonneg (by omega) (by omega)
  have hwr : IntKind.i64.wrap ((W : Int) * (H : Int)) = (W : Int) * (H : Int) := IntWalk.i64_in _ (by omega)
  have h3 : decide ((8000 : Int) < (W : Int) * (H : Int)) = false := by simp; omega
  have hy1 : ((ny : Int) == 0) = true := by simp; omega
  have hx1 : ((nx : Int) == 0) = false := by simp; omega
  have HO := Lib.hid ho
  have HBW := Lib.hid hB
  have HI0 := Lib.hid (AInv.new w (W : Int) (H : Int) a n cap tt ax nx cx ay ny cy)
  clear hB ho h1 hp hy
  go_enter Try.func5, Try.ntmps5
  go_upto_region 1 with fail
  obtain ⟨W0, hW0⟩ : ∃ W0, w.heap.size = W0 := ⟨_, rfl⟩
  have HI := Lib.hid (hW0 ▸ HI0.out)
  rw [hW0]
  have HW0 := Lib.hid hW0
  clear hW0 HI0
  generalize w.alloc (.cells #[.int .i64 (W : Int), .int .i64 (H : Int), .slice a n cap, .int .i64 tt, .slice ax nx cx, .slice ay ny cy] 27) = w0 at *
  have c0 := HI.out.c0
  have c1 := HI.out.c1
  have c2 := HI.out.c2
  go_wp2_with (first
    | (go_at_call 8; refine (may0 W H a n cap B true _ (HI.out.words HW0.out HBW.out) (by simp [HO.out])).mono ?_; rintro e w1 ⟨rfl, hbel⟩; have HI1 := Lib.hid (HI.out.step hbel); have c0 := HI1.out.c0; have c1 := HI1.out.c1; have c2 := HI1.out.c2; have c4 := HI1.out.c4; have c5 := HI1.out.c5; clear hbel)
    | (go_at_call 9; refine (wakes9 _).mono ?_; rintro e w' ⟨rfl, hbel⟩))
  go_ret
  rw [HW0.out]
  exact ⟨rfl, HI1.out.bel.trans (hbel.mono (Nat.le_of_lt HI1.out.lt))⟩

set_option maxRecDepth 100000 in
set_option maxHeartbeats 2000000 in
theorem past_long (W H : Nat) (a : Option Addr) (n cap : Nat) (B : Nat → Nat) (tt : Int) (ax : Option Addr) (nx cx : Nat) (ay : Option Addr) (ny cy : Nat) (w : World)
    (hB : IsWords w a n cap B) (ho : okB W H n B) (h1 : (W : Int) * (H : Int) ≤ 8000) (hx : 0 < nx) (hy : 0 < ny) (hn : n ≤ 17179869184) (h2 : ¬ 64 * (n : Int) + 64 ≤ 160000) :
    Calls Try.prog 5 #[.agg #[.int .i64 (W : Int), .int .i64 (H : Int), .slice a n cap, .int .i64 tt, .slice ax nx cx, .slice ay ny cy]] w fun e w' => e = .returned (.bool true) ∧ Below w.heap.size w w' := by
  have hp : 0 ≤ (W : Int) * (H : Int) := Int.mul_nonneg (by omega) (by omega)
  have hwr : IntKind.i64.wrap ((W : Int) * (H : Int)) = (W : Int) * (H : Int) := IntWalk.i64_in _ (by omega)
  have h3 : decide ((8000 : Int) < (W : Int) * (H : Int)) = false := by simp; omega
  have H2 := Lib.hid (decide_eq_false h2)
  have HN := Lib.hid hn
  have hx1 : ((nx : Int) == 0) = false := by simp; omega
  have hy1 : ((ny : Int) == 0) = false := by simp; omega
  have HO := Lib.hid ho
  have HBW := Lib.hid hB
  have HI0 := Lib.hid (AInv.new w (W : Int) (H : Int) a n cap tt ax nx cx ay ny cy)
  clear hB ho h1 hp h2 hn
  go_enter Try.func5, Try.ntmps5
  go_upto_region 1 with fail
  obtain ⟨W0, hW0⟩ : ∃ W0, w.heap.size = W0 := ⟨_, rfl⟩
  have HI := Lib.hid (hW0 ▸ HI0.out)
  rw [hW0]
  have HW0 := Lib.hid hW0
  clear hW0 HI0
  generalize w.alloc (.cells #[.int .i64 (W : Int), .int .i64 (H : Int), .slice a n cap, .int .i64 tt, .slice ax nx cx, .slice ay ny cy] 27) = w0 at *
  have c0 := HI.out.c0
  have c1 := HI.out.c1
  have c2 := HI.out.c2
  go_wp2_with (first
    | (go_at_call 8; refine (may0 W H a n cap B true _ (HI.out.words HW0.out HBW.out) (by simp [HO.out])).mono ?_; rintro e w1 ⟨rfl, hbel⟩; have HI1 := Lib.hid (HI.out.step hbel); have c0 := HI1.out.c0; have c1 := HI1.out.c1; have c2 := HI1.out.c2; have c4 := HI1.out.c4; have c5 := HI1.out.c5; clear hbel)
    | (go_at_call 21; refine (small1 w1.heap.size n cap a 160000 false _ HN.out (by rw [World.cell?_alloc_at _ _ _ _ rfl]; rfl) H2.out.symm).mono ?_; rintro e w' ⟨rfl, rfl⟩)
    | (go_at_call 9; refine (wakes9 _).mono ?_; rintro e w' ⟨rfl, hbel⟩))
  go_ret
  rw [HW0.out]
  have HI2 := HI1.out.step ((Below.refl w1.heap.size w1).alloc (Nat.le_refl _) (.cells #[.int .i64 (W : Int), .int .i64 (H : Int), .slice a n cap] 24))
  exact ⟨rfl, HI2.bel.trans (hbel.mono (Nat.le_of_lt HI2.lt))⟩

theorem past_walk (W H : Int) (a : Option Addr) (n cap : Nat) (B : Nat → Nat) (tt : Int) (ax : Option Addr) (nx cx : Nat) (X : Nat → Int) (ay : Option Addr) (ny cy : Nat) (Y : Nat → Int) (w : World)
    (hB : IsWords w a n cap B) (hX : IsInts w ax nx X ∧ nx ≤ cx ∧ cx ≤ 9223372036854775807 ∧ ∀ i, i < nx → -9223372036854775808 ≤ X i ∧ X i ≤ 9223372036854775807)
    (hY : IsInts w ay ny Y ∧ ny ≤ cy ∧ cy ≤ 9223372036854775807 ∧ ∀ i, i < ny → -9223372036854775808 ≤ Y i ∧ Y i ≤ 9223372036854775807) :
    Calls Try.prog 5 #[.agg #[.int .i64 W, .int .i64 H, .slice a n cap, .int .i64 tt, .slice ax nx cx, .slice ay ny cy]] w fun e w' => e = .returned (.bool true) ∧ Below w.heap.size w w' := by
  by_cases ho : okB W H n B
  · obtain ⟨W, rfl⟩ : ∃ i : Nat, W = i := ⟨W.toNat, by have := ho.1.1; omega⟩
    obtain ⟨H, rfl⟩ : ∃ i : Nat, H = i := ⟨H.toNat, by have := ho.1.2.1; omega⟩
    have hn : n ≤ 17179869184 := by
      have h1 : n = H * wd W := by have := ho.2.1; simpa using this
      have h2 := (okS_le ho.1)
      rw [h1]
      exact Nat.le_trans (Nat.mul_le_mul (show H ≤ 1048576 by omega) (wd_le (W := W) (by omega))) (by decide)
    by_cases h1 : (W : Int) * (H : Int) ≤ 8000
    · by_cases hx : nx = 0
      · exact past_nx W H a n cap B tt ax nx cx ay ny cy w hB ho h1 hx
      · by_cases hy : ny = 0
        · exact past_ny W H a n cap B tt ax nx cx ay ny cy w hB ho h1 (by omega) hy
        · by_cases h2 : 64 * (n : Int) + 64 ≤ 160000
          · exact past_main W H a n cap B tt ax nx cx X ay ny cy Y w hB hX.1 hY.1 ho h1 h2 (by omega) (by omega)
          · exact past_long W H a n cap B tt ax nx cx ay ny cy w hB ho h1 (by omega) (by omega) hn h2
    · exact past_big W H a n cap B tt ax nx cx ay ny cy w hB ho h1
  · exact past_no W H a n cap B tt ax nx cx ay ny cy w hB ho
end Go.Proofs.Ytknhgenhknjkoaa

