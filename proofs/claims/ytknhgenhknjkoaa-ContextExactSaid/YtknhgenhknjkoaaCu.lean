/- The walk of ContextExact. Conditions: the bounds that each theorem names. -/
import Derived.Test.YtknhgenhknjkoaaCr
namespace Go.Proofs.Ytknhgenhknjkoaa
open Go.RowKit Go.Bm

set_option maxRecDepth 100000 in
set_option maxHeartbeats 16000000 in
theorem exact_good (W H : Nat) (a : Option Addr) (n cap : Nat) (B : Nat → Nat) (t : Nat) (ht : t < 4) (ax : Option Addr) (nx cx : Nat) (X : Nat → Int) (ay : Option Addr) (ny cy : Nat) (Y : Nat → Int) (w : World)
    (hB : IsWords w a n cap B) (hno : a = none → n = 0 ∧ cap = 0) (hX : IsInts w ax nx X) (hY : IsInts w ay ny Y) (hn : n ≤ 500) (ho : okB W H n B) (h1 : (W : Int) * (H : Int) ≤ 160000) :
    Calls Try.prog 3 #[.agg #[.int .i64 (W : Int), .int .i64 (H : Int), .slice a n cap, .int .i64 (t : Int), .slice ax nx cx, .slice ay ny cy]] w fun e w' => e = .returned (.bool true) ∧ Below w.heap.size w w' := by
  have hw1 : W ≤ 1048576 := by have := (okS_le ho.1).1; omega
  have hw2 : H ≤ 1048576 := by have := (okS_le ho.1).2; omega
  have hw0 : 1 ≤ W := by have := ho.1.1; omega
  have hp : 0 ≤ (W : Int) * (H : Int) := Int.mul_nonneg (by omega) (by omega)
  have hwr : IntKind.i64.wrap ((W : Int) * (H : Int)) = (W : Int) * (H : Int) := IntWalk.i64_in _ (by omega)
  have h3 : decide ((160000 : Int) < (W : Int) * (H : Int)) = false := by simp; omega
  have hn2 : decide ((500 : Int) < (n : Int)) = false := by simp; omega
  have hn3 : decide (500 < n) = false := by simp; omega
  have HN := Lib.hid (show n ≤ 10000 by omega)
  have HO := Lib.hid ho
  have HBW := Lib.hid hB
  have HNO := Lib.hid hno
  have HXW := Lib.hid hX
  have HYW := Lib.hid hY
  have HI0 := Lib.hid (AInv.new w (W : Int) (H : Int) a n cap (t : Int) ax nx cx ay ny cy)
  clear hB ho hno hX hY hn h1 hp
  go_enter Try.func3, Try.ntmps3
  go_upto_region 1 with fail
  obtain ⟨W0, hW0⟩ : ∃ W0, w.heap.size = W0 := ⟨_, rfl⟩
  have HI := Lib.hid (hW0 ▸ HI0.out)
  rw [hW0]
  have HW0 := Lib.hid hW0
  clear hW0 HI0
  generalize w.alloc (.cells #[.int .i64 (W : Int), .int .i64 (H : Int), .slice a n cap, .int .i64 (t : Int), .slice ax nx cx, .slice ay ny cy] 27) = w0 at *
  have c0 := HI.out.c0
  have c1 := HI.out.c1
  have c2 := HI.out.c2
  go_upto_region 3 with (go_at_call 8; refine (may0 W H a n cap B true _ (HI.out.words HW0.out HBW.out) (by simp [HO.out])).mono ?_; rintro e w1 ⟨rfl, hbel⟩; have HI1 := Lib.hid (HI.out.step hbel); have c0 := HI1.out.c0; have c1 := HI1.out.c1; have c2 := HI1.out.c2; clear hbel)
  clear HI c0 c1 c2 hn2 hn3 hwr h3
  have c3 := HI1.out.c3
  go_upto_region 4 with (go_at_call 10; refine (size_ok t ht _).mono ?_; rintro e w1a ⟨rfl, hbel⟩)
  have HI1a := Lib.hid (HI1.out.step hbel)
  have c3 := HI1a.out.c3
  clear HI1 hbel
  generalize hcz : csize t = cz at *
  have HCZ := Lib.hid hcz
  clear hcz
  have hqq : ((cz : Int) != (cz : Int)) = false := by simp
  go_upto_region 6 with (first
    | (go_at_call 11; refine (may6_ok t ht _).mono ?_; rintro e w' ⟨rfl, rfl⟩)
    | (go_at_call 12; refine (size6c t cz ht HCZ.out _).mono ?_; rintro e w1b ⟨rfl, hbel⟩; have HI2 := Lib.hid (HI1a.out.step hbel); clear hbel))
  clear c3 HI1a hqq
  go_wp2_with fail
  go_loopw [5] (fun v wr => ∃ i : Nat, i ≤ 30 ∧ v = .int .i64 i ∧ Hid (AInv w W0 (W : Int) (H : Int) a n cap (t : Int) ax nx cx ay ny cy wr)) (fun v _ => 30 - (intOf v).toNat)
  case atStart => exact ⟨0, by omega, rfl, HI2⟩
  case round =>
    obtain ⟨i, hi30, rfl, hi⟩ := hrel
    have c0 := hi.out.c0
    have c1 := hi.out.c1
    have c2 := hi.out.c2
    have c3 := hi.out.c3
    have c4 := hi.out.c4
    have c5 := hi.out.c5
    by_cases hix : i < nx
    · by_cases hiy : i < ny
      · by_cases hi3 : i < 30
        · rcases HXW.out with h | ⟨bx, ox, rfl, hbx, _⟩
          · omega
          · rcases HYW.out with h | ⟨by', oy, rfl, hby, _⟩
            · omega
            · have hix2 : (i : Int) < (nx : Int) := by omega
              have hiy2 : (i : Int) < (ny : Int) := by omega
              have hi0 : (0 : Int) ≤ (i : Int) := by omega
              have hxc : ∀ (wx : World), Below W0 w wx → wx.cell? ⟨bx, ox + i, none⟩ = some (.int .i64 (X i)) := fun wx hb => by
                rcases HXW.out with h | ⟨_, _, h1, _, hc⟩
                · omega
                · cases h1
                  exact (hb.cell (p := ⟨bx, ox + i, none⟩) (by rw [← HW0.out]; exact hbx)).trans (hc i hix)
              have hyc : ∀ (wx : World), Below W0 w wx → wx.cell? ⟨by', oy + i, none⟩ = some (.int .i64 (Y i)) := fun wx hb => by
                rcases HYW.out with h | ⟨_, _, h1, _, hc⟩
                · omega
                · cases h1
                  exact (hb.cell (p := ⟨by', oy + i, none⟩) (by rw [← HW0.out]; exact hby)).trans (hc i hiy)
              have HXC := Lib.hid hxc
              have HYC := Lib.hid hyc
              clear hxc hyc hbx hby
              go_upto_region 10 with (go_at_call 13; refine (lend0 (W : Int) (H : Int) a n cap B _ (hi.out.words HW0.out HBW.out) HNO.out HN.out).mono ?_; rintro e w3 ⟨g, rfl, ho, hge, hbel⟩)
              have hbw := lent_words ho HN.out
              have hbn := BInv.new (W := (W : Int)) (H := (H : Int)) hbw
              have hbx := (Below.refl w3.heap.size w3).alloc (Nat.le_refl _) (.cells #[.int .i64 (W : Int), .int .i64 (H : Int), .slice (some ⟨g, 0, none⟩) n (n + 7)] 24)
              have hi4 := Lib.hid ((hi.out.step hbel).step hbx)
              have ho4 := Lib.hid (ho.below hbx)
              have hW0g : W0 < g := Nat.lt_of_lt_of_le hi.out.lt hge
              obtain ⟨gb, hgb⟩ : ∃ gb, w3.heap.size = gb := ⟨_, rfl⟩
              have hgg : g < gb := by rw [← hgb]; exact ho.lt
              rw [hgb] at hbn ⊢
              have hb4 := Lib.hid hbn
              clear c0 c1 c2 c3 c4 c5 hbw hbn hbx hbel ho hge hgb
              generalize w3.alloc (.cells #[.int .i64 (W : Int), .int .i64 (H : Int), .slice (some ⟨g, 0, none⟩) n (n + 7)] 24) = w4 at *
              have c3 := hi4.out.c3
              have c4 := hi4.out.c4
              have c5 := hi4.out.c5
              have b0 := hb4.out.c0
              have b1 := hb4.out.c1
              have b2 := hb4.out.c2
              have dX := HXC.out _ hi4.out.bel
              have dY := HYC.out _ hi4.out.bel
              go_region_held3 (fun w' => w'.cell? ⟨gb, 0, none⟩ = some (.int .i64 (W : Int)) ∧ w'.cell? ⟨gb, 1, none⟩ = some (.int .i64 (H : Int)) ∧ w'.cell? ⟨gb, 2, none⟩ = some (.slice (some ⟨g, 0, none⟩) n (n + 7)) ∧ w'.cell? ⟨W0, 3, none⟩ = some (.int .i64 (t : Int)) ∧
                  w'.cell? ⟨W0, 4, none⟩ = some (.slice (some ⟨bx, ox, none⟩) nx cx) ∧ w'.cell? ⟨W0, 5, none⟩ = some (.slice (some ⟨by', oy, none⟩) ny cy) ∧ w'.cell? ⟨bx, ox + i, none⟩ = some (.int .i64 (X i)) ∧ w'.cell? ⟨by', oy + i, none⟩ = some (.int .i64 (Y i))) (go_keep)
                ((go_at_call 14; refine (at_ok W H (some ⟨g, 0, none⟩) n (n + 7) B t (X i) (Y i) _ ?_ HO.out ht).mono ?_; exact hb4.out.k; rintro e w5 ⟨rfl, hb5⟩; have hb5 : Below w4.heap.size w4 w5 := Below.trans (Below.drew (Below.refl _ w4)) hb5; have hi5 := Lib.hid (hi4.out.step hb5); have b5 := Lib.hid (hb4.out.step hb5); have ho5 := Lib.hid (ho4.out.below hb5); have c3 := hi5.out.c3; have c4 := hi5.out.c4; have c5 := hi5.out.c5; have b0 := b5.out.c0; have b1 := b5.out.c1; have b2 := b5.out.c2; have dX := HXC.out _ hi5.out.bel; have dY := HYC.out _ hi5.out.bel; clear hb5))
              clear hi4 hb4 ho4
              go_upto_region 11 with fail
              obtain ⟨kk, hkk⟩ : ∃ kk, spw t (spn t) = kk := ⟨_, rfl⟩
              have HKK := Lib.hid hkk
              clear hkk
              by_cases hyy : 0 ≤ Y i ∧ Y i < H
              · obtain ⟨yy, hyy0⟩ : ∃ yy : Nat, Y i = yy := ⟨(Y i).toNat, by omega⟩
                have hyy : yy < H := by omega
                rw [hyy0] at dY ⊢
                go_region_held3 (fun w' => w'.cell? ⟨gb, 0, none⟩ = some (.int .i64 (W : Int)) ∧ w'.cell? ⟨gb, 1, none⟩ = some (.int .i64 (H : Int)) ∧ w'.cell? ⟨gb, 2, none⟩ = some (.slice (some ⟨g, 0, none⟩) n (n + 7)) ∧ w'.cell? ⟨W0, 3, none⟩ = some (.int .i64 (t : Int)) ∧
                  w'.cell? ⟨W0, 5, none⟩ = some (.slice (some ⟨by', oy, none⟩) ny cy) ∧ w'.cell? ⟨by', oy + i, none⟩ = some (.int .i64 (yy : Int))) (go_keep)
                  ((go_at_call 15; refine (row_ok W H (some ⟨g, 0, none⟩) n (n + 7) B t yy _ ?_ HO.out ht hyy).mono ?_; exact b5.out.k; rintro e w6 ⟨gr, hgr, rfl, hrh, hb6⟩; have HRH := Lib.hid hrh; clear hrh; have hb6 : Below w5.heap.size w5 w6 := Below.trans (Below.drew (Below.refl _ w5)) hb6; have hi6 := Lib.hid (hi5.out.step hb6); have b6 := Lib.hid (b5.out.step hb6); have ho6 := Lib.hid (ho5.out.below hb6); have c3 := hi6.out.c3; have c5 := hi6.out.c5; have b0 := b6.out.c0; have b1 := b6.out.c1; have b2 := b6.out.c2; have dY := HYC.out _ hi6.out.bel; rw [hyy0] at dY; clear hb6))
                have hgr2 : gb < gr := Nat.lt_of_lt_of_le b5.out.lt hgr
                go_upto_region 12 with fail
                clear hi5 b5 ho5 c3 c4 c5 dX dY
                have c0 := hi6.out.c0
                have c1 := hi6.out.c1
                have c2 := hi6.out.c2
                go_upto_region 17 with (go_at_call 16; refine (back0 (W : Int) (H : Int) g a n cap B _ ho6.out (hi6.out.words HW0.out HBW.out) HN.out).mono ?_; rintro e w7 ⟨rfl, hg7⟩)
                have hi7 := Lib.hid (hi6.out.grown hg7 hW0g)
                have HRH7 : Hid (w7.heap[gr]? = some (.cells (ivals (fun x => ctx t (px W H B) x yy) W) 3 (0, 0))) := (hg7.block gr (Array.getElem?_eq_some_iff.1 HRH.out).1 (by simp; omega)).trans HRH.out
                clear hi6 b6 ho6 c0 c1 c2 b0 b1 b2 hg7
                have c0 := hi7.out.c0
                have c1 := hi7.out.c1
                have c2 := hi7.out.c2
                have c3 := hi7.out.c3
                have c4 := hi7.out.c4
                have c5 := hi7.out.c5
                go_upto_region 20 with (go_at_call 11; refine (may6_ok t ht _).mono ?_; rintro e w' ⟨rfl, rfl⟩)
                go_upto_region 14 with (go_at_call 8; refine (may0 W H a n cap B true _ (hi7.out.words HW0.out HBW.out) (by simp [HO.out])).mono ?_; rintro e w8 ⟨rfl, hb8⟩)
                have hi8 := Lib.hid (hi7.out.step hb8)
                have HR8 := Lib.hid ((isInts_ivals HRH7.out).below hb8)
                have HRH8 := Lib.hid ((hb8.block gr (Array.getElem?_eq_some_iff.1 HRH7.out).1).trans HRH7.out)
                clear c0 c1 c2 c3 c4 c5 hb8 hi7
                have c3 := hi8.out.c3
                go_upto_region 15 with (go_at_call 17; refine (places1 t kk ht HKK.out _).mono ?_; rintro e w10 ⟨g0, rfl, hpl, hb10⟩)
                have hi10 := Lib.hid (hi8.out.step hb10)
                have HPL := Lib.hid hpl
                have HR10 := Lib.hid (HR8.out.below hb10)
                have HRH10 := Lib.hid ((hb10.block gr (Array.getElem?_eq_some_iff.1 HRH8.out).1).trans HRH8.out)
                clear hpl hb10 c3 hi8
                have c0 := hi10.out.c0
                have c1 := hi10.out.c1
                have c2 := hi10.out.c2
                have c3 := hi10.out.c3
                have c4 := hi10.out.c4
                have c5 := hi10.out.c5
                have dX := HXC.out _ hi10.out.bel
                have dY := HYC.out _ hi10.out.bel
                rw [hyy0] at dY
                have HAT := Lib.hid (fun w1 (hb1 : Below w10.heap.size w10 w1) => at6 W H a n cap B t g0 (2 * kk) (2 * kk) (X i) (yy : Int) w1 ((hi10.out.step hb1).words HW0.out HBW.out) HO.out ht (by rw [HKK.out]) (HPL.out.below hb1))
                have HRW := Lib.hid (fun w1 (hb1 : Below w10.heap.size w10 w1) => row19_in W H a n cap B t (t : Int) (some ⟨bx, ox, none⟩) nx cx (some ⟨by', oy, none⟩) ny cy gr g0 (2 * kk) (2 * kk) yy w1 ((hi10.out.step hb1).words HW0.out HBW.out) HO.out ht (by rw [HKK.out]) (HPL.out.below hb1) (HR10.out.below hb1) hyy)
                generalize ctx t (px W H B) (X i) (yy : Int) = cv at *
                have hcq : ((cv : Int) != (cv : Int)) = false := by simp
                go_region_held3 (fun w' => w'.cell? ⟨W0, 0, none⟩ = some (.int .i64 (W : Int)) ∧ w'.cell? ⟨W0, 1, none⟩ = some (.int .i64 (H : Int)) ∧ w'.cell? ⟨W0, 2, none⟩ = some (.slice a n cap) ∧ w'.cell? ⟨W0, 3, none⟩ = some (.int .i64 (t : Int)) ∧
                    w'.cell? ⟨W0, 4, none⟩ = some (.slice (some ⟨bx, ox, none⟩) nx cx) ∧ w'.cell? ⟨W0, 5, none⟩ = some (.slice (some ⟨by', oy, none⟩) ny cy) ∧ w'.cell? ⟨bx, ox + i, none⟩ = some (.int .i64 (X i)) ∧ w'.cell? ⟨by', oy + i, none⟩ = some (.int .i64 (yy : Int))) (go_keep)
                  ((first
                    | (go_at_call 18; refine (HAT.out _ ?_).mono ?_; exact (Below.drew (Below.refl _ w10)); rintro e w11 ⟨rfl, hb11⟩; have hb11 : Below w10.heap.size w10 w11 := Below.trans (Below.drew (Below.refl _ w10)) hb11; have hi11 := Lib.hid (hi10.out.step hb11); have hb11h := Lib.hid hb11; have c0 := hi11.out.c0; have c1 := hi11.out.c1; have c2 := hi11.out.c2; have c3 := hi11.out.c3; have c4 := hi11.out.c4; have c5 := hi11.out.c5; have dX := HXC.out _ hi11.out.bel; have dY := HYC.out _ hi11.out.bel; rw [hyy0] at dY; clear hb11)
                    | (go_at_call 19; refine (HRW.out _ ?_).mono ?_; exact hb11h.out; rintro e w12 ⟨rfl, hb12⟩; have hi12 := Lib.hid (hi11.out.step hb12); have bel12 := Lib.hid (hb11h.out.trans (hb12.mono hb11h.out.size)); have c0 := hi12.out.c0; have c1 := hi12.out.c1; have c2 := hi12.out.c2; have c3 := hi12.out.c3; have c4 := hi12.out.c4; have c5 := hi12.out.c5; have dX := HXC.out _ hi12.out.bel; have dY := HYC.out _ hi12.out.bel; rw [hyy0] at dY; clear hb12)))
                clear c0 c1 c2 c3 c4 c5 dX dY hcq
                have HRH12 := Lib.hid ((bel12.out.block gr (Array.getElem?_eq_some_iff.1 HRH10.out).1).trans HRH10.out)
                go_wp2_with (go_at_call 20; refine (over_own gr W _ _ HRH12.out hw1).mono ?_; rintro e w13 ⟨rfl, hg13⟩)
                have hi9 := Lib.hid (hi12.out.grown hg13 (by omega))
                clear hg13
                go_roundw
                case rel => exact ⟨i + 1, by omega, by go_num, hi9⟩
                case measure => simp [intOf]; omega
              · go_region_held3 (fun w' => w'.cell? ⟨gb, 0, none⟩ = some (.int .i64 (W : Int)) ∧ w'.cell? ⟨gb, 1, none⟩ = some (.int .i64 (H : Int)) ∧ w'.cell? ⟨gb, 2, none⟩ = some (.slice (some ⟨g, 0, none⟩) n (n + 7)) ∧ w'.cell? ⟨W0, 3, none⟩ = some (.int .i64 (t : Int)) ∧
                  w'.cell? ⟨W0, 5, none⟩ = some (.slice (some ⟨by', oy, none⟩) ny cy) ∧ w'.cell? ⟨by', oy + i, none⟩ = some (.int .i64 (Y i))) (go_keep)
                  ((go_at_call 15; refine (row_no3 W H (some ⟨g, 0, none⟩) n (n + 7) B t (Y i) _ ?_ HO.out ht hyy).mono ?_; exact b5.out.k; rintro e w6 ⟨rfl, hb6⟩; have hb6 : Below w5.heap.size w5 w6 := Below.trans (Below.drew (Below.refl _ w5)) hb6; have hi6 := Lib.hid (hi5.out.step hb6); have b6 := Lib.hid (b5.out.step hb6); have ho6 := Lib.hid (ho5.out.below hb6); have c3 := hi6.out.c3; have c5 := hi6.out.c5; have b0 := b6.out.c0; have b1 := b6.out.c1; have b2 := b6.out.c2; have dY := HYC.out _ hi6.out.bel; clear hb6))
                go_upto_region 12 with fail
                clear hi5 b5 ho5 c3 c4 c5 dX dY
                have c0 := hi6.out.c0
                have c1 := hi6.out.c1
                have c2 := hi6.out.c2
                go_upto_region 17 with (go_at_call 16; refine (back0 (W : Int) (H : Int) g a n cap B _ ho6.out (hi6.out.words HW0.out HBW.out) HN.out).mono ?_; rintro e w7 ⟨rfl, hg7⟩)
                have hi7 := Lib.hid (hi6.out.grown hg7 hW0g)
                clear hi6 b6 ho6 c0 c1 c2 b0 b1 b2 hg7
                have c0 := hi7.out.c0
                have c1 := hi7.out.c1
                have c2 := hi7.out.c2
                have c3 := hi7.out.c3
                have c4 := hi7.out.c4
                have c5 := hi7.out.c5
                go_upto_region 20 with (go_at_call 11; refine (may6_ok t ht _).mono ?_; rintro e w' ⟨rfl, rfl⟩)
                go_upto_region 14 with (go_at_call 8; refine (may0 W H a n cap B true _ (hi7.out.words HW0.out HBW.out) (by simp [HO.out])).mono ?_; rintro e w8 ⟨rfl, hb8⟩)
                have hi8 := Lib.hid (hi7.out.step hb8)
                clear c0 c1 c2 c3 c4 c5 hb8 hi7
                have c3 := hi8.out.c3
                go_upto_region 15 with (go_at_call 17; refine (places1 t kk ht HKK.out _).mono ?_; rintro e w10 ⟨g0, rfl, hpl, hb10⟩)
                have hi10 := Lib.hid (hi8.out.step hb10)
                have HPL := Lib.hid hpl
                clear hpl hb10 c3 hi8
                have c0 := hi10.out.c0
                have c1 := hi10.out.c1
                have c2 := hi10.out.c2
                have c3 := hi10.out.c3
                have c4 := hi10.out.c4
                have c5 := hi10.out.c5
                have dX := HXC.out _ hi10.out.bel
                have dY := HYC.out _ hi10.out.bel
                have HAT := Lib.hid (fun w1 (hb1 : Below w10.heap.size w10 w1) => at6 W H a n cap B t g0 (2 * kk) (2 * kk) (X i) (Y i) w1 ((hi10.out.step hb1).words HW0.out HBW.out) HO.out ht (by rw [HKK.out]) (HPL.out.below hb1))
                have HRW := Lib.hid (fun w1 (_ : Below w10.heap.size w10 w1) => row19_out W H a n cap (t : Int) (some ⟨bx, ox, none⟩) nx cx (some ⟨by', oy, none⟩) ny cy (.slice (some ⟨g0, 0, none⟩) (2 * kk) (2 * kk)) (Y i) w1 hyy)
                generalize ctx t (px W H B) (X i) (Y i) = cv at *
                have hcq : ((cv : Int) != (cv : Int)) = false := by simp
                go_region_held3 (fun w' => w'.cell? ⟨W0, 0, none⟩ = some (.int .i64 (W : Int)) ∧ w'.cell? ⟨W0, 1, none⟩ = some (.int .i64 (H : Int)) ∧ w'.cell? ⟨W0, 2, none⟩ = some (.slice a n cap) ∧ w'.cell? ⟨W0, 3, none⟩ = some (.int .i64 (t : Int)) ∧
                    w'.cell? ⟨W0, 4, none⟩ = some (.slice (some ⟨bx, ox, none⟩) nx cx) ∧ w'.cell? ⟨W0, 5, none⟩ = some (.slice (some ⟨by', oy, none⟩) ny cy) ∧ w'.cell? ⟨bx, ox + i, none⟩ = some (.int .i64 (X i)) ∧ w'.cell? ⟨by', oy + i, none⟩ = some (.int .i64 (Y i))) (go_keep)
                  ((first
                    | (go_at_call 18; refine (HAT.out _ ?_).mono ?_; exact (Below.drew (Below.refl _ w10)); rintro e w11 ⟨rfl, hb11⟩; have hb11 : Below w10.heap.size w10 w11 := Below.trans (Below.drew (Below.refl _ w10)) hb11; have hi11 := Lib.hid (hi10.out.step hb11); have hb11h := Lib.hid hb11; have c0 := hi11.out.c0; have c1 := hi11.out.c1; have c2 := hi11.out.c2; have c3 := hi11.out.c3; have c4 := hi11.out.c4; have c5 := hi11.out.c5; have dX := HXC.out _ hi11.out.bel; have dY := HYC.out _ hi11.out.bel; clear hb11)
                    | (go_at_call 19; refine (HRW.out _ ?_).mono ?_; exact hb11h.out; rintro e w12 ⟨rfl, hb12⟩; have hi12 := Lib.hid (hi11.out.step hb12); have bel12 := Lib.hid (hb11h.out.trans (hb12.mono hb11h.out.size)); have c0 := hi12.out.c0; have c1 := hi12.out.c1; have c2 := hi12.out.c2; have c3 := hi12.out.c3; have c4 := hi12.out.c4; have c5 := hi12.out.c5; have dX := HXC.out _ hi12.out.bel; have dY := HYC.out _ hi12.out.bel; clear hb12)))
                clear c0 c1 c2 c3 c4 c5 dX dY hcq
                go_wp2_with (go_at_call 20; refine (over_nil _).mono ?_; rintro e w9 ⟨rfl, hb9⟩)
                have hi9 := Lib.hid (hi12.out.step hb9)
                clear hb9
                go_roundw
                case rel => exact ⟨i + 1, by omega, by go_num, hi9⟩
                case measure => simp [intOf]; omega
        · have q1 : decide ((i : Int) < 30) = false := by simp; omega
          go_wp2_with (go_at_call 9; refine (wakes9 _).mono ?_; rintro e w' ⟨rfl, hbel⟩)
          go_ret
          exact ⟨rfl, by rw [HW0.out]; exact hi.out.bel.trans (hbel.mono (Nat.le_of_lt hi.out.lt))⟩
      · have q1 : decide ((i : Int) < (ny : Int)) = false := by simp; omega
        have q2 : decide (i < ny) = false := by simp; omega
        go_wp2_with (go_at_call 9; refine (wakes9 _).mono ?_; rintro e w' ⟨rfl, hbel⟩)
        go_ret
        exact ⟨rfl, by rw [HW0.out]; exact hi.out.bel.trans (hbel.mono (Nat.le_of_lt hi.out.lt))⟩
    · have q1 : decide ((i : Int) < (nx : Int)) = false := by simp; omega
      have q2 : decide (i < nx) = false := by simp; omega
      go_wp2_with (go_at_call 9; refine (wakes9 _).mono ?_; rintro e w' ⟨rfl, hbel⟩)
      go_ret
      exact ⟨rfl, by rw [HW0.out]; exact hi.out.bel.trans (hbel.mono (Nat.le_of_lt hi.out.lt))⟩
end Go.Proofs.Ytknhgenhknjkoaa
