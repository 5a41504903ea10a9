/- The walk of MeasureBitmaps: its first loop. Conditions: the bounds that each theorem names. -/
import Derived.Test.YtokdgppaedklhaaDoorWj
namespace Go.Proofs.YtokdgppaedklhaaDoor
open Go.RowKit Go.Bm Fl Go.FlW

theorem IsOwn.lent {w : World} {g n : Nat} {B : Nat → Nat} (h : IsOwn w g (n + 7) (lendB B n)) (hn : n ≤ 10000) : IsWords w (some ⟨g, 0, none⟩) n (n + 7) B := by
  obtain ⟨cur, hh, hc⟩ := h
  have h2 : IsOwn w g n B := ⟨cur, hh, fun i hi => by
    have := hc i (by omega)
    unfold lendB at this
    rw [if_pos hi] at this
    exact this⟩
  exact h2.words (by omega) (by omega)
theorem cell_kept {w w' : World} {g b o : Nat} {v : Value} (h : w.drew.grownBy w' (some g)) (hne : g ≠ b) (hc : w.cell? ⟨b, o, none⟩ = some v) : w'.cell? ⟨b, o, none⟩ = some v :=
  (h.cell_far ⟨b, o, none⟩ (World.block_lt_of_cell? w _ hc) (fun e => hne (Option.some.inj e).symm)).trans hc
theorem IsQ.lt {n d r : Nat} (h : IsQ n d r) : r < 2 ^ 64 := Res_lt h (fun _ h => div_lt h)
theorem sameq {n d x y : Nat} (hx : IsQ n d x) (hy : IsQ n d y) (w : World) : Calls Tryd.prog 13 #[.float .f64 x, .float .f64 y] w fun e w' => e = .returned (.bool true) ∧ ∃ k, w.drewN k = w' :=
  (same13 x y w hx.lt hy.lt).mono fun _ _ ⟨h1, h2⟩ => ⟨by rw [h1, Res_same hx hy], h2⟩
theorem sameq2 {x y : Nat} (h : ∃ n d, IsQ n d x ∧ IsQ n d y) (w : World) : Calls Tryd.prog 13 #[.float .f64 x, .float .f64 y] w fun e w' => e = .returned (.bool true) ∧ ∃ k, w.drewN k = w' := by
  obtain ⟨n, d, h1, h2⟩ := h
  exact sameq h1 h2 w
theorem same_inf (w : World) : Calls Tryd.prog 13 #[.float .f64 9218868437227405312, .float .f64 9218868437227405312] w fun e w' => e = .returned (.bool true) ∧ ∃ k, w.drewN k = w' :=
  (same13 _ _ w (by decide) (by decide)).mono fun _ _ ⟨h1, h2⟩ => ⟨by rw [h1, same_self], h2⟩
theorem sh11 (n d : Nat) (hn : n ≤ 9007199254740992) (hd : d ≤ 9007199254740992) (w : World) : Calls Tryd.prog 11 #[.int .i64 (n : Int), .int .i64 (d : Int)] w fun e w' => ∃ r, e = .returned (.tuple #[.float .f64 r, .int .i64 0]) ∧ Hid (IsQ n d r) ∧ ∃ k, w.drewN k = w' :=
  (share12_in n d w (InR.of_nat hn) (InR.of_nat hd)).mono fun _ _ ⟨r, h1, h2, h3⟩ => ⟨r, h1, h2, h3⟩

set_option maxRecDepth 100000 in
set_option maxHeartbeats 8000000 in
theorem bitmaps_walk (a : Option Addr) (len cap : Nat) (M : Nat → BM) (w : World) (h : IsMaps w a len cap M) (hT : TabW w) :
    Calls Tryd.prog 3 #[.slice a len cap] w fun e w' => e = .returned (.bool true) ∧ Below w.heap.size w w' := by
  have HM : Hid (∀ k, k < len → ∀ W', Below w.heap.size w W' → ∃ b off, a = some ⟨b, off, none⟩ ∧ MapAt W' b (off + k * 3) (M k)) := fun k hk W' hb => by
    rcases h with h | ⟨b, off, h1, _, _, h2⟩
    · omega
    · exact ⟨b, off, h1, (h2 k hk).below hb⟩
  have HT : Hid (∀ W', Below w.heap.size w W' → TabW W') := fun W' hb => hT.below hb
  clear h hT
  go_enter Tryd.func3, Tryd.ntmps3
  go_wp2_with fail
  go_loopw [3] (fun i wr => ∃ k : Nat, k ≤ len ∧ k ≤ 5 ∧ i = .int .i64 k ∧ Hid (Below w.heap.size w wr)) (fun i _ => len - (intOf i).toNat)
  case atStart => exact ⟨0, by omega, by omega, rfl, Lib.hid (Below.refl _ _)⟩
  case round =>
    obtain ⟨k, hk, hk5, rfl, hbr⟩ := hrel
    by_cases hlt : k < len ∧ k < 5
    · obtain ⟨hlt, hl5⟩ := hlt
      obtain ⟨b, off, rfl, hat⟩ := HM.out k hlt wr hbr.out
      have HF : Hid (∀ W', Below w.heap.size w W' → MapAt W' b (off + k * 3) (M k)) := fun W' hb => by
        obtain ⟨b', off', h1, h2⟩ := HM.out k hlt W' hb
        cases h1
        exact h2
      cases hm : M k with | mk mw mh ma mn mc mL =>
      rw [hm] at hat HF
      clear hm
      have e0 : wr.cell? ⟨b, off + k * 3, none⟩ = some (.int .i64 mw) := hat.e0
      have e1 : wr.cell? ⟨b, off + k * 3 + 1, none⟩ = some (.int .i64 mh) := hat.e1
      have e2 : wr.cell? ⟨b, off + k * 3 + 2, none⟩ = some (.slice ma mn mc) := hat.e2
      have HK : Hid (IsWords wr ma mn mc mL) := hat.k
      have HNO : Hid (ma = none → mn = 0 ∧ mc = 0) := hat.no
      have hltI : (k : Int) < (len : Int) := by omega
      have hl5I : (k : Int) < 5 := by omega
      clear hat
      by_cases hbig : 312 < mn
      · have hbI : (312 : Int) < (mn : Int) := by omega
        go_wp2_with fail
        go_roundw
        case rel => exact ⟨k + 1, by omega, by omega, by go_num, hbr⟩
        case measure => simp [intOf]; omega
      · have hbI : ¬ (312 : Int) < (mn : Int) := by omega
        have HN := Lib.hid (show mn ≤ 10000 by omega)
        go_upto_region 6 with (go_at_call 5; refine (lend0 mw mh ma mn mc mL _ HK.out HNO.out HN.out).mono ?_; rintro e w1 ⟨g, rfl, hown, hg, hbel⟩; have HOWN := Lib.hid hown; have HG := Lib.hid hg; have HB1 := Lib.hid hbel; clear hown hg hbel)
        have hi0 := BInv.new (W := mw) (H := mh) (HOWN.out.lent HN.out)
        have HI := Lib.hid hi0
        clear hi0 e0 e1 e2
        obtain ⟨W1, hW1⟩ : ∃ W1, w1.heap.size = W1 := ⟨_, rfl⟩
        have HCH : Hid (∀ w3, Below W1 w1 w3 → Below w.heap.size w w3) := fun w3 h3 => by
          subst hW1
          exact hbr.out.trans ((HB1.out.trans (h3.mono HB1.out.size)).mono hbr.out.size)
        have HOW : Hid (∀ w3, Below W1 w1 w3 → IsOwn w3 g (mn + 7) (lendB mL mn)) := fun w3 h3 => HOWN.out.below (hW1 ▸ h3)
        have HGW : Hid (w.heap.size ≤ g ∧ g ≠ W1) := ⟨Nat.le_trans hbr.out.size HG.out, fun e => by have := HOWN.out.lt; omega⟩
        rw [hW1] at HI ⊢
        clear hW1 HOWN HG HB1 HK
        generalize w1.alloc (.cells #[.int .i64 mw, .int .i64 mh, .slice (some ⟨g, 0, none⟩) mn (mn + 7)] 25) = w2 at *
        have c0 := HI.out.c0
        have c1 := HI.out.c1
        have c2 := HI.out.c2
        by_cases hok : okB mw mh mn mL
        · as_aux_lemma =>
          have HOK0 := Lib.hid hok
          have hpos := hok.1
          obtain ⟨W, rfl⟩ : ∃ x : Nat, mw = x := ⟨mw.toNat, by have := hpos.1; omega⟩
          obtain ⟨H, rfl⟩ : ∃ x : Nat, mh = x := ⟨mh.toNat, by have := hpos.2.1; omega⟩
          have hsz := okS_le hpos
          have HW9 := Lib.hid (show W ≤ 9007199254740992 by omega)
          have HH9 := Lib.hid (show H ≤ 9007199254740992 by omega)
          clear hok hpos hsz
          go_upto_region 9 with (first
            | (go_at_call 6; refine (aspect6 W H (some ⟨g, 0, none⟩) mn (mn + 7) mL _ HI.out.k HOK0.out).mono ?_; rintro e w3 ⟨ra, rfl, HRA, hbel⟩; have HI := Lib.hid (HI.out.step hbel); have c0 := HI.out.c0; have c1 := HI.out.c1; have c2 := HI.out.c2; clear hbel)
            | (go_at_call 7; refine (density7 W H (some ⟨g, 0, none⟩) mn (mn + 7) mL _ HI.out.k HOK0.out HN.out).mono ?_; rintro e w4 ⟨rd, rfl, HRD, hbel⟩; have HI := Lib.hid (HI.out.step hbel); have c0 := HI.out.c0; have c1 := HI.out.c1; have c2 := HI.out.c2; clear hbel)
            | (go_at_call 8; refine (center8 W H (some ⟨g, 0, none⟩) mn (mn + 7) mL _ HI.out.k HOK0.out HN.out (HT.out _ (HCH.out _ HI.out.bel))).mono ?_; rintro e w5 ⟨rx, ry, rfl, HRX, HRY, hbel⟩; have HI := Lib.hid (HI.out.step hbel); have c0 := HI.out.c0; have c1 := HI.out.c1; have c2 := HI.out.c2; clear hbel))
          have HB5 := Lib.hid (HCH.out _ HI.out.bel)
          have HO5 := Lib.hid (HOW.out _ HI.out.bel)
          have hat := HF.out _ HB5.out
          have e0 : w5.cell? ⟨b, off + k * 3, none⟩ = some (.int .i64 (W : Int)) := hat.e0
          have e1 : w5.cell? ⟨b, off + k * 3 + 1, none⟩ = some (.int .i64 (H : Int)) := hat.e1
          have e2 : w5.cell? ⟨b, off + k * 3 + 2, none⟩ = some (.slice ma mn mc) := hat.e2
          have HK : Hid (IsWords w5 ma mn mc mL) := hat.k
          clear hat
          go_region_held3 (fun w' => w'.cell? ⟨W1, 0, none⟩ = some (.int .i64 (W : Int)) ∧ w'.cell? ⟨W1, 1, none⟩ = some (.int .i64 (H : Int)) ∧ w'.cell? ⟨W1, 2, none⟩ = some (.slice (some ⟨g, 0, none⟩) mn (mn + 7)) ∧ w'.cell? ⟨b, off + k * 3, none⟩ = some (.int .i64 (W : Int)) ∧ w'.cell? ⟨b, off + k * 3 + 1, none⟩ = some (.int .i64 (H : Int)) ∧ w'.cell? ⟨b, off + k * 3 + 2, none⟩ = some (.slice ma mn mc)) (go_keep)
            ((go_at_call 9; refine (back0 W H g ma mn mc mL _ ?_ ?_ HN.out).mono ?_; exact HO5.out; exact HK.out; rintro e w6 ⟨rfl, hgr⟩; have HB6 : Hid (Below w.heap.size w w6) := Below.grown (Below.drew HB5.out) hgr HB5.out.size (fun q hq => by cases hq; exact HGW.out.1); have c0 := cell_kept hgr HGW.out.2 c0; have c1 := cell_kept hgr HGW.out.2 c1; have c2 := cell_kept hgr HGW.out.2 c2; have e0 := (HF.out _ HB6.out).e0; have e1 := (HF.out _ HB6.out).e1; have e2 := (HF.out _ HB6.out).e2; clear hgr))
          have hat := HF.out _ HB6.out
          clear c0 c1 c2 e0 e1 e2 HI HO5 HB5
          have e0 : w6.cell? ⟨b, off + k * 3, none⟩ = some (.int .i64 (W : Int)) := hat.e0
          have e1 : w6.cell? ⟨b, off + k * 3 + 1, none⟩ = some (.int .i64 (H : Int)) := hat.e1
          have e2 : w6.cell? ⟨b, off + k * 3 + 2, none⟩ = some (.slice ma mn mc) := hat.e2
          have HK : Hid (IsWords w6 ma mn mc mL) := hat.k
          clear hat
          go_upto_region 14 with (go_at_call 10; refine (may0 W H ma mn mc mL true _ HK.out (by simp [HOK0.out])).mono ?_; rintro e w7 ⟨rfl, hbel⟩; have HB7 := Lib.hid (HB6.out.trans (hbel.mono HB6.out.size)); clear hbel e0 e1 e2)
          have hat := HF.out _ HB7.out
          have e0 : w7.cell? ⟨b, off + k * 3, none⟩ = some (.int .i64 (W : Int)) := hat.e0
          have e1 : w7.cell? ⟨b, off + k * 3 + 1, none⟩ = some (.int .i64 (H : Int)) := hat.e1
          have e2 : w7.cell? ⟨b, off + k * 3 + 2, none⟩ = some (.slice ma mn mc) := hat.e2
          have HK7 : Hid (IsWords w7 ma mn mc mL) := hat.k
          clear hat
          go_region_held3 (fun w' => w'.cell? ⟨b, off + k * 3, none⟩ = some (.int .i64 (W : Int)) ∧ w'.cell? ⟨b, off + k * 3 + 1, none⟩ = some (.int .i64 (H : Int))) (go_keep)
            ((go_at_call 11; refine (sh11 W H HW9.out HH9.out _).mono ?_; rintro e w8 ⟨rq, rfl, HRQ, k8, rfl⟩))
          have HB8 : Hid (Below w.heap.size w (w7.drewN (1 + k8))) := below_drewN HB7.out _
          generalize w7.drewN (1 + k8) = w8 at *
          have hat := HF.out _ HB8.out
          clear e0 e1 e2 HK7 HK c0 c1 c2 HB6 HB7
          have e0 : w8.cell? ⟨b, off + k * 3, none⟩ = some (.int .i64 (W : Int)) := hat.e0
          have e1 : w8.cell? ⟨b, off + k * 3 + 1, none⟩ = some (.int .i64 (H : Int)) := hat.e1
          have e2 : w8.cell? ⟨b, off + k * 3 + 2, none⟩ = some (.slice ma mn mc) := hat.e2
          have HK : Hid (IsWords w8 ma mn mc mL) := hat.k
          clear hat
          go_upto_region 16 with (go_at_call 12; refine (center12 W H ma mn mc mL _ HK.out HOK0.out HN.out).mono ?_; rintro e w9 ⟨sx, sy, rfl, hsx, hsy, hbel⟩; have HSX := Lib.hid hsx; have HSY := Lib.hid hsy; have HB9 := Lib.hid (HB8.out.trans (hbel.mono HB8.out.size)); clear hsx hsy hbel)
          have hat := HF.out _ HB9.out
          clear e0 e1 e2 HK
          have e0 : w9.cell? ⟨b, off + k * 3, none⟩ = some (.int .i64 (W : Int)) := hat.e0
          have e1 : w9.cell? ⟨b, off + k * 3 + 1, none⟩ = some (.int .i64 (H : Int)) := hat.e1
          have e2 : w9.cell? ⟨b, off + k * 3 + 2, none⟩ = some (.slice ma mn mc) := hat.e2
          have HK : Hid (IsWords w9 ma mn mc mL) := hat.k
          clear hat
          go_wp2_with (first
            | (go_at_call 13; refine (sameq2 (by first | exact ⟨_, _, HRA.out, HRQ.out⟩ | exact ⟨_, _, HRD.out, HRR.out⟩ | exact ⟨_, _, HRX.out, HSX.out⟩ | exact ⟨_, _, HRY.out, HSY.out⟩) _).mono ?_; rintro e w' ⟨rfl, kk, rfl⟩)
            | (go_at_call 14; refine (density14 W H ma mn mc mL _ ?_ HOK0.out HN.out).mono ?_; exact HK.out; rintro e w10 ⟨rr, rfl, hrr, hbel⟩; have HRR := Lib.hid hrr; have HB10 : Hid (Below w.heap.size w w10) := Below.trans (below_drewN HB9.out _) (hbel.mono HB9.out.size); clear hrr hbel))
          go_roundw
          case rel => exact ⟨k + 1, by omega, by omega, by go_num, below_drewN HB10.out _⟩
          case measure => simp [intOf]; omega
        · as_aux_lemma =>
          have HOK := Lib.hid hok
          clear hok
          go_upto_region 9 with (first
            | (go_at_call 6; refine (aspect_no mw mh (some ⟨g, 0, none⟩) mn (mn + 7) mL _ HI.out.k HOK.out).mono ?_; rintro e w3 ⟨rfl, hbel⟩; have HI := Lib.hid (HI.out.step hbel); have c0 := HI.out.c0; have c1 := HI.out.c1; have c2 := HI.out.c2; clear hbel)
            | (go_at_call 7; refine (density_no mw mh (some ⟨g, 0, none⟩) mn (mn + 7) mL _ HI.out.k HOK.out).mono ?_; rintro e w4 ⟨rfl, hbel⟩; have HI := Lib.hid (HI.out.step hbel); have c0 := HI.out.c0; have c1 := HI.out.c1; have c2 := HI.out.c2; clear hbel)
            | (go_at_call 8; refine (center_no mw mh (some ⟨g, 0, none⟩) mn (mn + 7) mL _ HI.out.k HOK.out).mono ?_; rintro e w5 ⟨rfl, hbel⟩; have HI := Lib.hid (HI.out.step hbel); have c0 := HI.out.c0; have c1 := HI.out.c1; have c2 := HI.out.c2; clear hbel))
          have HB5 := Lib.hid (HCH.out _ HI.out.bel)
          have HO5 := Lib.hid (HOW.out _ HI.out.bel)
          have hat := HF.out _ HB5.out
          have e0 : w5.cell? ⟨b, off + k * 3, none⟩ = some (.int .i64 mw) := hat.e0
          have e1 : w5.cell? ⟨b, off + k * 3 + 1, none⟩ = some (.int .i64 mh) := hat.e1
          have e2 : w5.cell? ⟨b, off + k * 3 + 2, none⟩ = some (.slice ma mn mc) := hat.e2
          have HK : Hid (IsWords w5 ma mn mc mL) := hat.k
          clear hat
          go_region_held3 (fun w' => w'.cell? ⟨W1, 0, none⟩ = some (.int .i64 mw) ∧ w'.cell? ⟨W1, 1, none⟩ = some (.int .i64 mh) ∧ w'.cell? ⟨W1, 2, none⟩ = some (.slice (some ⟨g, 0, none⟩) mn (mn + 7)) ∧ w'.cell? ⟨b, off + k * 3, none⟩ = some (.int .i64 mw) ∧ w'.cell? ⟨b, off + k * 3 + 1, none⟩ = some (.int .i64 mh) ∧ w'.cell? ⟨b, off + k * 3 + 2, none⟩ = some (.slice ma mn mc)) (go_keep)
            ((go_at_call 9; refine (back0 mw mh g ma mn mc mL _ ?_ ?_ HN.out).mono ?_; exact HO5.out; exact HK.out; rintro e w6 ⟨rfl, hgr⟩; have HB6 : Hid (Below w.heap.size w w6) := Below.grown (Below.drew HB5.out) hgr HB5.out.size (fun q hq => by cases hq; exact HGW.out.1); have c0 := cell_kept hgr HGW.out.2 c0; have c1 := cell_kept hgr HGW.out.2 c1; have c2 := cell_kept hgr HGW.out.2 c2; have e0 := (HF.out _ HB6.out).e0; have e1 := (HF.out _ HB6.out).e1; have e2 := (HF.out _ HB6.out).e2; clear hgr))
          have hat := HF.out _ HB6.out
          clear c0 c1 c2 e0 e1 e2 HI HO5 HB5
          have e0 : w6.cell? ⟨b, off + k * 3, none⟩ = some (.int .i64 mw) := hat.e0
          have e1 : w6.cell? ⟨b, off + k * 3 + 1, none⟩ = some (.int .i64 mh) := hat.e1
          have e2 : w6.cell? ⟨b, off + k * 3 + 2, none⟩ = some (.slice ma mn mc) := hat.e2
          have HK : Hid (IsWords w6 ma mn mc mL) := hat.k
          clear hat
          have o0 : (FloatKind.f64.format.order 0 0 == some .eq) = true := by decide
          have o1 : (FloatKind.f64.format.order 0 0 != some .eq) = false := by decide
          go_wp2_with (go_at_call 10; refine (may0 mw mh ma mn mc mL false _ HK.out (by simp [HOK.out])).mono ?_; rintro e w7 ⟨rfl, hbel⟩; have HB7 := Lib.hid (HB6.out.trans (hbel.mono HB6.out.size)); clear hbel)
          go_roundw
          case rel => exact ⟨k + 1, by omega, by omega, by go_num, HB7⟩
          case measure => simp [intOf]; omega
    · have hex : (¬ k < len) ∨ (k < len ∧ k = 5) := by omega
      have HBR := Lib.hid hbr.out
      clear hbr hk hk5 hlt
      rcases hex with hx | ⟨hx1, hx5⟩
      · have hxI : ¬ (k : Int) < (len : Int) := by omega
        clear hx
        go_wp2_with fail
        go_loopw [16] (fun i wr => ∃ q p : Nat, q = p + 1 ∧ p ≤ 4 ∧ (p = 0 ∨ q ≤ len) ∧ i = .int .i64 q ∧ Hid (Below w.heap.size w wr)) (fun i _ => 5 - (intOf i).toNat)
        case atStart => exact ⟨1, 0, rfl, by omega, Or.inl rfl, rfl, HBR⟩
        case round =>
          clear HBR
          obtain ⟨q, p, hqp, hp4, hpl, rfl, hbr⟩ := hrel
          by_cases hlt : q < len ∧ p < 4
          · obtain ⟨hlt, hl5⟩ := hlt
            obtain ⟨b, off, rfl, hat⟩ := HM.out q hlt wr hbr.out
            have HF : Hid (∀ W', Below w.heap.size w W' → MapAt W' b (off + q * 3) (M q)) := fun W' hb => by
              obtain ⟨b', off', h1, h2⟩ := HM.out q hlt W' hb
              cases h1
              exact h2
            have HP : Hid (∀ W', Below w.heap.size w W' → MapAt W' b (off + p * 3) (M p)) := fun W' hb => by
              obtain ⟨b', off', h1, h2⟩ := HM.out p (by omega) W' hb
              cases h1
              exact h2
            cases hm : M q with | mk bw bh ba bn bc bL =>
            cases hm2 : M p with | mk aw ah aa an ac aL =>
            rw [hm] at hat HF
            rw [hm2] at HP
            clear hm hm2
            have hap := HP.out wr hbr.out
            have e0 : wr.cell? ⟨b, off + q * 3, none⟩ = some (.int .i64 bw) := hat.e0
            have e1 : wr.cell? ⟨b, off + q * 3 + 1, none⟩ = some (.int .i64 bh) := hat.e1
            have e2 : wr.cell? ⟨b, off + q * 3 + 2, none⟩ = some (.slice ba bn bc) := hat.e2
            have d0 : wr.cell? ⟨b, off + p * 3, none⟩ = some (.int .i64 aw) := hap.e0
            have d1 : wr.cell? ⟨b, off + p * 3 + 1, none⟩ = some (.int .i64 ah) := hap.e1
            have d2 : wr.cell? ⟨b, off + p * 3 + 2, none⟩ = some (.slice aa an ac) := hap.e2
            have HKB : Hid (IsWords wr ba bn bc bL) := hat.k
            have HKA : Hid (IsWords wr aa an ac aL) := hap.k
            clear hat hap
            have hltI : (q : Int) < (len : Int) := by omega
            have hltP : (p : Int) < (len : Int) := by omega
            have hl5I : (q : Int) < 5 := by omega
            have hp5 : (p : Int) < 5 := by omega
            have hsub : (q : Int) - 1 = (p : Int) := by omega
            have hsubw : wrap64 ((q : Int) - 1) = (p : Int) := by rw [hsub]; exact Go.IntWalk.wrap64_in _ ⟨by omega, by omega⟩
            have hsubi : IntKind.i64.wrap ((q : Int) - 1) = (p : Int) := by rw [hsub]; exact IntWalk.i64_in _ (by omega)
            have hwp1 : IntKind.i64.wrap (p : Int) = (p : Int) := IntWalk.i64_in _ (by omega)
            have hwp2 : wrap64 (p : Int) = (p : Int) := Go.IntWalk.wrap64_in _ ⟨by omega, by omega⟩
            have hp0 : (0 : Int) ≤ (p : Int) := by omega
            have hq4 : q ≤ 4 := by omega
            have HQ : Hid (q = p + 1 ∧ p < 4 ∧ q < len) := ⟨hqp, hl5, hlt⟩
            clear hqp hpl hl5 hlt
            by_cases hbig : 312 < bn
            · have hbI : (312 : Int) < (bn : Int) := by omega
              go_wp2_with fail
              go_roundw
              case rel => have := HQ.out; exact ⟨q + 1, q, rfl, by omega, by omega, by go_num, hbr⟩
              case measure => simp [intOf]; omega
            · have hbI : ¬ (312 : Int) < (bn : Int) := by omega
              by_cases hbig2 : 312 < an
              · have hbI2 : (312 : Int) < (an : Int) := by omega
                go_wp2_with fail
                go_roundw
                case rel => have := HQ.out; exact ⟨q + 1, q, rfl, by omega, by omega, by go_num, hbr⟩
                case measure => simp [intOf]; omega
              · have hbI2 : ¬ (312 : Int) < (an : Int) := by omega
                have HNA := Lib.hid (show an ≤ 10000 by omega)
                have HNB := Lib.hid (show bn ≤ 10000 by omega)
                go_upto_region 22 with fail
                clear hbI hbI2 hbig hbig2
                by_cases hoka : okB aw ah an aL
                · as_aux_lemma =>
                  have HOKA := Lib.hid hoka
                  clear hoka
                  by_cases hokb : okB bw bh bn bL
                  · as_aux_lemma =>
                    have HOKB := Lib.hid hokb
                    clear hokb
                    by_cases hne : aw = bw ∧ ah = bh
                    · as_aux_lemma =>
                      obtain ⟨rfl, rfl⟩ := hne
                      have hen : an = bn := HOKA.out.2.1.trans HOKB.out.2.1.symm
                      subst hen
                      obtain ⟨W, rfl⟩ : ∃ x : Nat, aw = x := ⟨aw.toNat, by have := HOKA.out.1.1; omega⟩
                      obtain ⟨H, rfl⟩ : ∃ x : Nat, ah = x := ⟨ah.toNat, by have := HOKA.out.1.2.1; omega⟩
                      go_region_held3 (fun w' => w'.cell? ⟨b, off + q * 3, none⟩ = some (.int .i64 (W : Int)) ∧ w'.cell? ⟨b, off + q * 3 + 1, none⟩ = some (.int .i64 (H : Int)) ∧ w'.cell? ⟨b, off + q * 3 + 2, none⟩ = some (.slice ba an bc) ∧ w'.cell? ⟨b, off + p * 3, none⟩ = some (.int .i64 (W : Int)) ∧ w'.cell? ⟨b, off + p * 3 + 1, none⟩ = some (.int .i64 (H : Int)) ∧ w'.cell? ⟨b, off + p * 3 + 2, none⟩ = some (.slice aa an ac)) (go_keep)
                        ((go_at_call 15; refine (unlike15 W H aa an ac aL ba bc bL _ ?_ ?_ HOKA.out HOKB.out HNA.out).mono ?_; exact HKA.out; exact HKB.out; rintro e w1 ⟨rs, rfl, HRS, hbel⟩; have HB1 := Lib.hid (hbr.out.trans ((Below.trans (Below.drew (Below.refl _ wr)) hbel).mono hbr.out.size)); have e0 := (HF.out w1 HB1.out).e0; have e1 := (HF.out w1 HB1.out).e1; have e2 := (HF.out w1 HB1.out).e2; have d0 := (HP.out w1 HB1.out).e0; have d1 := (HP.out w1 HB1.out).e1; have d2 := (HP.out w1 HB1.out).e2; clear hbel))
                      clear e0 e1 e2 d0 d1 d2 HKA HKB
                      have hat := HF.out _ HB1.out
                      have hap := HP.out _ HB1.out
                      have e0 : w1.cell? ⟨b, off + q * 3, none⟩ = some (.int .i64 (W : Int)) := hat.e0
                      have e1 : w1.cell? ⟨b, off + q * 3 + 1, none⟩ = some (.int .i64 (H : Int)) := hat.e1
                      have e2 : w1.cell? ⟨b, off + q * 3 + 2, none⟩ = some (.slice ba an bc) := hat.e2
                      have d0 : w1.cell? ⟨b, off + p * 3, none⟩ = some (.int .i64 (W : Int)) := hap.e0
                      have d1 : w1.cell? ⟨b, off + p * 3 + 1, none⟩ = some (.int .i64 (H : Int)) := hap.e1
                      have d2 : w1.cell? ⟨b, off + p * 3 + 2, none⟩ = some (.slice aa an ac) := hap.e2
                      have HKB : Hid (IsWords w1 ba an bc bL) := hat.k
                      have HKA : Hid (IsWords w1 aa an ac aL) := hap.k
                      clear hat hap
                      go_wp2_with fail
                      refine (may0 (W : Int) (H : Int) aa an ac aL true _ HKA.out (by simp [HOKA.out])).mono ?_
                      rintro e w2 ⟨rfl, hbel⟩
                      have HB2 := Lib.hid (HB1.out.trans (hbel.mono HB1.out.size))
                      clear hbel e0 e1 e2 d0 d1 d2 HKA HKB
                      have hat := HF.out _ HB2.out
                      have hap := HP.out _ HB2.out
                      have e0 : w2.cell? ⟨b, off + q * 3, none⟩ = some (.int .i64 (W : Int)) := hat.e0
                      have e1 : w2.cell? ⟨b, off + q * 3 + 1, none⟩ = some (.int .i64 (H : Int)) := hat.e1
                      have e2 : w2.cell? ⟨b, off + q * 3 + 2, none⟩ = some (.slice ba an bc) := hat.e2
                      have d0 : w2.cell? ⟨b, off + p * 3, none⟩ = some (.int .i64 (W : Int)) := hap.e0
                      have d1 : w2.cell? ⟨b, off + p * 3 + 1, none⟩ = some (.int .i64 (H : Int)) := hap.e1
                      have d2 : w2.cell? ⟨b, off + p * 3 + 2, none⟩ = some (.slice aa an ac) := hap.e2
                      have HKB : Hid (IsWords w2 ba an bc bL) := hat.k
                      have HKA : Hid (IsWords w2 aa an ac aL) := hap.k
                      clear hat hap
                      go_wp2_with fail
                      refine (may0 (W : Int) (H : Int) ba an bc bL true _ HKB.out (by simp [HOKB.out])).mono ?_
                      rintro e w3 ⟨rfl, hbel⟩
                      have HB3 := Lib.hid (HB2.out.trans (hbel.mono HB2.out.size))
                      clear hbel e0 e1 e2 d0 d1 d2 HKA HKB
                      have hat := HF.out _ HB3.out
                      have hap := HP.out _ HB3.out
                      have e0 : w3.cell? ⟨b, off + q * 3, none⟩ = some (.int .i64 (W : Int)) := hat.e0
                      have e1 : w3.cell? ⟨b, off + q * 3 + 1, none⟩ = some (.int .i64 (H : Int)) := hat.e1
                      have e2 : w3.cell? ⟨b, off + q * 3 + 2, none⟩ = some (.slice ba an bc) := hat.e2
                      have d0 : w3.cell? ⟨b, off + p * 3, none⟩ = some (.int .i64 (W : Int)) := hap.e0
                      have d1 : w3.cell? ⟨b, off + p * 3 + 1, none⟩ = some (.int .i64 (H : Int)) := hap.e1
                      have d2 : w3.cell? ⟨b, off + p * 3 + 2, none⟩ = some (.slice aa an ac) := hap.e2
                      have HKB : Hid (IsWords w3 ba an bc bL) := hat.k
                      have HKA : Hid (IsWords w3 aa an ac aL) := hap.k
                      clear hat hap
                      go_upto_region 26 with fail
                      go_region_held3 (fun w' => w'.cell? ⟨b, off + q * 3, none⟩ = some (.int .i64 (W : Int)) ∧ w'.cell? ⟨b, off + q * 3 + 1, none⟩ = some (.int .i64 (H : Int)) ∧ w'.cell? ⟨b, off + q * 3 + 2, none⟩ = some (.slice ba an bc) ∧ w'.cell? ⟨b, off + p * 3, none⟩ = some (.int .i64 (W : Int)) ∧ w'.cell? ⟨b, off + p * 3 + 1, none⟩ = some (.int .i64 (H : Int)) ∧ w'.cell? ⟨b, off + p * 3 + 2, none⟩ = some (.slice aa an ac)) (go_keep)
                        ((first
                          | (go_at_call 16; refine (unlike16 W H aa an ac aL ba bc bL _ ?_ ?_ HOKA.out HNA.out).mono ?_; exact HKA.out; exact HKB.out; rintro e w4 ⟨rt, rfl, HRT, hbel⟩; have HB4 := Lib.hid (HB3.out.trans ((Below.trans (Below.drew (Below.refl _ w3)) hbel).mono HB3.out.size)); have e0 := (HF.out w4 HB4.out).e0; have e1 := (HF.out w4 HB4.out).e1; have e2 := (HF.out w4 HB4.out).e2; have d0 := (HP.out w4 HB4.out).e0; have d1 := (HP.out w4 HB4.out).e1; have d2 := (HP.out w4 HB4.out).e2; clear hbel)
                          | (go_at_call 13; refine (sameq2 ⟨_, _, HRS.out, HRT.out⟩ _).mono ?_; rintro e w5 ⟨rfl, kk, rfl⟩)))
                      go_wp2_with fail
                      go_roundw
                      case rel => have := HQ.out; exact ⟨q + 1, q, rfl, by omega, by omega, by go_num, below_drewN HB4.out _⟩
                      case measure => simp [intOf]; omega
                    · as_aux_lemma =>
                      have HNE := Lib.hid hne
                      clear hne
                      go_region_held3 (fun w' => w'.cell? ⟨b, off + q * 3, none⟩ = some (.int .i64 bw) ∧ w'.cell? ⟨b, off + q * 3 + 1, none⟩ = some (.int .i64 bh) ∧ w'.cell? ⟨b, off + q * 3 + 2, none⟩ = some (.slice ba bn bc) ∧ w'.cell? ⟨b, off + p * 3, none⟩ = some (.int .i64 aw) ∧ w'.cell? ⟨b, off + p * 3 + 1, none⟩ = some (.int .i64 ah) ∧ w'.cell? ⟨b, off + p * 3 + 2, none⟩ = some (.slice aa an ac)) (go_keep)
                        ((go_at_call 15; refine (unlike_far aw ah aa an ac aL bw bh ba bn bc bL _ ?_ ?_ HOKA.out HOKB.out HNE.out).mono ?_; exact HKA.out; exact HKB.out; rintro e w1 ⟨rfl, hbel⟩; have HB1 := Lib.hid (hbr.out.trans ((Below.trans (Below.drew (Below.refl _ wr)) hbel).mono hbr.out.size)); have e0 := (HF.out w1 HB1.out).e0; have e1 := (HF.out w1 HB1.out).e1; have e2 := (HF.out w1 HB1.out).e2; have d0 := (HP.out w1 HB1.out).e0; have d1 := (HP.out w1 HB1.out).e1; have d2 := (HP.out w1 HB1.out).e2; clear hbel))
                      clear e0 e1 e2 d0 d1 d2 HKA HKB
                      have hat := HF.out _ HB1.out
                      have hap := HP.out _ HB1.out
                      have e0 : w1.cell? ⟨b, off + q * 3, none⟩ = some (.int .i64 bw) := hat.e0
                      have e1 : w1.cell? ⟨b, off + q * 3 + 1, none⟩ = some (.int .i64 bh) := hat.e1
                      have e2 : w1.cell? ⟨b, off + q * 3 + 2, none⟩ = some (.slice ba bn bc) := hat.e2
                      have d0 : w1.cell? ⟨b, off + p * 3, none⟩ = some (.int .i64 aw) := hap.e0
                      have d1 : w1.cell? ⟨b, off + p * 3 + 1, none⟩ = some (.int .i64 ah) := hap.e1
                      have d2 : w1.cell? ⟨b, off + p * 3 + 2, none⟩ = some (.slice aa an ac) := hap.e2
                      have HKB : Hid (IsWords w1 ba bn bc bL) := hat.k
                      have HKA : Hid (IsWords w1 aa an ac aL) := hap.k
                      clear hat hap
                      go_wp2_with fail
                      refine (may0 aw ah aa an ac aL true _ HKA.out (by simp [HOKA.out])).mono ?_
                      rintro e w2 ⟨rfl, hbel⟩
                      have HB2 := Lib.hid (HB1.out.trans (hbel.mono HB1.out.size))
                      clear hbel e0 e1 e2 d0 d1 d2 HKA HKB
                      have hat := HF.out _ HB2.out
                      have hap := HP.out _ HB2.out
                      have e0 : w2.cell? ⟨b, off + q * 3, none⟩ = some (.int .i64 bw) := hat.e0
                      have e1 : w2.cell? ⟨b, off + q * 3 + 1, none⟩ = some (.int .i64 bh) := hat.e1
                      have e2 : w2.cell? ⟨b, off + q * 3 + 2, none⟩ = some (.slice ba bn bc) := hat.e2
                      have d0 : w2.cell? ⟨b, off + p * 3, none⟩ = some (.int .i64 aw) := hap.e0
                      have d1 : w2.cell? ⟨b, off + p * 3 + 1, none⟩ = some (.int .i64 ah) := hap.e1
                      have d2 : w2.cell? ⟨b, off + p * 3 + 2, none⟩ = some (.slice aa an ac) := hap.e2
                      have HKB : Hid (IsWords w2 ba bn bc bL) := hat.k
                      have HKA : Hid (IsWords w2 aa an ac aL) := hap.k
                      clear hat hap
                      go_wp2_with fail
                      refine (may0 bw bh ba bn bc bL true _ HKB.out (by simp [HOKB.out])).mono ?_
                      rintro e w3 ⟨rfl, hbel⟩
                      have HB3 := Lib.hid (HB2.out.trans (hbel.mono HB2.out.size))
                      clear hbel e0 e1 e2 d0 d1 d2 HKA HKB
                      have hat := HF.out _ HB3.out
                      have hap := HP.out _ HB3.out
                      have e0 : w3.cell? ⟨b, off + q * 3, none⟩ = some (.int .i64 bw) := hat.e0
                      have e1 : w3.cell? ⟨b, off + q * 3 + 1, none⟩ = some (.int .i64 bh) := hat.e1
                      have e2 : w3.cell? ⟨b, off + q * 3 + 2, none⟩ = some (.slice ba bn bc) := hat.e2
                      have d0 : w3.cell? ⟨b, off + p * 3, none⟩ = some (.int .i64 aw) := hap.e0
                      have d1 : w3.cell? ⟨b, off + p * 3 + 1, none⟩ = some (.int .i64 ah) := hap.e1
                      have d2 : w3.cell? ⟨b, off + p * 3 + 2, none⟩ = some (.slice aa an ac) := hap.e2
                      have HKB : Hid (IsWords w3 ba bn bc bL) := hat.k
                      have HKA : Hid (IsWords w3 aa an ac aL) := hap.k
                      clear hat hap
                      go_upto_region 26 with fail
                      go_region_held3 (fun w' => w'.cell? ⟨b, off + q * 3, none⟩ = some (.int .i64 bw) ∧ w'.cell? ⟨b, off + q * 3 + 1, none⟩ = some (.int .i64 bh) ∧ w'.cell? ⟨b, off + q * 3 + 2, none⟩ = some (.slice ba bn bc) ∧ w'.cell? ⟨b, off + p * 3, none⟩ = some (.int .i64 aw) ∧ w'.cell? ⟨b, off + p * 3 + 1, none⟩ = some (.int .i64 ah) ∧ w'.cell? ⟨b, off + p * 3 + 2, none⟩ = some (.slice aa an ac)) (go_keep)
                        ((first
                          | (go_at_call 16; refine (unlike16_far aw ah aa an ac aL bw bh ba bn bc bL _ ?_ ?_ HNE.out).mono ?_; exact HKA.out; exact HKB.out; rintro e w4 ⟨rfl, hbel⟩; have HB4 := Lib.hid (HB3.out.trans ((Below.trans (Below.drew (Below.refl _ w3)) hbel).mono HB3.out.size)); have e0 := (HF.out w4 HB4.out).e0; have e1 := (HF.out w4 HB4.out).e1; have e2 := (HF.out w4 HB4.out).e2; have d0 := (HP.out w4 HB4.out).e0; have d1 := (HP.out w4 HB4.out).e1; have d2 := (HP.out w4 HB4.out).e2; clear hbel)
                          | (go_at_call 13; refine (same_inf _).mono ?_; rintro e w5 ⟨rfl, kk, rfl⟩)))
                      go_wp2_with fail
                      go_roundw
                      case rel => have := HQ.out; exact ⟨q + 1, q, rfl, by omega, by omega, by go_num, below_drewN HB4.out _⟩
                      case measure => simp [intOf]; omega
                  · as_aux_lemma =>
                    have HOKB := Lib.hid hokb
                    clear hokb
                    go_region_held3 (fun w' => w'.cell? ⟨b, off + q * 3, none⟩ = some (.int .i64 bw) ∧ w'.cell? ⟨b, off + q * 3 + 1, none⟩ = some (.int .i64 bh) ∧ w'.cell? ⟨b, off + q * 3 + 2, none⟩ = some (.slice ba bn bc) ∧ w'.cell? ⟨b, off + p * 3, none⟩ = some (.int .i64 aw) ∧ w'.cell? ⟨b, off + p * 3 + 1, none⟩ = some (.int .i64 ah) ∧ w'.cell? ⟨b, off + p * 3 + 2, none⟩ = some (.slice aa an ac)) (go_keep)
                      ((go_at_call 15; refine (unlike_no2 aw ah aa an ac aL bw bh ba bn bc bL _ ?_ ?_ HOKA.out HOKB.out).mono ?_; exact HKA.out; exact HKB.out; rintro e w1 ⟨rfl, hbel⟩; have HB1 := Lib.hid (hbr.out.trans ((Below.trans (Below.drew (Below.refl _ wr)) hbel).mono hbr.out.size)); have e0 := (HF.out w1 HB1.out).e0; have e1 := (HF.out w1 HB1.out).e1; have e2 := (HF.out w1 HB1.out).e2; have d0 := (HP.out w1 HB1.out).e0; have d1 := (HP.out w1 HB1.out).e1; have d2 := (HP.out w1 HB1.out).e2; clear hbel))
                    clear e0 e1 e2 d0 d1 d2 HKA HKB
                    have hat := HF.out _ HB1.out
                    have hap := HP.out _ HB1.out
                    have e0 : w1.cell? ⟨b, off + q * 3, none⟩ = some (.int .i64 bw) := hat.e0
                    have e1 : w1.cell? ⟨b, off + q * 3 + 1, none⟩ = some (.int .i64 bh) := hat.e1
                    have e2 : w1.cell? ⟨b, off + q * 3 + 2, none⟩ = some (.slice ba bn bc) := hat.e2
                    have d0 : w1.cell? ⟨b, off + p * 3, none⟩ = some (.int .i64 aw) := hap.e0
                    have d1 : w1.cell? ⟨b, off + p * 3 + 1, none⟩ = some (.int .i64 ah) := hap.e1
                    have d2 : w1.cell? ⟨b, off + p * 3 + 2, none⟩ = some (.slice aa an ac) := hap.e2
                    have HKB : Hid (IsWords w1 ba bn bc bL) := hat.k
                    have HKA : Hid (IsWords w1 aa an ac aL) := hap.k
                    clear hat hap
                    have o0 : (FloatKind.f64.format.order 0 0 == some .eq) = true := by decide
                    have o1 : (FloatKind.f64.format.order 0 0 != some .eq) = false := by decide
                    go_wp2_with fail
                    refine (may0 aw ah aa an ac aL true _ HKA.out (by simp [HOKA.out])).mono ?_
                    rintro e w2 ⟨rfl, hbel⟩
                    have HB2 := Lib.hid (HB1.out.trans (hbel.mono HB1.out.size))
                    clear hbel e0 e1 e2 d0 d1 d2 HKA HKB
                    have hat := HF.out _ HB2.out
                    have hap := HP.out _ HB2.out
                    have e0 : w2.cell? ⟨b, off + q * 3, none⟩ = some (.int .i64 bw) := hat.e0
                    have e1 : w2.cell? ⟨b, off + q * 3 + 1, none⟩ = some (.int .i64 bh) := hat.e1
                    have e2 : w2.cell? ⟨b, off + q * 3 + 2, none⟩ = some (.slice ba bn bc) := hat.e2
                    have d0 : w2.cell? ⟨b, off + p * 3, none⟩ = some (.int .i64 aw) := hap.e0
                    have d1 : w2.cell? ⟨b, off + p * 3 + 1, none⟩ = some (.int .i64 ah) := hap.e1
                    have d2 : w2.cell? ⟨b, off + p * 3 + 2, none⟩ = some (.slice aa an ac) := hap.e2
                    have HKB : Hid (IsWords w2 ba bn bc bL) := hat.k
                    have HKA : Hid (IsWords w2 aa an ac aL) := hap.k
                    clear hat hap
                    go_wp2_with fail
                    refine (may0 bw bh ba bn bc bL false _ HKB.out (by simp [HOKB.out])).mono ?_
                    rintro e w3 ⟨rfl, hbel⟩
                    have HB3 := Lib.hid (HB2.out.trans (hbel.mono HB2.out.size))
                    clear hbel e0 e1 e2 d0 d1 d2 HKA HKB
                    have hat := HF.out _ HB3.out
                    have hap := HP.out _ HB3.out
                    have e0 : w3.cell? ⟨b, off + q * 3, none⟩ = some (.int .i64 bw) := hat.e0
                    have e1 : w3.cell? ⟨b, off + q * 3 + 1, none⟩ = some (.int .i64 bh) := hat.e1
                    have e2 : w3.cell? ⟨b, off + q * 3 + 2, none⟩ = some (.slice ba bn bc) := hat.e2
                    have d0 : w3.cell? ⟨b, off + p * 3, none⟩ = some (.int .i64 aw) := hap.e0
                    have d1 : w3.cell? ⟨b, off + p * 3 + 1, none⟩ = some (.int .i64 ah) := hap.e1
                    have d2 : w3.cell? ⟨b, off + p * 3 + 2, none⟩ = some (.slice aa an ac) := hap.e2
                    have HKB : Hid (IsWords w3 ba bn bc bL) := hat.k
                    have HKA : Hid (IsWords w3 aa an ac aL) := hap.k
                    clear hat hap
                    go_wp2_with fail
                    go_roundw
                    case rel => have := HQ.out; exact ⟨q + 1, q, rfl, by omega, by omega, by go_num, HB3⟩
                    case measure => simp [intOf]; omega
                · as_aux_lemma =>
                  have HOKA := Lib.hid hoka
                  clear hoka
                  go_region_held3 (fun w' => w'.cell? ⟨b, off + q * 3, none⟩ = some (.int .i64 bw) ∧ w'.cell? ⟨b, off + q * 3 + 1, none⟩ = some (.int .i64 bh) ∧ w'.cell? ⟨b, off + q * 3 + 2, none⟩ = some (.slice ba bn bc) ∧ w'.cell? ⟨b, off + p * 3, none⟩ = some (.int .i64 aw) ∧ w'.cell? ⟨b, off + p * 3 + 1, none⟩ = some (.int .i64 ah) ∧ w'.cell? ⟨b, off + p * 3 + 2, none⟩ = some (.slice aa an ac)) (go_keep)
                    ((go_at_call 15; refine (unlike_no1 aw ah aa an ac aL bw bh ba bn bc bL _ ?_ ?_ HOKA.out).mono ?_; exact HKA.out; exact HKB.out; rintro e w1 ⟨rfl, hbel⟩; have HB1 := Lib.hid (hbr.out.trans ((Below.trans (Below.drew (Below.refl _ wr)) hbel).mono hbr.out.size)); have e0 := (HF.out w1 HB1.out).e0; have e1 := (HF.out w1 HB1.out).e1; have e2 := (HF.out w1 HB1.out).e2; have d0 := (HP.out w1 HB1.out).e0; have d1 := (HP.out w1 HB1.out).e1; have d2 := (HP.out w1 HB1.out).e2; clear hbel))
                  clear e0 e1 e2 d0 d1 d2 HKA HKB
                  have hat := HF.out _ HB1.out
                  have hap := HP.out _ HB1.out
                  have e0 : w1.cell? ⟨b, off + q * 3, none⟩ = some (.int .i64 bw) := hat.e0
                  have e1 : w1.cell? ⟨b, off + q * 3 + 1, none⟩ = some (.int .i64 bh) := hat.e1
                  have e2 : w1.cell? ⟨b, off + q * 3 + 2, none⟩ = some (.slice ba bn bc) := hat.e2
                  have d0 : w1.cell? ⟨b, off + p * 3, none⟩ = some (.int .i64 aw) := hap.e0
                  have d1 : w1.cell? ⟨b, off + p * 3 + 1, none⟩ = some (.int .i64 ah) := hap.e1
                  have d2 : w1.cell? ⟨b, off + p * 3 + 2, none⟩ = some (.slice aa an ac) := hap.e2
                  have HKB : Hid (IsWords w1 ba bn bc bL) := hat.k
                  have HKA : Hid (IsWords w1 aa an ac aL) := hap.k
                  clear hat hap
                  have o0 : (FloatKind.f64.format.order 0 0 == some .eq) = true := by decide
                  have o1 : (FloatKind.f64.format.order 0 0 != some .eq) = false := by decide
                  go_wp2_with fail
                  refine (may0 aw ah aa an ac aL false _ HKA.out (by simp [HOKA.out])).mono ?_
                  rintro e w2 ⟨rfl, hbel⟩
                  have HB2 := Lib.hid (HB1.out.trans (hbel.mono HB1.out.size))
                  clear hbel e0 e1 e2 d0 d1 d2 HKA HKB
                  have hat := HF.out _ HB2.out
                  have hap := HP.out _ HB2.out
                  have e0 : w2.cell? ⟨b, off + q * 3, none⟩ = some (.int .i64 bw) := hat.e0
                  have e1 : w2.cell? ⟨b, off + q * 3 + 1, none⟩ = some (.int .i64 bh) := hat.e1
                  have e2 : w2.cell? ⟨b, off + q * 3 + 2, none⟩ = some (.slice ba bn bc) := hat.e2
                  have d0 : w2.cell? ⟨b, off + p * 3, none⟩ = some (.int .i64 aw) := hap.e0
                  have d1 : w2.cell? ⟨b, off + p * 3 + 1, none⟩ = some (.int .i64 ah) := hap.e1
                  have d2 : w2.cell? ⟨b, off + p * 3 + 2, none⟩ = some (.slice aa an ac) := hap.e2
                  have HKB : Hid (IsWords w2 ba bn bc bL) := hat.k
                  have HKA : Hid (IsWords w2 aa an ac aL) := hap.k
                  clear hat hap
                  go_wp2_with fail
                  go_roundw
                  case rel => have := HQ.out; exact ⟨q + 1, q, rfl, by omega, by omega, by go_num, HB2⟩
                  case measure => simp [intOf]; omega
          · have hx : (¬ q < len) ∨ (q < len ∧ p = 4) := by omega
            clear hpl hlt hp4
            rcases hx with hx | ⟨hx1, hx2⟩
            · have hxI : ¬ (q : Int) < (len : Int) := by omega
              clear hx
              go_wp2_with (go_at_call 17; refine (wakes14 _).mono ?_; rintro e w' ⟨rfl, n, rfl⟩)
              go_ret
              exact ⟨rfl, below_drewN hbr.out _⟩
            · have hxI : (q : Int) < (len : Int) := by omega
              have hx5 : ¬ (q : Int) < 5 := by omega
              clear hx1 hx2 hqp
              go_wp2_with (go_at_call 17; refine (wakes14 _).mono ?_; rintro e w' ⟨rfl, n, rfl⟩)
              go_ret
              exact ⟨rfl, below_drewN hbr.out _⟩
      · have hxI : (k : Int) < (len : Int) := by omega
        have hx5I : ¬ (k : Int) < 5 := by omega
        clear hx1 hx5
        go_wp2_with fail
        go_loopw [16] (fun i wr => ∃ q p : Nat, q = p + 1 ∧ p ≤ 4 ∧ (p = 0 ∨ q ≤ len) ∧ i = .int .i64 q ∧ Hid (Below w.heap.size w wr)) (fun i _ => 5 - (intOf i).toNat)
        case atStart => exact ⟨1, 0, rfl, by omega, Or.inl rfl, rfl, HBR⟩
        case round =>
          clear HBR
          obtain ⟨q, p, hqp, hp4, hpl, rfl, hbr⟩ := hrel
          by_cases hlt : q < len ∧ p < 4
          · obtain ⟨hlt, hl5⟩ := hlt
            obtain ⟨b, off, rfl, hat⟩ := HM.out q hlt wr hbr.out
            have HF : Hid (∀ W', Below w.heap.size w W' → MapAt W' b (off + q * 3) (M q)) := fun W' hb => by
              obtain ⟨b', off', h1, h2⟩ := HM.out q hlt W' hb
              cases h1
              exact h2
            have HP : Hid (∀ W', Below w.heap.size w W' → MapAt W' b (off + p * 3) (M p)) := fun W' hb => by
              obtain ⟨b', off', h1, h2⟩ := HM.out p (by omega) W' hb
              cases h1
              exact h2
            cases hm : M q with | mk bw bh ba bn bc bL =>
            cases hm2 : M p with | mk aw ah aa an ac aL =>
            rw [hm] at hat HF
            rw [hm2] at HP
            clear hm hm2
            have hap := HP.out wr hbr.out
            have e0 : wr.cell? ⟨b, off + q * 3, none⟩ = some (.int .i64 bw) := hat.e0
            have e1 : wr.cell? ⟨b, off + q * 3 + 1, none⟩ = some (.int .i64 bh) := hat.e1
            have e2 : wr.cell? ⟨b, off + q * 3 + 2, none⟩ = some (.slice ba bn bc) := hat.e2
            have d0 : wr.cell? ⟨b, off + p * 3, none⟩ = some (.int .i64 aw) := hap.e0
            have d1 : wr.cell? ⟨b, off + p * 3 + 1, none⟩ = some (.int .i64 ah) := hap.e1
            have d2 : wr.cell? ⟨b, off + p * 3 + 2, none⟩ = some (.slice aa an ac) := hap.e2
            have HKB : Hid (IsWords wr ba bn bc bL) := hat.k
            have HKA : Hid (IsWords wr aa an ac aL) := hap.k
            clear hat hap
            have hltI : (q : Int) < (len : Int) := by omega
            have hltP : (p : Int) < (len : Int) := by omega
            have hl5I : (q : Int) < 5 := by omega
            have hp5 : (p : Int) < 5 := by omega
            have hsub : (q : Int) - 1 = (p : Int) := by omega
            have hsubw : wrap64 ((q : Int) - 1) = (p : Int) := by rw [hsub]; exact Go.IntWalk.wrap64_in _ ⟨by omega, by omega⟩
            have hsubi : IntKind.i64.wrap ((q : Int) - 1) = (p : Int) := by rw [hsub]; exact IntWalk.i64_in _ (by omega)
            have hwp1 : IntKind.i64.wrap (p : Int) = (p : Int) := IntWalk.i64_in _ (by omega)
            have hwp2 : wrap64 (p : Int) = (p : Int) := Go.IntWalk.wrap64_in _ ⟨by omega, by omega⟩
            have hp0 : (0 : Int) ≤ (p : Int) := by omega
            have hq4 : q ≤ 4 := by omega
            have HQ : Hid (q = p + 1 ∧ p < 4 ∧ q < len) := ⟨hqp, hl5, hlt⟩
            clear hqp hpl hl5 hlt
            by_cases hbig : 312 < bn
            · have hbI : (312 : Int) < (bn : Int) := by omega
              go_wp2_with fail
              go_roundw
              case rel => have := HQ.out; exact ⟨q + 1, q, rfl, by omega, by omega, by go_num, hbr⟩
              case measure => simp [intOf]; omega
            · have hbI : ¬ (312 : Int) < (bn : Int) := by omega
              by_cases hbig2 : 312 < an
              · have hbI2 : (312 : Int) < (an : Int) := by omega
                go_wp2_with fail
                go_roundw
                case rel => have := HQ.out; exact ⟨q + 1, q, rfl, by omega, by omega, by go_num, hbr⟩
                case measure => simp [intOf]; omega
              · have hbI2 : ¬ (312 : Int) < (an : Int) := by omega
                have HNA := Lib.hid (show an ≤ 10000 by omega)
                have HNB := Lib.hid (show bn ≤ 10000 by omega)
                go_upto_region 22 with fail
                clear hbI hbI2 hbig hbig2
                by_cases hoka : okB aw ah an aL
                · as_aux_lemma =>
                  have HOKA := Lib.hid hoka
                  clear hoka
                  by_cases hokb : okB bw bh bn bL
                  · as_aux_lemma =>
                    have HOKB := Lib.hid hokb
                    clear hokb
                    by_cases hne : aw = bw ∧ ah = bh
                    · as_aux_lemma =>
                      obtain ⟨rfl, rfl⟩ := hne
                      have hen : an = bn := HOKA.out.2.1.trans HOKB.out.2.1.symm
                      subst hen
                      obtain ⟨W, rfl⟩ : ∃ x : Nat, aw = x := ⟨aw.toNat, by have := HOKA.out.1.1; omega⟩
                      obtain ⟨H, rfl⟩ : ∃ x : Nat, ah = x := ⟨ah.toNat, by have := HOKA.out.1.2.1; omega⟩
                      go_region_held3 (fun w' => w'.cell? ⟨b, off + q * 3, none⟩ = some (.int .i64 (W : Int)) ∧ w'.cell? ⟨b, off + q * 3 + 1, none⟩ = some (.int .i64 (H : Int)) ∧ w'.cell? ⟨b, off + q * 3 + 2, none⟩ = some (.slice ba an bc) ∧ w'.cell? ⟨b, off + p * 3, none⟩ = some (.int .i64 (W : Int)) ∧ w'.cell? ⟨b, off + p * 3 + 1, none⟩ = some (.int .i64 (H : Int)) ∧ w'.cell? ⟨b, off + p * 3 + 2, none⟩ = some (.slice aa an ac)) (go_keep)
                        ((go_at_call 15; refine (unlike15 W H aa an ac aL ba bc bL _ ?_ ?_ HOKA.out HOKB.out HNA.out).mono ?_; exact HKA.out; exact HKB.out; rintro e w1 ⟨rs, rfl, HRS, hbel⟩; have HB1 := Lib.hid (hbr.out.trans ((Below.trans (Below.drew (Below.refl _ wr)) hbel).mono hbr.out.size)); have e0 := (HF.out w1 HB1.out).e0; have e1 := (HF.out w1 HB1.out).e1; have e2 := (HF.out w1 HB1.out).e2; have d0 := (HP.out w1 HB1.out).e0; have d1 := (HP.out w1 HB1.out).e1; have d2 := (HP.out w1 HB1.out).e2; clear hbel))
                      clear e0 e1 e2 d0 d1 d2 HKA HKB
                      have hat := HF.out _ HB1.out
                      have hap := HP.out _ HB1.out
                      have e0 : w1.cell? ⟨b, off + q * 3, none⟩ = some (.int .i64 (W : Int)) := hat.e0
                      have e1 : w1.cell? ⟨b, off + q * 3 + 1, none⟩ = some (.int .i64 (H : Int)) := hat.e1
                      have e2 : w1.cell? ⟨b, off + q * 3 + 2, none⟩ = some (.slice ba an bc) := hat.e2
                      have d0 : w1.cell? ⟨b, off + p * 3, none⟩ = some (.int .i64 (W : Int)) := hap.e0
                      have d1 : w1.cell? ⟨b, off + p * 3 + 1, none⟩ = some (.int .i64 (H : Int)) := hap.e1
                      have d2 : w1.cell? ⟨b, off + p * 3 + 2, none⟩ = some (.slice aa an ac) := hap.e2
                      have HKB : Hid (IsWords w1 ba an bc bL) := hat.k
                      have HKA : Hid (IsWords w1 aa an ac aL) := hap.k
                      clear hat hap
                      go_wp2_with fail
                      refine (may0 (W : Int) (H : Int) aa an ac aL true _ HKA.out (by simp [HOKA.out])).mono ?_
                      rintro e w2 ⟨rfl, hbel⟩
                      have HB2 := Lib.hid (HB1.out.trans (hbel.mono HB1.out.size))
                      clear hbel e0 e1 e2 d0 d1 d2 HKA HKB
                      have hat := HF.out _ HB2.out
                      have hap := HP.out _ HB2.out
                      have e0 : w2.cell? ⟨b, off + q * 3, none⟩ = some (.int .i64 (W : Int)) := hat.e0
                      have e1 : w2.cell? ⟨b, off + q * 3 + 1, none⟩ = some (.int .i64 (H : Int)) := hat.e1
                      have e2 : w2.cell? ⟨b, off + q * 3 + 2, none⟩ = some (.slice ba an bc) := hat.e2
                      have d0 : w2.cell? ⟨b, off + p * 3, none⟩ = some (.int .i64 (W : Int)) := hap.e0
                      have d1 : w2.cell? ⟨b, off + p * 3 + 1, none⟩ = some (.int .i64 (H : Int)) := hap.e1
                      have d2 : w2.cell? ⟨b, off + p * 3 + 2, none⟩ = some (.slice aa an ac) := hap.e2
                      have HKB : Hid (IsWords w2 ba an bc bL) := hat.k
                      have HKA : Hid (IsWords w2 aa an ac aL) := hap.k
                      clear hat hap
                      go_wp2_with fail
                      refine (may0 (W : Int) (H : Int) ba an bc bL true _ HKB.out (by simp [HOKB.out])).mono ?_
                      rintro e w3 ⟨rfl, hbel⟩
                      have HB3 := Lib.hid (HB2.out.trans (hbel.mono HB2.out.size))
                      clear hbel e0 e1 e2 d0 d1 d2 HKA HKB
                      have hat := HF.out _ HB3.out
                      have hap := HP.out _ HB3.out
                      have e0 : w3.cell? ⟨b, off + q * 3, none⟩ = some (.int .i64 (W : Int)) := hat.e0
                      have e1 : w3.cell? ⟨b, off + q * 3 + 1, none⟩ = some (.int .i64 (H : Int)) := hat.e1
                      have e2 : w3.cell? ⟨b, off + q * 3 + 2, none⟩ = some (.slice ba an bc) := hat.e2
                      have d0 : w3.cell? ⟨b, off + p * 3, none⟩ = some (.int .i64 (W : Int)) := hap.e0
                      have d1 : w3.cell? ⟨b, off + p * 3 + 1, none⟩ = some (.int .i64 (H : Int)) := hap.e1
                      have d2 : w3.cell? ⟨b, off + p * 3 + 2, none⟩ = some (.slice aa an ac) := hap.e2
                      have HKB : Hid (IsWords w3 ba an bc bL) := hat.k
                      have HKA : Hid (IsWords w3 aa an ac aL) := hap.k
                      clear hat hap
                      go_upto_region 26 with fail
                      go_region_held3 (fun w' => w'.cell? ⟨b, off + q * 3, none⟩ = some (.int .i64 (W : Int)) ∧ w'.cell? ⟨b, off + q * 3 + 1, none⟩ = some (.int .i64 (H : Int)) ∧ w'.cell? ⟨b, off + q * 3 + 2, none⟩ = some (.slice ba an bc) ∧ w'.cell? ⟨b, off + p * 3, none⟩ = some (.int .i64 (W : Int)) ∧ w'.cell? ⟨b, off + p * 3 + 1, none⟩ = some (.int .i64 (H : Int)) ∧ w'.cell? ⟨b, off + p * 3 + 2, none⟩ = some (.slice aa an ac)) (go_keep)
                        ((first
                          | (go_at_call 16; refine (unlike16 W H aa an ac aL ba bc bL _ ?_ ?_ HOKA.out HNA.out).mono ?_; exact HKA.out; exact HKB.out; rintro e w4 ⟨rt, rfl, HRT, hbel⟩; have HB4 := Lib.hid (HB3.out.trans ((Below.trans (Below.drew (Below.refl _ w3)) hbel).mono HB3.out.size)); have e0 := (HF.out w4 HB4.out).e0; have e1 := (HF.out w4 HB4.out).e1; have e2 := (HF.out w4 HB4.out).e2; have d0 := (HP.out w4 HB4.out).e0; have d1 := (HP.out w4 HB4.out).e1; have d2 := (HP.out w4 HB4.out).e2; clear hbel)
                          | (go_at_call 13; refine (sameq2 ⟨_, _, HRS.out, HRT.out⟩ _).mono ?_; rintro e w5 ⟨rfl, kk, rfl⟩)))
                      go_wp2_with fail
                      go_roundw
                      case rel => have := HQ.out; exact ⟨q + 1, q, rfl, by omega, by omega, by go_num, below_drewN HB4.out _⟩
                      case measure => simp [intOf]; omega
                    · as_aux_lemma =>
                      have HNE := Lib.hid hne
                      clear hne
                      go_region_held3 (fun w' => w'.cell? ⟨b, off + q * 3, none⟩ = some (.int .i64 bw) ∧ w'.cell? ⟨b, off + q * 3 + 1, none⟩ = some (.int .i64 bh) ∧ w'.cell? ⟨b, off + q * 3 + 2, none⟩ = some (.slice ba bn bc) ∧ w'.cell? ⟨b, off + p * 3, none⟩ = some (.int .i64 aw) ∧ w'.cell? ⟨b, off + p * 3 + 1, none⟩ = some (.int .i64 ah) ∧ w'.cell? ⟨b, off + p * 3 + 2, none⟩ = some (.slice aa an ac)) (go_keep)
                        ((go_at_call 15; refine (unlike_far aw ah aa an ac aL bw bh ba bn bc bL _ ?_ ?_ HOKA.out HOKB.out HNE.out).mono ?_; exact HKA.out; exact HKB.out; rintro e w1 ⟨rfl, hbel⟩; have HB1 := Lib.hid (hbr.out.trans ((Below.trans (Below.drew (Below.refl _ wr)) hbel).mono hbr.out.size)); have e0 := (HF.out w1 HB1.out).e0; have e1 := (HF.out w1 HB1.out).e1; have e2 := (HF.out w1 HB1.out).e2; have d0 := (HP.out w1 HB1.out).e0; have d1 := (HP.out w1 HB1.out).e1; have d2 := (HP.out w1 HB1.out).e2; clear hbel))
                      clear e0 e1 e2 d0 d1 d2 HKA HKB
                      have hat := HF.out _ HB1.out
                      have hap := HP.out _ HB1.out
                      have e0 : w1.cell? ⟨b, off + q * 3, none⟩ = some (.int .i64 bw) := hat.e0
                      have e1 : w1.cell? ⟨b, off + q * 3 + 1, none⟩ = some (.int .i64 bh) := hat.e1
                      have e2 : w1.cell? ⟨b, off + q * 3 + 2, none⟩ = some (.slice ba bn bc) := hat.e2
                      have d0 : w1.cell? ⟨b, off + p * 3, none⟩ = some (.int .i64 aw) := hap.e0
                      have d1 : w1.cell? ⟨b, off + p * 3 + 1, none⟩ = some (.int .i64 ah) := hap.e1
                      have d2 : w1.cell? ⟨b, off + p * 3 + 2, none⟩ = some (.slice aa an ac) := hap.e2
                      have HKB : Hid (IsWords w1 ba bn bc bL) := hat.k
                      have HKA : Hid (IsWords w1 aa an ac aL) := hap.k
                      clear hat hap
                      go_wp2_with fail
                      refine (may0 aw ah aa an ac aL true _ HKA.out (by simp [HOKA.out])).mono ?_
                      rintro e w2 ⟨rfl, hbel⟩
                      have HB2 := Lib.hid (HB1.out.trans (hbel.mono HB1.out.size))
                      clear hbel e0 e1 e2 d0 d1 d2 HKA HKB
                      have hat := HF.out _ HB2.out
                      have hap := HP.out _ HB2.out
                      have e0 : w2.cell? ⟨b, off + q * 3, none⟩ = some (.int .i64 bw) := hat.e0
                      have e1 : w2.cell? ⟨b, off + q * 3 + 1, none⟩ = some (.int .i64 bh) := hat.e1
                      have e2 : w2.cell? ⟨b, off + q * 3 + 2, none⟩ = some (.slice ba bn bc) := hat.e2
                      have d0 : w2.cell? ⟨b, off + p * 3, none⟩ = some (.int .i64 aw) := hap.e0
                      have d1 : w2.cell? ⟨b, off + p * 3 + 1, none⟩ = some (.int .i64 ah) := hap.e1
                      have d2 : w2.cell? ⟨b, off + p * 3 + 2, none⟩ = some (.slice aa an ac) := hap.e2
                      have HKB : Hid (IsWords w2 ba bn bc bL) := hat.k
                      have HKA : Hid (IsWords w2 aa an ac aL) := hap.k
                      clear hat hap
                      go_wp2_with fail
                      refine (may0 bw bh ba bn bc bL true _ HKB.out (by simp [HOKB.out])).mono ?_
                      rintro e w3 ⟨rfl, hbel⟩
                      have HB3 := Lib.hid (HB2.out.trans (hbel.mono HB2.out.size))
                      clear hbel e0 e1 e2 d0 d1 d2 HKA HKB
                      have hat := HF.out _ HB3.out
                      have hap := HP.out _ HB3.out
                      have e0 : w3.cell? ⟨b, off + q * 3, none⟩ = some (.int .i64 bw) := hat.e0
                      have e1 : w3.cell? ⟨b, off + q * 3 + 1, none⟩ = some (.int .i64 bh) := hat.e1
                      have e2 : w3.cell? ⟨b, off + q * 3 + 2, none⟩ = some (.slice ba bn bc) := hat.e2
                      have d0 : w3.cell? ⟨b, off + p * 3, none⟩ = some (.int .i64 aw) := hap.e0
                      have d1 : w3.cell? ⟨b, off + p * 3 + 1, none⟩ = some (.int .i64 ah) := hap.e1
                      have d2 : w3.cell? ⟨b, off + p * 3 + 2, none⟩ = some (.slice aa an ac) := hap.e2
                      have HKB : Hid (IsWords w3 ba bn bc bL) := hat.k
                      have HKA : Hid (IsWords w3 aa an ac aL) := hap.k
                      clear hat hap
                      go_upto_region 26 with fail
                      go_region_held3 (fun w' => w'.cell? ⟨b, off + q * 3, none⟩ = some (.int .i64 bw) ∧ w'.cell? ⟨b, off + q * 3 + 1, none⟩ = some (.int .i64 bh) ∧ w'.cell? ⟨b, off + q * 3 + 2, none⟩ = some (.slice ba bn bc) ∧ w'.cell? ⟨b, off + p * 3, none⟩ = some (.int .i64 aw) ∧ w'.cell? ⟨b, off + p * 3 + 1, none⟩ = some (.int .i64 ah) ∧ w'.cell? ⟨b, off + p * 3 + 2, none⟩ = some (.slice aa an ac)) (go_keep)
                        ((first
                          | (go_at_call 16; refine (unlike16_far aw ah aa an ac aL bw bh ba bn bc bL _ ?_ ?_ HNE.out).mono ?_; exact HKA.out; exact HKB.out; rintro e w4 ⟨rfl, hbel⟩; have HB4 := Lib.hid (HB3.out.trans ((Below.trans (Below.drew (Below.refl _ w3)) hbel).mono HB3.out.size)); have e0 := (HF.out w4 HB4.out).e0; have e1 := (HF.out w4 HB4.out).e1; have e2 := (HF.out w4 HB4.out).e2; have d0 := (HP.out w4 HB4.out).e0; have d1 := (HP.out w4 HB4.out).e1; have d2 := (HP.out w4 HB4.out).e2; clear hbel)
                          | (go_at_call 13; refine (same_inf _).mono ?_; rintro e w5 ⟨rfl, kk, rfl⟩)))
                      go_wp2_with fail
                      go_roundw
                      case rel => have := HQ.out; exact ⟨q + 1, q, rfl, by omega, by omega, by go_num, below_drewN HB4.out _⟩
                      case measure => simp [intOf]; omega
                  · as_aux_lemma =>
                    have HOKB := Lib.hid hokb
                    clear hokb
                    go_region_held3 (fun w' => w'.cell? ⟨b, off + q * 3, none⟩ = some (.int .i64 bw) ∧ w'.cell? ⟨b, off + q * 3 + 1, none⟩ = some (.int .i64 bh) ∧ w'.cell? ⟨b, off + q * 3 + 2, none⟩ = some (.slice ba bn bc) ∧ w'.cell? ⟨b, off + p * 3, none⟩ = some (.int .i64 aw) ∧ w'.cell? ⟨b, off + p * 3 + 1, none⟩ = some (.int .i64 ah) ∧ w'.cell? ⟨b, off + p * 3 + 2, none⟩ = some (.slice aa an ac)) (go_keep)
                      ((go_at_call 15; refine (unlike_no2 aw ah aa an ac aL bw bh ba bn bc bL _ ?_ ?_ HOKA.out HOKB.out).mono ?_; exact HKA.out; exact HKB.out; rintro e w1 ⟨rfl, hbel⟩; have HB1 := Lib.hid (hbr.out.trans ((Below.trans (Below.drew (Below.refl _ wr)) hbel).mono hbr.out.size)); have e0 := (HF.out w1 HB1.out).e0; have e1 := (HF.out w1 HB1.out).e1; have e2 := (HF.out w1 HB1.out).e2; have d0 := (HP.out w1 HB1.out).e0; have d1 := (HP.out w1 HB1.out).e1; have d2 := (HP.out w1 HB1.out).e2; clear hbel))
                    clear e0 e1 e2 d0 d1 d2 HKA HKB
                    have hat := HF.out _ HB1.out
                    have hap := HP.out _ HB1.out
                    have e0 : w1.cell? ⟨b, off + q * 3, none⟩ = some (.int .i64 bw) := hat.e0
                    have e1 : w1.cell? ⟨b, off + q * 3 + 1, none⟩ = some (.int .i64 bh) := hat.e1
                    have e2 : w1.cell? ⟨b, off + q * 3 + 2, none⟩ = some (.slice ba bn bc) := hat.e2
                    have d0 : w1.cell? ⟨b, off + p * 3, none⟩ = some (.int .i64 aw) := hap.e0
                    have d1 : w1.cell? ⟨b, off + p * 3 + 1, none⟩ = some (.int .i64 ah) := hap.e1
                    have d2 : w1.cell? ⟨b, off + p * 3 + 2, none⟩ = some (.slice aa an ac) := hap.e2
                    have HKB : Hid (IsWords w1 ba bn bc bL) := hat.k
                    have HKA : Hid (IsWords w1 aa an ac aL) := hap.k
                    clear hat hap
                    have o0 : (FloatKind.f64.format.order 0 0 == some .eq) = true := by decide
                    have o1 : (FloatKind.f64.format.order 0 0 != some .eq) = false := by decide
                    go_wp2_with fail
                    refine (may0 aw ah aa an ac aL true _ HKA.out (by simp [HOKA.out])).mono ?_
                    rintro e w2 ⟨rfl, hbel⟩
                    have HB2 := Lib.hid (HB1.out.trans (hbel.mono HB1.out.size))
                    clear hbel e0 e1 e2 d0 d1 d2 HKA HKB
                    have hat := HF.out _ HB2.out
                    have hap := HP.out _ HB2.out
                    have e0 : w2.cell? ⟨b, off + q * 3, none⟩ = some (.int .i64 bw) := hat.e0
                    have e1 : w2.cell? ⟨b, off + q * 3 + 1, none⟩ = some (.int .i64 bh) := hat.e1
                    have e2 : w2.cell? ⟨b, off + q * 3 + 2, none⟩ = some (.slice ba bn bc) := hat.e2
                    have d0 : w2.cell? ⟨b, off + p * 3, none⟩ = some (.int .i64 aw) := hap.e0
                    have d1 : w2.cell? ⟨b, off + p * 3 + 1, none⟩ = some (.int .i64 ah) := hap.e1
                    have d2 : w2.cell? ⟨b, off + p * 3 + 2, none⟩ = some (.slice aa an ac) := hap.e2
                    have HKB : Hid (IsWords w2 ba bn bc bL) := hat.k
                    have HKA : Hid (IsWords w2 aa an ac aL) := hap.k
                    clear hat hap
                    go_wp2_with fail
                    refine (may0 bw bh ba bn bc bL false _ HKB.out (by simp [HOKB.out])).mono ?_
                    rintro e w3 ⟨rfl, hbel⟩
                    have HB3 := Lib.hid (HB2.out.trans (hbel.mono HB2.out.size))
                    clear hbel e0 e1 e2 d0 d1 d2 HKA HKB
                    have hat := HF.out _ HB3.out
                    have hap := HP.out _ HB3.out
                    have e0 : w3.cell? ⟨b, off + q * 3, none⟩ = some (.int .i64 bw) := hat.e0
                    have e1 : w3.cell? ⟨b, off + q * 3 + 1, none⟩ = some (.int .i64 bh) := hat.e1
                    have e2 : w3.cell? ⟨b, off + q * 3 + 2, none⟩ = some (.slice ba bn bc) := hat.e2
                    have d0 : w3.cell? ⟨b, off + p * 3, none⟩ = some (.int .i64 aw) := hap.e0
                    have d1 : w3.cell? ⟨b, off + p * 3 + 1, none⟩ = some (.int .i64 ah) := hap.e1
                    have d2 : w3.cell? ⟨b, off + p * 3 + 2, none⟩ = some (.slice aa an ac) := hap.e2
                    have HKB : Hid (IsWords w3 ba bn bc bL) := hat.k
                    have HKA : Hid (IsWords w3 aa an ac aL) := hap.k
                    clear hat hap
                    go_wp2_with fail
                    go_roundw
                    case rel => have := HQ.out; exact ⟨q + 1, q, rfl, by omega, by omega, by go_num, HB3⟩
                    case measure => simp [intOf]; omega
                · as_aux_lemma =>
                  have HOKA := Lib.hid hoka
                  clear hoka
                  go_region_held3 (fun w' => w'.cell? ⟨b, off + q * 3, none⟩ = some (.int .i64 bw) ∧ w'.cell? ⟨b, off + q * 3 + 1, none⟩ = some (.int .i64 bh) ∧ w'.cell? ⟨b, off + q * 3 + 2, none⟩ = some (.slice ba bn bc) ∧ w'.cell? ⟨b, off + p * 3, none⟩ = some (.int .i64 aw) ∧ w'.cell? ⟨b, off + p * 3 + 1, none⟩ = some (.int .i64 ah) ∧ w'.cell? ⟨b, off + p * 3 + 2, none⟩ = some (.slice aa an ac)) (go_keep)
                    ((go_at_call 15; refine (unlike_no1 aw ah aa an ac aL bw bh ba bn bc bL _ ?_ ?_ HOKA.out).mono ?_; exact HKA.out; exact HKB.out; rintro e w1 ⟨rfl, hbel⟩; have HB1 := Lib.hid (hbr.out.trans ((Below.trans (Below.drew (Below.refl _ wr)) hbel).mono hbr.out.size)); have e0 := (HF.out w1 HB1.out).e0; have e1 := (HF.out w1 HB1.out).e1; have e2 := (HF.out w1 HB1.out).e2; have d0 := (HP.out w1 HB1.out).e0; have d1 := (HP.out w1 HB1.out).e1; have d2 := (HP.out w1 HB1.out).e2; clear hbel))
                  clear e0 e1 e2 d0 d1 d2 HKA HKB
                  have hat := HF.out _ HB1.out
                  have hap := HP.out _ HB1.out
                  have e0 : w1.cell? ⟨b, off + q * 3, none⟩ = some (.int .i64 bw) := hat.e0
                  have e1 : w1.cell? ⟨b, off + q * 3 + 1, none⟩ = some (.int .i64 bh) := hat.e1
                  have e2 : w1.cell? ⟨b, off + q * 3 + 2, none⟩ = some (.slice ba bn bc) := hat.e2
                  have d0 : w1.cell? ⟨b, off + p * 3, none⟩ = some (.int .i64 aw) := hap.e0
                  have d1 : w1.cell? ⟨b, off + p * 3 + 1, none⟩ = some (.int .i64 ah) := hap.e1
                  have d2 : w1.cell? ⟨b, off + p * 3 + 2, none⟩ = some (.slice aa an ac) := hap.e2
                  have HKB : Hid (IsWords w1 ba bn bc bL) := hat.k
                  have HKA : Hid (IsWords w1 aa an ac aL) := hap.k
                  clear hat hap
                  have o0 : (FloatKind.f64.format.order 0 0 == some .eq) = true := by decide
                  have o1 : (FloatKind.f64.format.order 0 0 != some .eq) = false := by decide
                  go_wp2_with fail
                  refine (may0 aw ah aa an ac aL false _ HKA.out (by simp [HOKA.out])).mono ?_
                  rintro e w2 ⟨rfl, hbel⟩
                  have HB2 := Lib.hid (HB1.out.trans (hbel.mono HB1.out.size))
                  clear hbel e0 e1 e2 d0 d1 d2 HKA HKB
                  have hat := HF.out _ HB2.out
                  have hap := HP.out _ HB2.out
                  have e0 : w2.cell? ⟨b, off + q * 3, none⟩ = some (.int .i64 bw) := hat.e0
                  have e1 : w2.cell? ⟨b, off + q * 3 + 1, none⟩ = some (.int .i64 bh) := hat.e1
                  have e2 : w2.cell? ⟨b, off + q * 3 + 2, none⟩ = some (.slice ba bn bc) := hat.e2
                  have d0 : w2.cell? ⟨b, off + p * 3, none⟩ = some (.int .i64 aw) := hap.e0
                  have d1 : w2.cell? ⟨b, off + p * 3 + 1, none⟩ = some (.int .i64 ah) := hap.e1
                  have d2 : w2.cell? ⟨b, off + p * 3 + 2, none⟩ = some (.slice aa an ac) := hap.e2
                  have HKB : Hid (IsWords w2 ba bn bc bL) := hat.k
                  have HKA : Hid (IsWords w2 aa an ac aL) := hap.k
                  clear hat hap
                  go_wp2_with fail
                  go_roundw
                  case rel => have := HQ.out; exact ⟨q + 1, q, rfl, by omega, by omega, by go_num, HB2⟩
                  case measure => simp [intOf]; omega
          · have hx : (¬ q < len) ∨ (q < len ∧ p = 4) := by omega
            clear hpl hlt hp4
            rcases hx with hx | ⟨hx1, hx2⟩
            · have hxI : ¬ (q : Int) < (len : Int) := by omega
              clear hx
              go_wp2_with (go_at_call 17; refine (wakes14 _).mono ?_; rintro e w' ⟨rfl, n, rfl⟩)
              go_ret
              exact ⟨rfl, below_drewN hbr.out _⟩
            · have hxI : (q : Int) < (len : Int) := by omega
              have hx5 : ¬ (q : Int) < 5 := by omega
              clear hx1 hx2 hqp
              go_wp2_with (go_at_call 17; refine (wakes14 _).mono ?_; rintro e w' ⟨rfl, n, rfl⟩)
              go_ret
              exact ⟨rfl, below_drewN hbr.out _⟩
end Go.Proofs.YtokdgppaedklhaaDoor
