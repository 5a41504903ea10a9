/- text of package pbm: the loop over the pixels. Conditions: the bounds that each theorem names. -/
import Derived.Test.YtgpjpmadbepblaaDoorSb
namespace Go.Proofs.YtgpjpmadbepblaaDoor
open Go.RowKit Go.Bm Go.Pbm Go.Sort

/-- the end of a text -/
def endP : Nat ⊕ (List Bool × List UInt8) → Nat ⊕ List Bool
  | .inl e => .inl e
  | .inr (ps, r) => if pas false r = [] then .inr ps else .inl 33

set_option maxHeartbeats 4000000 in
set_option maxRecDepth 100000 in
theorem text31_go (B0 r g gw W H : Nat) (a : Option Addr) (cap : Nat) (l : List UInt8) (i : Nat) (w : World) (h : IsRd w r a cap l i) (hl : l.length ≤ 100000000000000) (hM : IsMapO w g gw W H (fun _ => 0)) (hS : okS W H)
    (hB0 : B0 ≤ w.heap.size) (hr : B0 ≤ r) (_hg : B0 ≤ g) (hgw : B0 ≤ gw) (hne1 : r ≠ g) (hne2 : r ≠ gw) (hab : ∀ b off, a = some ⟨b, off, none⟩ → b < B0)
    (hh : l.length ≤ i ∨ ∃ c : UInt8, l[i]? = some c ∧ (isW c.toNat = true ∨ c.toNat = 35)) :
    Calls Tryd.prog 31 #[.pointer (some ⟨r, 0, none⟩), .pointer (some ⟨g, 0, none⟩), .int .i64 W, .int .i64 H] w fun e w' => ReadsE e w' g gw W H (endP (pixP (W * H) (l.drop i))) ∧ Below B0 w w' := by
  have hs := okS_le hS
  have hW : W ≤ 1048576 := by omega
  have hH : H ≤ 1048576 := by omega
  have hW1 : 1 ≤ W := by have := hS.1; omega
  have hok : okB W H (H * wd W) (fun _ => 0) := ⟨hS, by simp, fun _ _ => Or.inr (by simp)⟩
  have htot : W * H ≤ 1048576 := by have := hS.2.2; rw [← Int.natCast_mul] at this; omega
  have hwr : IntKind.i64.wrap ((W : Int) * (H : Int)) = ((W * H : Nat) : Int) := by rw [← Int.natCast_mul]; exact IntWalk.i64_in _ (by omega)
  have hwr2 : wrap64 ((W : Int) * (H : Int)) = ((W * H : Nat) : Int) := by rw [← Int.natCast_mul]; exact Go.IntWalk.wrap64_in _ ⟨by omega, by omega⟩
  have HP0 := Lib.hid (PixOk.white hok)
  have HR := Lib.hid h
  have HM := Lib.hid hM
  have HAB := Lib.hid hab
  have HNE : Hid (r ≠ g ∧ r ≠ gw) := ⟨hne1, hne2⟩
  have HW1 := Lib.hid hW1
  have hW0 : ¬ (W : Int) = 0 := by omega
  clear h hM hab hne1 hne2 hok hS hs hW1
  obtain ⟨tot, ht⟩ : ∃ tot, W * H = tot := ⟨_, rfl⟩
  rw [ht] at hwr hwr2 htot ⊢
  have HT := Lib.hid ht
  obtain ⟨R, hR⟩ : ∃ R, pixP tot (l.drop i) = R := ⟨_, rfl⟩
  rw [hR]
  have HRR := Lib.hid hR
  clear ht hR
  have hcase : hereV l i = -1 ∨ (∃ x : Nat, hereV l i = (x : Int) ∧ isWI (x : Int) = true) ∨ hereV l i = 35 := by
    rcases hh with h | ⟨c, hc, h | h⟩
    · exact Or.inl (hereV_end h)
    · exact Or.inr (Or.inl ⟨c.toNat, hereV_at hc, by rw [isWI_nat]; exact h⟩)
    · exact Or.inr (Or.inr (by rw [hereV_at hc, h]; rfl))
  clear hh
  rcases hcase with hv | ⟨x, hv, hwi⟩ | hv
  · have HV := Lib.hid hv
    clear hv
    go_enter Tryd.func31, Tryd.ntmps31
    go_upto_region 3 with (go_at_call 45; refine (here45 r a cap l i _ HR.out).mono ?_; rintro e w1 ⟨rfl, k, rfl⟩; rw [HV.out])
    have HR1 := Lib.hid (HR.out.drewN k)
    have HM1 := Lib.hid (HM.out.drewN k)
    have HB1 := Lib.hid (below_drewN (Below.refl B0 w) k)
    have hw1 : B0 ≤ (w.drewN k).heap.size := hB0
    generalize w.drewN k = w1 at *
    clear HR HM
    go_wp2_with fail
    go_loopw [9, 10, 29, 36, 41, 50] (fun _ _ n _ _ _ wr => ∃ (q u : Nat) (qs : List Bool) (C : Nat → Nat), n = .int .i64 q ∧ q ≤ tot ∧ Hid (qs.length = q) ∧ Hid (joinP qs (pixP (tot - q) (l.drop u)) = R) ∧ Hid (IsRd wr r a cap l u) ∧ Hid (IsMapO wr g gw W H C) ∧ Hid (PixOk W H (H * wd W) qs C) ∧ Hid (Below B0 w wr)) (fun _ _ n _ _ _ _ => tot - (intOf n).toNat)
    case atStart => exact ⟨0, i, [], fun _ => 0, rfl, Nat.zero_le _, rfl, by show _ = _; rw [joinP_nil]; exact HRR.out, HR1, HM1, HP0, HB1⟩
    case round =>
      clear HR1 HM1 HB1 HP0 HRR
      obtain ⟨q, u, qs, C, rfl, hq, hql, hj, hr1, hm, hp, hb⟩ := hrel
      by_cases hlt : q < tot
      · have hltI : (q : Int) < (tot : Int) := by omega
        obtain ⟨k1, hk1⟩ : ∃ k1, tot - q = k1 + 1 := ⟨tot - q - 1, by omega⟩
        have HK1 : Hid (tot - q = k1 + 1 ∧ tot - (q + 1) = k1) := ⟨hk1, by omega⟩
        have hj2 := hj.out
        rw [hk1] at hj2
        have HJ := Lib.hid hj2
        clear hk1 hj2
        obtain ⟨v, hv⟩ : ∃ v, pasAt false l u = v := ⟨_, rfl⟩
        have HV2 := Lib.hid hv
        have HDR : Hid (l.drop v = pas false (l.drop u)) := by show _ = _; rw [← hv]; exact pasAt_drop false l hr1.out.le
        clear hv
        go_upto_region 7 with (go_at_call 44; refine (passed44 r a cap l u _ hr1.out hl).mono ?_; rintro e w2 ⟨rfl, h1, h2⟩; rw [HV2.out] at h1; have HR2 := Lib.hid h1; have HM2 := Lib.hid (hm.out.grown h2 (Ne.symm HNE.out.1) (Ne.symm HNE.out.2)); have HB2 := Lib.hid (Below.grown hb.out h2 (Nat.le_trans hB0 hb.out.size) (fun z hz => by cases hz; exact hr)); clear h1 h2)
        by_cases hvl : v < l.length
        · obtain ⟨c, hc⟩ : ∃ c, l[v]? = some c := ⟨_, List.getElem?_eq_getElem hvl⟩
          have hcv := hereV_at hc
          have hcons : pas false (l.drop u) = c :: l.drop (v + 1) := by rw [← HDR.out]; exact drop_at hc
          obtain ⟨x, hx⟩ : ∃ x, c.toNat = x := ⟨_, rfl⟩
          have HX := Lib.hid hx
          have hx256 : x < 256 := by rw [← hx]; exact c.toNat_lt
          rw [hx] at hcv
          have HCV := Lib.hid hcv
          have HCO := Lib.hid hcons
          have HVL := Lib.hid hvl
          clear hc hcv hcons hx hvl
          by_cases hd : x = 48 ∨ x = 49
          · have HJ2 : Hid (joinP (qs ++ [decide (x = 49)]) (pixP k1 (l.drop (v + 1))) = R) := by
              have h3 := HJ.out
              rw [pixP_good HCO.out (by rw [HX.out]; exact hd), HX.out] at h3
              exact h3
            by_cases h49 : x = 49
            · subst h49
              clear hd
              go_upto_region 13 with (go_at_call 45; refine (here45 r a cap l v _ HR2.out).mono ?_; rintro e w3 ⟨rfl, k3, rfl⟩; rw [HCV.out])
              have HR3 := Lib.hid (HR2.out.drewN k3)
              have HM3 := Lib.hid (HM2.out.drewN k3)
              have HB3 := Lib.hid (below_drewN HB2.out k3)
              generalize w2.drewN k3 = w3 at *
              clear HR2 HM2 HB2
              obtain ⟨xx, hxx⟩ : ∃ xx, q % W = xx := ⟨_, rfl⟩
              obtain ⟨yy, hyy⟩ : ∃ yy, q / W = yy := ⟨_, rfl⟩
              have hxl : xx < W := by rw [← hxx]; exact Nat.mod_lt _ HW1.out
              have hyl : yy < H := by
                rw [← hyy]
                have h4 := HT.out
                exact Nat.div_lt_of_lt_mul (by rw [h4]; exact hlt)
              have hW00 : ¬ W = 0 := by omega
              have htm : (q : Int).tmod (W : Int) = (xx : Int) := by rw [Int.tmod_eq_emod_of_nonneg (by omega), ← Int.natCast_emod, hxx]
              have htd : (q : Int).tdiv (W : Int) = (yy : Int) := by rw [Int.tdiv_eq_ediv_of_nonneg (by omega), ← Int.natCast_ediv, hyy]
              have hwx : IntKind.i64.wrap (xx : Int) = (xx : Int) := IntWalk.i64_in _ (by omega)
              have hwy : IntKind.i64.wrap (yy : Int) = (yy : Int) := IntWalk.i64_in _ (by omega)
              have HXY : Hid (q % W = xx ∧ q / W = yy) := ⟨hxx, hyy⟩
              clear hxx hyy
              go_region_held (fun _ => True) (trivial)
                ((go_at_call 48; refine (set48 g gw W H C xx yy _ hW hH ?_ hxl hyl).mono ?_; exact HM3.out.drewN 1; rintro e w4 ⟨rfl, h1, h2⟩; have HM4 := Lib.hid h1; have HG4 : Hid (w3.grownBy w4 (some gw)) := (grown_drewN w3 1 _).trans h2; clear h1 h2))
              have hqv : (v : Int) + 1 = ((v + 1 : Nat) : Int) := by omega
              have HR4 : Hid (IsRd w4 r a cap l v) := ⟨HG4.out.cell HR3.out.c0 (fun e => HNE.out.2 (Option.some.inj e)), HG4.out.cell HR3.out.c1 (fun e => HNE.out.2 (Option.some.inj e)), (World.frozen?_of_block (a := ⟨r, 1, none⟩) (HG4.out.block r HR3.out.lt (fun e => HNE.out.2 (Option.some.inj e)))).trans HR3.out.fz, HR3.out.k.grown HG4.out (fun b off h => by have := HAB.out b off h; omega), HR3.out.ne, HR3.out.le⟩
              have HB4 : Hid (Below B0 w w4) := Below.grown HB3.out HG4.out (Nat.le_trans hB0 HB3.out.size) (fun z hz => by cases hz; exact hgw)
              have HP4 : Hid (PixOk W H (H * wd W) (qs ++ [true]) (setB C W xx yy 1)) := by
                have h5 := hp.out.one (by rw [hql.out, HT.out]; exact hlt)
                rw [hql.out, HXY.out.1, HXY.out.2] at h5
                exact h5
              clear htm htd hwx hwy hxl hyl
              have c1 := HR4.out.c1
              have f1 := HR4.out.fz
              have RD : Hid (IsRd (w4.setCell ⟨r, 1, none⟩ (.int .i64 ((v : Int) + 1))) r a cap l (v + 1)) := by rw [hqv]; exact HR4.out.set (by have := HVL.out; omega)
              have HM5 : Hid (IsMapO (w4.setCell ⟨r, 1, none⟩ (.int .i64 ((v : Int) + 1))) g gw W H (setB C W xx yy 1)) := HM4.out.grown (grown_setCell w4 ⟨r, 1, none⟩ _) (Ne.symm HNE.out.1) (Ne.symm HNE.out.2)
              have HB5 : Hid (Below B0 w (w4.setCell ⟨r, 1, none⟩ (.int .i64 ((v : Int) + 1)))) := Below.setCell HB4.out hr _
              have HVB : Hid (v < 100000000000000) := by have := HVL.out; show _ < _; omega
              have hvb := HVB.out
              clear hqv
              go_wp2_with fail
              go_roundw
              case rel => exact ⟨q + 1, v + 1, qs ++ [true], (setB C W xx yy 1), by go_num, by omega, by show _ = _; rw [List.length_append, hql.out]; rfl, by show _ = _; rw [HK1.out.2]; exact HJ2.out, RD, HM5, HP4, HB5⟩
              case measure => simp [intOf]; omega
            · have h48 : x = 48 := by omega
              subst h48
              clear hd h49
              go_upto_region 14 with (go_at_call 45; refine (here45 r a cap l v _ HR2.out).mono ?_; rintro e w3 ⟨rfl, k3, rfl⟩; rw [HCV.out])
              have HR3 := Lib.hid (HR2.out.drewN k3)
              have HM3 := Lib.hid (HM2.out.drewN k3)
              have HB3 := Lib.hid (below_drewN HB2.out k3)
              generalize w2.drewN k3 = w3 at *
              clear HR2 HM2 HB2
              have hqv : (v : Int) + 1 = ((v + 1 : Nat) : Int) := by omega
              have HR4 := HR3
              have HM4 := HM3
              have HB4 := HB3
              have c1 := HR4.out.c1
              have f1 := HR4.out.fz
              have RD : Hid (IsRd (w3.setCell ⟨r, 1, none⟩ (.int .i64 ((v : Int) + 1))) r a cap l (v + 1)) := by rw [hqv]; exact HR4.out.set (by have := HVL.out; omega)
              have HM5 : Hid (IsMapO (w3.setCell ⟨r, 1, none⟩ (.int .i64 ((v : Int) + 1))) g gw W H C) := HM4.out.grown (grown_setCell w3 ⟨r, 1, none⟩ _) (Ne.symm HNE.out.1) (Ne.symm HNE.out.2)
              have HB5 : Hid (Below B0 w (w3.setCell ⟨r, 1, none⟩ (.int .i64 ((v : Int) + 1)))) := Below.setCell HB4.out hr _
              have HVB : Hid (v < 100000000000000) := by have := HVL.out; show _ < _; omega
              have hvb := HVB.out
              clear hqv
              go_wp2_with fail
              go_roundw
              case rel => exact ⟨q + 1, v + 1, qs ++ [false], C, by go_num, by omega, by show _ = _; rw [List.length_append, hql.out]; rfl, by show _ = _; rw [HK1.out.2]; exact HJ2.out, RD, HM5, hp.out.zero, HB5⟩
              case measure => simp [intOf]; omega
          · have hd1 : ((x : Int) != 48) = true := by simp; omega
            have hd2 : ((x : Int) != 49) = true := by simp; omega
            have HRE : Hid (R = .inl 30) := by
              have h3 := HJ.out
              rw [pixP_bad HCO.out (by rw [HX.out]; exact hd)] at h3
              exact h3.symm
            clear hd
            go_wp2_with (go_at_call 45; refine (here45 r a cap l v _ HR2.out).mono ?_; rintro e w3 ⟨rfl, k3, rfl⟩; rw [HCV.out])
            refine ⟨rfl, ?_, below_drewN HB2.out k3⟩
            rw [HRE.out]
            rfl
        · have HRE : Hid (R = .inl 32) := by
            have h3 := HJ.out
            rw [pixP_end (by rw [← HDR.out]; exact List.drop_eq_nil_of_le (show l.length ≤ v by omega))] at h3
            exact h3.symm
          have hcv := hereV_end (show l.length ≤ v by omega)
          have HCV := Lib.hid hcv
          clear hvl hcv
          go_wp2_with (go_at_call 45; refine (here45 r a cap l v _ HR2.out).mono ?_; rintro e w3 ⟨rfl, k3, rfl⟩; rw [HCV.out])
          refine ⟨rfl, ?_, below_drewN HB2.out k3⟩
          rw [HRE.out]
          rfl
      · have hqe : q = tot := by omega
        subst hqe
        have HRE : Hid (R = .inr (qs, l.drop u)) := by
          have h3 := hj.out
          rw [Nat.sub_self] at h3
          rw [← h3]
          show Sum.inr _ = Sum.inr _
          rw [List.append_nil]
        obtain ⟨v, hv⟩ : ∃ v, pasAt false l u = v := ⟨_, rfl⟩
        have HV2 := Lib.hid hv
        have HDR : Hid (l.drop v = pas false (l.drop u)) := by show _ = _; rw [← hv]; exact pasAt_drop false l hr1.out.le
        have hvle : v ≤ l.length := by rw [← hv]; exact (pasAt_ge false l hr1.out.le).2
        clear hv hlt
        go_upto_region 17 with (go_at_call 44; refine (passed44 r a cap l u _ hr1.out hl).mono ?_; rintro e w2 ⟨rfl, h1, h2⟩; rw [HV2.out] at h1; have HR2 := Lib.hid h1; have HM2 := Lib.hid (hm.out.grown h2 (Ne.symm HNE.out.1) (Ne.symm HNE.out.2)); have HB2 := Lib.hid (Below.grown hb.out h2 (Nat.le_trans hB0 hb.out.size) (fun z hz => by cases hz; exact hr)); clear h1 h2)
        by_cases hvl : v < l.length
        · obtain ⟨c, hc⟩ : ∃ c, l[v]? = some c := ⟨_, List.getElem?_eq_getElem hvl⟩
          have HCV := Lib.hid (hereV_at hc)
          have HNN : Hid (¬ pas false (l.drop u) = []) := by show ¬ _; rw [← HDR.out, drop_at hc]; simp
          have hge : (0 : Int) ≤ (c.toNat : Int) := by omega
          clear hc hvl
          generalize c.toNat = x at *
          go_wp2_with (go_at_call 45; refine (here45 r a cap l v _ HR2.out).mono ?_; rintro e w3 ⟨rfl, k3, rfl⟩; rw [HCV.out])
          refine ⟨rfl, ?_, below_drewN HB2.out k3⟩
          rw [HRE.out]
          show ReadsE _ _ _ _ _ _ (if _ then _ else _)
          rw [if_neg HNN.out]
          rfl
        · have HCV := Lib.hid (hereV_end (show l.length ≤ v by omega))
          have HNN : Hid (pas false (l.drop u) = []) := by show _ = _; rw [← HDR.out]; exact List.drop_eq_nil_of_le (by omega)
          clear hvl
          go_wp2_with (go_at_call 45; refine (here45 r a cap l v _ HR2.out).mono ?_; rintro e w3 ⟨rfl, k3, rfl⟩; rw [HCV.out])
          go_end0
          refine ⟨?_, below_drewN HB2.out k3⟩
          rw [HRE.out]
          show ReadsE _ _ _ _ _ _ (if _ then _ else _)
          rw [if_pos HNN.out]
          exact ⟨rfl, C, HM2.out.drewN k3, hp.out⟩
  · have HV := Lib.hid hv
    have HWI := Lib.hid hwi
    clear hv hwi
    go_enter Tryd.func31, Tryd.ntmps31
    go_upto_region 3 with (first
      | (go_at_call 45; refine (here45 r a cap l i _ HR.out).mono ?_; rintro e w1 ⟨rfl, k, rfl⟩; rw [HV.out])
      | (go_at_call 47; refine (white47 _ _).mono ?_; rintro e w1 ⟨rfl, rfl⟩; rw [HWI.out]))
    have HR1 := Lib.hid (HR.out.drewN k)
    have HM1 := Lib.hid (HM.out.drewN k)
    have HB1 := Lib.hid (below_drewN (Below.refl B0 w) k)
    have hw1 : B0 ≤ (w.drewN k).heap.size := hB0
    generalize w.drewN k = w1 at *
    clear HR HM
    go_wp2_with fail
    go_loopw [9, 10, 29, 36, 41, 50] (fun _ _ n _ _ _ wr => ∃ (q u : Nat) (qs : List Bool) (C : Nat → Nat), n = .int .i64 q ∧ q ≤ tot ∧ Hid (qs.length = q) ∧ Hid (joinP qs (pixP (tot - q) (l.drop u)) = R) ∧ Hid (IsRd wr r a cap l u) ∧ Hid (IsMapO wr g gw W H C) ∧ Hid (PixOk W H (H * wd W) qs C) ∧ Hid (Below B0 w wr)) (fun _ _ n _ _ _ _ => tot - (intOf n).toNat)
    case atStart => exact ⟨0, i, [], fun _ => 0, rfl, Nat.zero_le _, rfl, by show _ = _; rw [joinP_nil]; exact HRR.out, HR1, HM1, HP0, HB1⟩
    case round =>
      clear HR1 HM1 HB1 HP0 HRR
      obtain ⟨q, u, qs, C, rfl, hq, hql, hj, hr1, hm, hp, hb⟩ := hrel
      by_cases hlt : q < tot
      · have hltI : (q : Int) < (tot : Int) := by omega
        obtain ⟨k1, hk1⟩ : ∃ k1, tot - q = k1 + 1 := ⟨tot - q - 1, by omega⟩
        have HK1 : Hid (tot - q = k1 + 1 ∧ tot - (q + 1) = k1) := ⟨hk1, by omega⟩
        have hj2 := hj.out
        rw [hk1] at hj2
        have HJ := Lib.hid hj2
        clear hk1 hj2
        obtain ⟨v, hv⟩ : ∃ v, pasAt false l u = v := ⟨_, rfl⟩
        have HV2 := Lib.hid hv
        have HDR : Hid (l.drop v = pas false (l.drop u)) := by show _ = _; rw [← hv]; exact pasAt_drop false l hr1.out.le
        clear hv
        go_upto_region 7 with (go_at_call 44; refine (passed44 r a cap l u _ hr1.out hl).mono ?_; rintro e w2 ⟨rfl, h1, h2⟩; rw [HV2.out] at h1; have HR2 := Lib.hid h1; have HM2 := Lib.hid (hm.out.grown h2 (Ne.symm HNE.out.1) (Ne.symm HNE.out.2)); have HB2 := Lib.hid (Below.grown hb.out h2 (Nat.le_trans hB0 hb.out.size) (fun z hz => by cases hz; exact hr)); clear h1 h2)
        by_cases hvl : v < l.length
        · obtain ⟨c, hc⟩ : ∃ c, l[v]? = some c := ⟨_, List.getElem?_eq_getElem hvl⟩
          have hcv := hereV_at hc
          have hcons : pas false (l.drop u) = c :: l.drop (v + 1) := by rw [← HDR.out]; exact drop_at hc
          obtain ⟨x, hx⟩ : ∃ x, c.toNat = x := ⟨_, rfl⟩
          have HX := Lib.hid hx
          have hx256 : x < 256 := by rw [← hx]; exact c.toNat_lt
          rw [hx] at hcv
          have HCV := Lib.hid hcv
          have HCO := Lib.hid hcons
          have HVL := Lib.hid hvl
          clear hc hcv hcons hx hvl
          by_cases hd : x = 48 ∨ x = 49
          · have HJ2 : Hid (joinP (qs ++ [decide (x = 49)]) (pixP k1 (l.drop (v + 1))) = R) := by
              have h3 := HJ.out
              rw [pixP_good HCO.out (by rw [HX.out]; exact hd), HX.out] at h3
              exact h3
            by_cases h49 : x = 49
            · subst h49
              clear hd
              go_upto_region 13 with (go_at_call 45; refine (here45 r a cap l v _ HR2.out).mono ?_; rintro e w3 ⟨rfl, k3, rfl⟩; rw [HCV.out])
              have HR3 := Lib.hid (HR2.out.drewN k3)
              have HM3 := Lib.hid (HM2.out.drewN k3)
              have HB3 := Lib.hid (below_drewN HB2.out k3)
              generalize w2.drewN k3 = w3 at *
              clear HR2 HM2 HB2
              obtain ⟨xx, hxx⟩ : ∃ xx, q % W = xx := ⟨_, rfl⟩
              obtain ⟨yy, hyy⟩ : ∃ yy, q / W = yy := ⟨_, rfl⟩
              have hxl : xx < W := by rw [← hxx]; exact Nat.mod_lt _ HW1.out
              have hyl : yy < H := by
                rw [← hyy]
                have h4 := HT.out
                exact Nat.div_lt_of_lt_mul (by rw [h4]; exact hlt)
              have hW00 : ¬ W = 0 := by omega
              have htm : (q : Int).tmod (W : Int) = (xx : Int) := by rw [Int.tmod_eq_emod_of_nonneg (by omega), ← Int.natCast_emod, hxx]
              have htd : (q : Int).tdiv (W : Int) = (yy : Int) := by rw [Int.tdiv_eq_ediv_of_nonneg (by omega), ← Int.natCast_ediv, hyy]
              have hwx : IntKind.i64.wrap (xx : Int) = (xx : Int) := IntWalk.i64_in _ (by omega)
              have hwy : IntKind.i64.wrap (yy : Int) = (yy : Int) := IntWalk.i64_in _ (by omega)
              have HXY : Hid (q % W = xx ∧ q / W = yy) := ⟨hxx, hyy⟩
              clear hxx hyy
              go_region_held (fun _ => True) (trivial)
                ((go_at_call 48; refine (set48 g gw W H C xx yy _ hW hH ?_ hxl hyl).mono ?_; exact HM3.out.drewN 1; rintro e w4 ⟨rfl, h1, h2⟩; have HM4 := Lib.hid h1; have HG4 : Hid (w3.grownBy w4 (some gw)) := (grown_drewN w3 1 _).trans h2; clear h1 h2))
              have hqv : (v : Int) + 1 = ((v + 1 : Nat) : Int) := by omega
              have HR4 : Hid (IsRd w4 r a cap l v) := ⟨HG4.out.cell HR3.out.c0 (fun e => HNE.out.2 (Option.some.inj e)), HG4.out.cell HR3.out.c1 (fun e => HNE.out.2 (Option.some.inj e)), (World.frozen?_of_block (a := ⟨r, 1, none⟩) (HG4.out.block r HR3.out.lt (fun e => HNE.out.2 (Option.some.inj e)))).trans HR3.out.fz, HR3.out.k.grown HG4.out (fun b off h => by have := HAB.out b off h; omega), HR3.out.ne, HR3.out.le⟩
              have HB4 : Hid (Below B0 w w4) := Below.grown HB3.out HG4.out (Nat.le_trans hB0 HB3.out.size) (fun z hz => by cases hz; exact hgw)
              have HP4 : Hid (PixOk W H (H * wd W) (qs ++ [true]) (setB C W xx yy 1)) := by
                have h5 := hp.out.one (by rw [hql.out, HT.out]; exact hlt)
                rw [hql.out, HXY.out.1, HXY.out.2] at h5
                exact h5
              clear htm htd hwx hwy hxl hyl
              have c1 := HR4.out.c1
              have f1 := HR4.out.fz
              have RD : Hid (IsRd (w4.setCell ⟨r, 1, none⟩ (.int .i64 ((v : Int) + 1))) r a cap l (v + 1)) := by rw [hqv]; exact HR4.out.set (by have := HVL.out; omega)
              have HM5 : Hid (IsMapO (w4.setCell ⟨r, 1, none⟩ (.int .i64 ((v : Int) + 1))) g gw W H (setB C W xx yy 1)) := HM4.out.grown (grown_setCell w4 ⟨r, 1, none⟩ _) (Ne.symm HNE.out.1) (Ne.symm HNE.out.2)
              have HB5 : Hid (Below B0 w (w4.setCell ⟨r, 1, none⟩ (.int .i64 ((v : Int) + 1)))) := Below.setCell HB4.out hr _
              have HVB : Hid (v < 100000000000000) := by have := HVL.out; show _ < _; omega
              have hvb := HVB.out
              clear hqv
              go_wp2_with fail
              go_roundw
              case rel => exact ⟨q + 1, v + 1, qs ++ [true], (setB C W xx yy 1), by go_num, by omega, by show _ = _; rw [List.length_append, hql.out]; rfl, by show _ = _; rw [HK1.out.2]; exact HJ2.out, RD, HM5, HP4, HB5⟩
              case measure => simp [intOf]; omega
            · have h48 : x = 48 := by omega
              subst h48
              clear hd h49
              go_upto_region 14 with (go_at_call 45; refine (here45 r a cap l v _ HR2.out).mono ?_; rintro e w3 ⟨rfl, k3, rfl⟩; rw [HCV.out])
              have HR3 := Lib.hid (HR2.out.drewN k3)
              have HM3 := Lib.hid (HM2.out.drewN k3)
              have HB3 := Lib.hid (below_drewN HB2.out k3)
              generalize w2.drewN k3 = w3 at *
              clear HR2 HM2 HB2
              have hqv : (v : Int) + 1 = ((v + 1 : Nat) : Int) := by omega
              have HR4 := HR3
              have HM4 := HM3
              have HB4 := HB3
              have c1 := HR4.out.c1
              have f1 := HR4.out.fz
              have RD : Hid (IsRd (w3.setCell ⟨r, 1, none⟩ (.int .i64 ((v : Int) + 1))) r a cap l (v + 1)) := by rw [hqv]; exact HR4.out.set (by have := HVL.out; omega)
              have HM5 : Hid (IsMapO (w3.setCell ⟨r, 1, none⟩ (.int .i64 ((v : Int) + 1))) g gw W H C) := HM4.out.grown (grown_setCell w3 ⟨r, 1, none⟩ _) (Ne.symm HNE.out.1) (Ne.symm HNE.out.2)
              have HB5 : Hid (Below B0 w (w3.setCell ⟨r, 1, none⟩ (.int .i64 ((v : Int) + 1)))) := Below.setCell HB4.out hr _
              have HVB : Hid (v < 100000000000000) := by have := HVL.out; show _ < _; omega
              have hvb := HVB.out
              clear hqv
              go_wp2_with fail
              go_roundw
              case rel => exact ⟨q + 1, v + 1, qs ++ [false], C, by go_num, by omega, by show _ = _; rw [List.length_append, hql.out]; rfl, by show _ = _; rw [HK1.out.2]; exact HJ2.out, RD, HM5, hp.out.zero, HB5⟩
              case measure => simp [intOf]; omega
          · have hd1 : ((x : Int) != 48) = true := by simp; omega
            have hd2 : ((x : Int) != 49) = true := by simp; omega
            have HRE : Hid (R = .inl 30) := by
              have h3 := HJ.out
              rw [pixP_bad HCO.out (by rw [HX.out]; exact hd)] at h3
              exact h3.symm
            clear hd
            go_wp2_with (go_at_call 45; refine (here45 r a cap l v _ HR2.out).mono ?_; rintro e w3 ⟨rfl, k3, rfl⟩; rw [HCV.out])
            refine ⟨rfl, ?_, below_drewN HB2.out k3⟩
            rw [HRE.out]
            rfl
        · have HRE : Hid (R = .inl 32) := by
            have h3 := HJ.out
            rw [pixP_end (by rw [← HDR.out]; exact List.drop_eq_nil_of_le (show l.length ≤ v by omega))] at h3
            exact h3.symm
          have hcv := hereV_end (show l.length ≤ v by omega)
          have HCV := Lib.hid hcv
          clear hvl hcv
          go_wp2_with (go_at_call 45; refine (here45 r a cap l v _ HR2.out).mono ?_; rintro e w3 ⟨rfl, k3, rfl⟩; rw [HCV.out])
          refine ⟨rfl, ?_, below_drewN HB2.out k3⟩
          rw [HRE.out]
          rfl
      · have hqe : q = tot := by omega
        subst hqe
        have HRE : Hid (R = .inr (qs, l.drop u)) := by
          have h3 := hj.out
          rw [Nat.sub_self] at h3
          rw [← h3]
          show Sum.inr _ = Sum.inr _
          rw [List.append_nil]
        obtain ⟨v, hv⟩ : ∃ v, pasAt false l u = v := ⟨_, rfl⟩
        have HV2 := Lib.hid hv
        have HDR : Hid (l.drop v = pas false (l.drop u)) := by show _ = _; rw [← hv]; exact pasAt_drop false l hr1.out.le
        have hvle : v ≤ l.length := by rw [← hv]; exact (pasAt_ge false l hr1.out.le).2
        clear hv hlt
        go_upto_region 17 with (go_at_call 44; refine (passed44 r a cap l u _ hr1.out hl).mono ?_; rintro e w2 ⟨rfl, h1, h2⟩; rw [HV2.out] at h1; have HR2 := Lib.hid h1; have HM2 := Lib.hid (hm.out.grown h2 (Ne.symm HNE.out.1) (Ne.symm HNE.out.2)); have HB2 := Lib.hid (Below.grown hb.out h2 (Nat.le_trans hB0 hb.out.size) (fun z hz => by cases hz; exact hr)); clear h1 h2)
        by_cases hvl : v < l.length
        · obtain ⟨c, hc⟩ : ∃ c, l[v]? = some c := ⟨_, List.getElem?_eq_getElem hvl⟩
          have HCV := Lib.hid (hereV_at hc)
          have HNN : Hid (¬ pas false (l.drop u) = []) := by show ¬ _; rw [← HDR.out, drop_at hc]; simp
          have hge : (0 : Int) ≤ (c.toNat : Int) := by omega
          clear hc hvl
          generalize c.toNat = x at *
          go_wp2_with (go_at_call 45; refine (here45 r a cap l v _ HR2.out).mono ?_; rintro e w3 ⟨rfl, k3, rfl⟩; rw [HCV.out])
          refine ⟨rfl, ?_, below_drewN HB2.out k3⟩
          rw [HRE.out]
          show ReadsE _ _ _ _ _ _ (if _ then _ else _)
          rw [if_neg HNN.out]
          rfl
        · have HCV := Lib.hid (hereV_end (show l.length ≤ v by omega))
          have HNN : Hid (pas false (l.drop u) = []) := by show _ = _; rw [← HDR.out]; exact List.drop_eq_nil_of_le (by omega)
          clear hvl
          go_wp2_with (go_at_call 45; refine (here45 r a cap l v _ HR2.out).mono ?_; rintro e w3 ⟨rfl, k3, rfl⟩; rw [HCV.out])
          go_end0
          refine ⟨?_, below_drewN HB2.out k3⟩
          rw [HRE.out]
          show ReadsE _ _ _ _ _ _ (if _ then _ else _)
          rw [if_pos HNN.out]
          exact ⟨rfl, C, HM2.out.drewN k3, hp.out⟩
  · have HV := Lib.hid hv
    have HWI : Hid (isWI 35 = false) := rfl
    clear hv
    go_enter Tryd.func31, Tryd.ntmps31
    go_upto_region 3 with (first
      | (go_at_call 45; refine (here45 r a cap l i _ HR.out).mono ?_; rintro e w1 ⟨rfl, k, rfl⟩; rw [HV.out])
      | (go_at_call 47; refine (white47 _ _).mono ?_; rintro e w1 ⟨rfl, rfl⟩; rw [HWI.out]))
    have HR1 := Lib.hid (HR.out.drewN k)
    have HM1 := Lib.hid (HM.out.drewN k)
    have HB1 := Lib.hid (below_drewN (Below.refl B0 w) k)
    have hw1 : B0 ≤ (w.drewN k).heap.size := hB0
    generalize w.drewN k = w1 at *
    clear HR HM
    go_wp2_with fail
    go_loopw [9, 10, 29, 36, 41, 50] (fun _ _ n _ _ _ wr => ∃ (q u : Nat) (qs : List Bool) (C : Nat → Nat), n = .int .i64 q ∧ q ≤ tot ∧ Hid (qs.length = q) ∧ Hid (joinP qs (pixP (tot - q) (l.drop u)) = R) ∧ Hid (IsRd wr r a cap l u) ∧ Hid (IsMapO wr g gw W H C) ∧ Hid (PixOk W H (H * wd W) qs C) ∧ Hid (Below B0 w wr)) (fun _ _ n _ _ _ _ => tot - (intOf n).toNat)
    case atStart => exact ⟨0, i, [], fun _ => 0, rfl, Nat.zero_le _, rfl, by show _ = _; rw [joinP_nil]; exact HRR.out, HR1, HM1, HP0, HB1⟩
    case round =>
      clear HR1 HM1 HB1 HP0 HRR
      obtain ⟨q, u, qs, C, rfl, hq, hql, hj, hr1, hm, hp, hb⟩ := hrel
      by_cases hlt : q < tot
      · have hltI : (q : Int) < (tot : Int) := by omega
        obtain ⟨k1, hk1⟩ : ∃ k1, tot - q = k1 + 1 := ⟨tot - q - 1, by omega⟩
        have HK1 : Hid (tot - q = k1 + 1 ∧ tot - (q + 1) = k1) := ⟨hk1, by omega⟩
        have hj2 := hj.out
        rw [hk1] at hj2
        have HJ := Lib.hid hj2
        clear hk1 hj2
        obtain ⟨v, hv⟩ : ∃ v, pasAt false l u = v := ⟨_, rfl⟩
        have HV2 := Lib.hid hv
        have HDR : Hid (l.drop v = pas false (l.drop u)) := by show _ = _; rw [← hv]; exact pasAt_drop false l hr1.out.le
        clear hv
        go_upto_region 7 with (go_at_call 44; refine (passed44 r a cap l u _ hr1.out hl).mono ?_; rintro e w2 ⟨rfl, h1, h2⟩; rw [HV2.out] at h1; have HR2 := Lib.hid h1; have HM2 := Lib.hid (hm.out.grown h2 (Ne.symm HNE.out.1) (Ne.symm HNE.out.2)); have HB2 := Lib.hid (Below.grown hb.out h2 (Nat.le_trans hB0 hb.out.size) (fun z hz => by cases hz; exact hr)); clear h1 h2)
        by_cases hvl : v < l.length
        · obtain ⟨c, hc⟩ : ∃ c, l[v]? = some c := ⟨_, List.getElem?_eq_getElem hvl⟩
          have hcv := hereV_at hc
          have hcons : pas false (l.drop u) = c :: l.drop (v + 1) := by rw [← HDR.out]; exact drop_at hc
          obtain ⟨x, hx⟩ : ∃ x, c.toNat = x := ⟨_, rfl⟩
          have HX := Lib.hid hx
          have hx256 : x < 256 := by rw [← hx]; exact c.toNat_lt
          rw [hx] at hcv
          have HCV := Lib.hid hcv
          have HCO := Lib.hid hcons
          have HVL := Lib.hid hvl
          clear hc hcv hcons hx hvl
          by_cases hd : x = 48 ∨ x = 49
          · have HJ2 : Hid (joinP (qs ++ [decide (x = 49)]) (pixP k1 (l.drop (v + 1))) = R) := by
              have h3 := HJ.out
              rw [pixP_good HCO.out (by rw [HX.out]; exact hd), HX.out] at h3
              exact h3
            by_cases h49 : x = 49
            · subst h49
              clear hd
              go_upto_region 13 with (go_at_call 45; refine (here45 r a cap l v _ HR2.out).mono ?_; rintro e w3 ⟨rfl, k3, rfl⟩; rw [HCV.out])
              have HR3 := Lib.hid (HR2.out.drewN k3)
              have HM3 := Lib.hid (HM2.out.drewN k3)
              have HB3 := Lib.hid (below_drewN HB2.out k3)
              generalize w2.drewN k3 = w3 at *
              clear HR2 HM2 HB2
              obtain ⟨xx, hxx⟩ : ∃ xx, q % W = xx := ⟨_, rfl⟩
              obtain ⟨yy, hyy⟩ : ∃ yy, q / W = yy := ⟨_, rfl⟩
              have hxl : xx < W := by rw [← hxx]; exact Nat.mod_lt _ HW1.out
              have hyl : yy < H := by
                rw [← hyy]
                have h4 := HT.out
                exact Nat.div_lt_of_lt_mul (by rw [h4]; exact hlt)
              have hW00 : ¬ W = 0 := by omega
              have htm : (q : Int).tmod (W : Int) = (xx : Int) := by rw [Int.tmod_eq_emod_of_nonneg (by omega), ← Int.natCast_emod, hxx]
              have htd : (q : Int).tdiv (W : Int) = (yy : Int) := by rw [Int.tdiv_eq_ediv_of_nonneg (by omega), ← Int.natCast_ediv, hyy]
              have hwx : IntKind.i64.wrap (xx : Int) = (xx : Int) := IntWalk.i64_in _ (by omega)
              have hwy : IntKind.i64.wrap (yy : Int) = (yy : Int) := IntWalk.i64_in _ (by omega)
              have HXY : Hid (q % W = xx ∧ q / W = yy) := ⟨hxx, hyy⟩
              clear hxx hyy
              go_region_held (fun _ => True) (trivial)
                ((go_at_call 48; refine (set48 g gw W H C xx yy _ hW hH ?_ hxl hyl).mono ?_; exact HM3.out.drewN 1; rintro e w4 ⟨rfl, h1, h2⟩; have HM4 := Lib.hid h1; have HG4 : Hid (w3.grownBy w4 (some gw)) := (grown_drewN w3 1 _).trans h2; clear h1 h2))
              have hqv : (v : Int) + 1 = ((v + 1 : Nat) : Int) := by omega
              have HR4 : Hid (IsRd w4 r a cap l v) := ⟨HG4.out.cell HR3.out.c0 (fun e => HNE.out.2 (Option.some.inj e)), HG4.out.cell HR3.out.c1 (fun e => HNE.out.2 (Option.some.inj e)), (World.frozen?_of_block (a := ⟨r, 1, none⟩) (HG4.out.block r HR3.out.lt (fun e => HNE.out.2 (Option.some.inj e)))).trans HR3.out.fz, HR3.out.k.grown HG4.out (fun b off h => by have := HAB.out b off h; omega), HR3.out.ne, HR3.out.le⟩
              have HB4 : Hid (Below B0 w w4) := Below.grown HB3.out HG4.out (Nat.le_trans hB0 HB3.out.size) (fun z hz => by cases hz; exact hgw)
              have HP4 : Hid (PixOk W H (H * wd W) (qs ++ [true]) (setB C W xx yy 1)) := by
                have h5 := hp.out.one (by rw [hql.out, HT.out]; exact hlt)
                rw [hql.out, HXY.out.1, HXY.out.2] at h5
                exact h5
              clear htm htd hwx hwy hxl hyl
              have c1 := HR4.out.c1
              have f1 := HR4.out.fz
              have RD : Hid (IsRd (w4.setCell ⟨r, 1, none⟩ (.int .i64 ((v : Int) + 1))) r a cap l (v + 1)) := by rw [hqv]; exact HR4.out.set (by have := HVL.out; omega)
              have HM5 : Hid (IsMapO (w4.setCell ⟨r, 1, none⟩ (.int .i64 ((v : Int) + 1))) g gw W H (setB C W xx yy 1)) := HM4.out.grown (grown_setCell w4 ⟨r, 1, none⟩ _) (Ne.symm HNE.out.1) (Ne.symm HNE.out.2)
              have HB5 : Hid (Below B0 w (w4.setCell ⟨r, 1, none⟩ (.int .i64 ((v : Int) + 1)))) := Below.setCell HB4.out hr _
              have HVB : Hid (v < 100000000000000) := by have := HVL.out; show _ < _; omega
              have hvb := HVB.out
              clear hqv
              go_wp2_with fail
              go_roundw
              case rel => exact ⟨q + 1, v + 1, qs ++ [true], (setB C W xx yy 1), by go_num, by omega, by show _ = _; rw [List.length_append, hql.out]; rfl, by show _ = _; rw [HK1.out.2]; exact HJ2.out, RD, HM5, HP4, HB5⟩
              case measure => simp [intOf]; omega
            · have h48 : x = 48 := by omega
              subst h48
              clear hd h49
              go_upto_region 14 with (go_at_call 45; refine (here45 r a cap l v _ HR2.out).mono ?_; rintro e w3 ⟨rfl, k3, rfl⟩; rw [HCV.out])
              have HR3 := Lib.hid (HR2.out.drewN k3)
              have HM3 := Lib.hid (HM2.out.drewN k3)
              have HB3 := Lib.hid (below_drewN HB2.out k3)
              generalize w2.drewN k3 = w3 at *
              clear HR2 HM2 HB2
              have hqv : (v : Int) + 1 = ((v + 1 : Nat) : Int) := by omega
              have HR4 := HR3
              have HM4 := HM3
              have HB4 := HB3
              have c1 := HR4.out.c1
              have f1 := HR4.out.fz
              have RD : Hid (IsRd (w3.setCell ⟨r, 1, none⟩ (.int .i64 ((v : Int) + 1))) r a cap l (v + 1)) := by rw [hqv]; exact HR4.out.set (by have := HVL.out; omega)
              have HM5 : Hid (IsMapO (w3.setCell ⟨r, 1, none⟩ (.int .i64 ((v : Int) + 1))) g gw W H C) := HM4.out.grown (grown_setCell w3 ⟨r, 1, none⟩ _) (Ne.symm HNE.out.1) (Ne.symm HNE.out.2)
              have HB5 : Hid (Below B0 w (w3.setCell ⟨r, 1, none⟩ (.int .i64 ((v : Int) + 1)))) := Below.setCell HB4.out hr _
              have HVB : Hid (v < 100000000000000) := by have := HVL.out; show _ < _; omega
              have hvb := HVB.out
              clear hqv
              go_wp2_with fail
              go_roundw
              case rel => exact ⟨q + 1, v + 1, qs ++ [false], C, by go_num, by omega, by show _ = _; rw [List.length_append, hql.out]; rfl, by show _ = _; rw [HK1.out.2]; exact HJ2.out, RD, HM5, hp.out.zero, HB5⟩
              case measure => simp [intOf]; omega
          · have hd1 : ((x : Int) != 48) = true := by simp; omega
            have hd2 : ((x : Int) != 49) = true := by simp; omega
            have HRE : Hid (R = .inl 30) := by
              have h3 := HJ.out
              rw [pixP_bad HCO.out (by rw [HX.out]; exact hd)] at h3
              exact h3.symm
            clear hd
            go_wp2_with (go_at_call 45; refine (here45 r a cap l v _ HR2.out).mono ?_; rintro e w3 ⟨rfl, k3, rfl⟩; rw [HCV.out])
            refine ⟨rfl, ?_, below_drewN HB2.out k3⟩
            rw [HRE.out]
            rfl
        · have HRE : Hid (R = .inl 32) := by
            have h3 := HJ.out
            rw [pixP_end (by rw [← HDR.out]; exact List.drop_eq_nil_of_le (show l.length ≤ v by omega))] at h3
            exact h3.symm
          have hcv := hereV_end (show l.length ≤ v by omega)
          have HCV := Lib.hid hcv
          clear hvl hcv
          go_wp2_with (go_at_call 45; refine (here45 r a cap l v _ HR2.out).mono ?_; rintro e w3 ⟨rfl, k3, rfl⟩; rw [HCV.out])
          refine ⟨rfl, ?_, below_drewN HB2.out k3⟩
          rw [HRE.out]
          rfl
      · have hqe : q = tot := by omega
        subst hqe
        have HRE : Hid (R = .inr (qs, l.drop u)) := by
          have h3 := hj.out
          rw [Nat.sub_self] at h3
          rw [← h3]
          show Sum.inr _ = Sum.inr _
          rw [List.append_nil]
        obtain ⟨v, hv⟩ : ∃ v, pasAt false l u = v := ⟨_, rfl⟩
        have HV2 := Lib.hid hv
        have HDR : Hid (l.drop v = pas false (l.drop u)) := by show _ = _; rw [← hv]; exact pasAt_drop false l hr1.out.le
        have hvle : v ≤ l.length := by rw [← hv]; exact (pasAt_ge false l hr1.out.le).2
        clear hv hlt
        go_upto_region 17 with (go_at_call 44; refine (passed44 r a cap l u _ hr1.out hl).mono ?_; rintro e w2 ⟨rfl, h1, h2⟩; rw [HV2.out] at h1; have HR2 := Lib.hid h1; have HM2 := Lib.hid (hm.out.grown h2 (Ne.symm HNE.out.1) (Ne.symm HNE.out.2)); have HB2 := Lib.hid (Below.grown hb.out h2 (Nat.le_trans hB0 hb.out.size) (fun z hz => by cases hz; exact hr)); clear h1 h2)
        by_cases hvl : v < l.length
        · obtain ⟨c, hc⟩ : ∃ c, l[v]? = some c := ⟨_, List.getElem?_eq_getElem hvl⟩
          have HCV := Lib.hid (hereV_at hc)
          have HNN : Hid (¬ pas false (l.drop u) = []) := by show ¬ _; rw [← HDR.out, drop_at hc]; simp
          have hge : (0 : Int) ≤ (c.toNat : Int) := by omega
          clear hc hvl
          generalize c.toNat = x at *
          go_wp2_with (go_at_call 45; refine (here45 r a cap l v _ HR2.out).mono ?_; rintro e w3 ⟨rfl, k3, rfl⟩; rw [HCV.out])
          refine ⟨rfl, ?_, below_drewN HB2.out k3⟩
          rw [HRE.out]
          show ReadsE _ _ _ _ _ _ (if _ then _ else _)
          rw [if_neg HNN.out]
          rfl
        · have HCV := Lib.hid (hereV_end (show l.length ≤ v by omega))
          have HNN : Hid (pas false (l.drop u) = []) := by show _ = _; rw [← HDR.out]; exact List.drop_eq_nil_of_le (by omega)
          clear hvl
          go_wp2_with (go_at_call 45; refine (here45 r a cap l v _ HR2.out).mono ?_; rintro e w3 ⟨rfl, k3, rfl⟩; rw [HCV.out])
          go_end0
          refine ⟨?_, below_drewN HB2.out k3⟩
          rw [HRE.out]
          show ReadsE _ _ _ _ _ _ (if _ then _ else _)
          rw [if_pos HNN.out]
          exact ⟨rfl, C, HM2.out.drewN k3, hp.out⟩
end Go.Proofs.YtgpjpmadbepblaaDoor
