/- passed of package pbm. Conditions: the bounds that each theorem names. -/
import Derived.Test.YtgpjpmadbepblaaDoorRa
namespace Go.Proofs.YtgpjpmadbepblaaDoor
open Go.RowKit Go.Bm Go.Pbm Go.Sort

/-- what holds at a jump: the frame, the place -/
def JP (w : World) (r : Nat) (a : Option Addr) (cap : Nat) (l : List UInt8) (i0 fin : Nat) (lb : Nat) (a' : Act) (w' : World) : Prop :=
  lb ≤ 1 ∧ ∃ (i : Nat) (u1 u4 u5 u6 u7 u8 u9 u10 u11 u12 u13 u14 u15 u16 u17 u18 u19 u20 u21 u22 u23 u24 u25 u26 u27 u28 u29 u30 u31 u32 u33 u34 u35 u36 u37 u38 u39 u40 u41 u42 u43 u44 u45 u46 u47 u48 u49 u50 u51 u52 : Value), a' = { tmps := #[.pointer (some ⟨r, 0, none⟩), u1, .bool false, .int .i64 (i0 : Nat), u4, u5, u6, u7, u8, u9, u10, u11, u12, u13, u14, u15, u16, u17, u18, u19, u20, u21, u22, u23, u24, u25, u26, u27, u28, u29, u30, u31, u32, u33, u34, u35, u36, u37, u38, u39, u40, u41, u42, u43, u44, u45, u46, u47, u48, u49, u50, u51, u52], defers := [] } ∧ IsRd w' r a cap l i ∧ w.grownBy w' (some r) ∧ i0 ≤ i ∧ pasAt (lb == 1) l i = fin
def JM (r : Nat) (n : Nat) (lb : Nat) (_ : Act) (w' : World) : Nat := match w'.cell? ⟨r, 1, none⟩ with
  | some (.int _ q) => if lb = 1 then 2 * (n - q.toNat) + 1 else if q.toNat < n then 2 * (n - q.toNat) + 2 else 0
  | _ => 0
theorem JM_at {w : World} {r : Nat} {a : Option Addr} {cap : Nat} {l : List UInt8} {i : Nat} (h : IsRd w r a cap l i) (n lb : Nat) (a' : Act) : JM r n lb a' w = if lb = 1 then 2 * (n - i) + 1 else if i < n then 2 * (n - i) + 2 else 0 := by
  unfold JM
  rw [h.c1]
  simp

set_option maxHeartbeats 4000000 in
set_option maxRecDepth 100000 in
theorem passed44 (r : Nat) (a : Option Addr) (cap : Nat) (l : List UInt8) (i0 : Nat) (w : World) (h : IsRd w r a cap l i0) (hl : l.length ≤ 100000000000000) :
    Calls Tryd.prog 44 #[.pointer (some ⟨r, 0, none⟩)] w fun e w' => e = .returned (.bool (decide (i0 < pasAt false l i0))) ∧ IsRd w' r a cap l (pasAt false l i0) ∧ w.grownBy w' (some r) := by
  have HR0 := Lib.hid h
  have c0 := h.c0
  have c1 := h.c1
  clear h
  go_enter Tryd.func44, Tryd.ntmps44
  go_wp2_with fail
  obtain ⟨fin, hfin⟩ : ∃ fin, pasAt false l i0 = fin := ⟨_, rfl⟩
  have HFIN := Lib.hid hfin
  clear hfin
  refine wp_scope_labels (JP w r a cap l i0 fin) (JM r l.length) ?_ ?_
  · go_wp2_with fail
    go_step3
    obtain ⟨w2, hw2⟩ : ∃ w2, w = w2 := ⟨_, rfl⟩
    have HR : Hid (IsRd w2 r a cap l i0) := hw2 ▸ HR0.out
    have HG : Hid (w.grownBy w2 (some r)) := hw2 ▸ grown_refl w (some r)
    have HF : Hid (pasAt (0 == 1) l i0 = fin) := HFIN.out
    obtain ⟨i, hi0e⟩ : ∃ i, i = i0 := ⟨_, rfl⟩
    have HR : Hid (IsRd w2 r a cap l i) := hi0e.symm ▸ HR.out
    have HF : Hid (pasAt (0 == 1) l i = fin) := hi0e.symm ▸ HF.out
    have hi0 : i0 ≤ i := Nat.le_of_eq hi0e.symm
    clear hi0e
    have hle := HR.out.le
    by_cases hi : i < l.length
    · obtain ⟨c, hc⟩ : ∃ c, l[i]? = some c := ⟨_, List.getElem?_eq_getElem hi⟩
      have HV : Hid (hereV l i = (c.toNat : Int)) := by show _ = _; unfold hereV; rw [hc]
      have HP := Lib.hid (pasAt_step false hc)
      have HPT := Lib.hid (pasAt_step true hc)
      have hx := c.toNat_lt
      have HI := Lib.hid hi
      clear hi hc
      obtain ⟨x, hxx⟩ : ∃ x, c.toNat = x := ⟨_, rfl⟩
      rw [hxx] at HV HP HPT hx
      clear hxx
      by_cases hw : isW x = true
      · have HWI : Hid (isWI (x : Int) = true) := by show _ = _; rw [isWI_nat]; exact hw
        have HF2 : Hid (pasAt false l (i + 1) = fin) := by
          have h1 := HP.out
          have h2 : pasAt false l i = fin := HF.out
          rw [hw] at h1
          rw [← h2, h1]
          rfl
        clear hw
        go_upto_region 4 with (first
          | (go_at_call 45; refine (here45 r a cap l i _ HR.out).mono ?_; rintro e w1 ⟨rfl, k, rfl⟩; rw [HV.out])
          | (go_at_call 47; refine (white47 _ _).mono ?_; rintro e w1 ⟨rfl, rfl⟩; rw [HWI.out]))
        have HR2 := Lib.hid (HR.out.drewN k)
        have HG2 : Hid (w.grownBy (w2.drewN k) (some r)) := HG.out.trans (grown_drewN _ _ _)
        generalize w2.drewN k = w3 at *
        have c0 := HR2.out.c0
        have c1 := HR2.out.c1
        have f1 := HR2.out.fz
        have hq : (i : Int) + 1 = ((i + 1 : Nat) : Int) := by omega
        have RD : Hid (IsRd (w3.setCell ⟨r, 1, none⟩ (.int .i64 ((i : Int) + 1))) r a cap l (i + 1)) := by rw [hq]; exact HR2.out.set (by have := HI.out; omega)
        have GR : Hid (w.grownBy (w3.setCell ⟨r, 1, none⟩ (.int .i64 ((i : Int) + 1))) (some r)) := HG2.out.trans (grown_setCell w3 ⟨r, 1, none⟩ (.int .i64 ((i : Int) + 1)))
        clear hq
        go_wp2_with fail
        go_step3
        refine (show JP .. from ⟨by decide, i + 1, _, _, _, _, _, _, _, _, _, _, _, _, _, _, _, _, _, _, _, _, _, _, _, _, _, _, _, _, _, _, _, _, _, _, _, _, _, _, _, _, _, _, _, _, _, _, _, _, _, _, by rfl, RD.out, GR.out, by omega, HF2.out⟩)
      · by_cases hs : x = 35
        · subst hs
          have HWI : Hid (isWI 35 = false) := rfl
          have HF2 : Hid (pasAt true l i = fin) := by
            have h1 := HP.out
            have h2 : pasAt false l i = fin := HF.out
            have h3 : pasAt true l i = pasAt true l (i + 1) := HPT.out
            rw [← h2, h1, h3]
            rfl
          clear hw
          go_wp2_with (first
            | (go_at_call 45; refine (here45 r a cap l i _ HR.out).mono ?_; rintro e w1 ⟨rfl, k, rfl⟩; rw [HV.out])
            | (go_at_call 47; refine (white47 _ _).mono ?_; rintro e w1 ⟨rfl, rfl⟩; rw [HWI.out]))
          try go_step3
          refine (show JP .. from ⟨by decide, i, _, _, _, _, _, _, _, _, _, _, _, _, _, _, _, _, _, _, _, _, _, _, _, _, _, _, _, _, _, _, _, _, _, _, _, _, _, _, _, _, _, _, _, _, _, _, _, _, _, _, by rfl, (HR.out.drewN k), (HG.out.trans (grown_drewN _ _ _)), by omega, HF2.out⟩)
        · have HWI : Hid (isWI (x : Int) = false) := by show _ = _; rw [isWI_nat]; simpa using hw
          have HF2 : Hid (fin = i) := by
            have h1 := HP.out
            have h2 : pasAt false l i = fin := HF.out
            rw [← h2, h1, if_neg (by decide), if_neg hw, if_neg hs]
            exact rfl
          have h35 : ((x : Int) == 35) = false := by simp; omega
          have c1 := HR.out.c1
          clear hw hs
          go_wp2_with (first
            | (go_at_call 45; refine (here45 r a cap l i _ HR.out).mono ?_; rintro e w1 ⟨rfl, k, rfl⟩; rw [HV.out])
            | (go_at_call 47; refine (white47 _ _).mono ?_; rintro e w1 ⟨rfl, rfl⟩; rw [HWI.out]))
          simp only [Exit.jumps]
          go_ret
          exact ⟨by rw [HFIN.out, HF2.out]; rfl, by rw [HFIN.out, HF2.out]; exact HR.out.drewN k, HG.out.trans (grown_drewN _ _ _)⟩
    · have HV : Hid (hereV l i = -1) := by show _ = _; unfold hereV; rw [List.getElem?_eq_none (by omega)]
      have HWI : Hid (isWI (-1) = false) := rfl
      have HF2 : Hid (fin = i) := by
        have h2 : pasAt false l i = fin := HF.out
        rw [← h2, pasAt_end _ _ (by omega)]
        show _ = _
        omega
      have c1 := HR.out.c1
      clear hi
      go_wp2_with (first
        | (go_at_call 45; refine (here45 r a cap l i _ HR.out).mono ?_; rintro e w1 ⟨rfl, k, rfl⟩; rw [HV.out])
        | (go_at_call 47; refine (white47 _ _).mono ?_; rintro e w1 ⟨rfl, rfl⟩; rw [HWI.out]))
      simp only [Exit.jumps]
      go_ret
      exact ⟨by rw [HFIN.out, HF2.out]; rfl, by rw [HFIN.out, HF2.out]; exact HR.out.drewN k, HG.out.trans (grown_drewN _ _ _)⟩
  · rintro lb a' w2 ⟨hlb, i, u1, u4, u5, u6, u7, u8, u9, u10, u11, u12, u13, u14, u15, u16, u17, u18, u19, u20, u21, u22, u23, u24, u25, u26, u27, u28, u29, u30, u31, u32, u33, u34, u35, u36, u37, u38, u39, u40, u41, u42, u43, u44, u45, u46, u47, u48, u49, u50, u51, u52, rfl, hr, hg, hi0, hf⟩
    have HR := Lib.hid hr
    have HG := Lib.hid hg
    have HF := Lib.hid hf
    clear hr hg hf c0 c1
    obtain rfl | rfl : lb = 0 ∨ lb = 1 := by omega
    · refine ⟨_, rfl, ?_⟩
      have hle := HR.out.le
      by_cases hi : i < l.length
      · obtain ⟨c, hc⟩ : ∃ c, l[i]? = some c := ⟨_, List.getElem?_eq_getElem hi⟩
        have HV : Hid (hereV l i = (c.toNat : Int)) := by show _ = _; unfold hereV; rw [hc]
        have HP := Lib.hid (pasAt_step false hc)
        have HPT := Lib.hid (pasAt_step true hc)
        have hx := c.toNat_lt
        have HI := Lib.hid hi
        clear hi hc
        obtain ⟨x, hxx⟩ : ∃ x, c.toNat = x := ⟨_, rfl⟩
        rw [hxx] at HV HP HPT hx
        clear hxx
        by_cases hw : isW x = true
        · have HWI : Hid (isWI (x : Int) = true) := by show _ = _; rw [isWI_nat]; exact hw
          have HF2 : Hid (pasAt false l (i + 1) = fin) := by
            have h1 := HP.out
            have h2 : pasAt false l i = fin := HF.out
            rw [hw] at h1
            rw [← h2, h1]
            rfl
          clear hw
          go_upto_region 4 with (first
            | (go_at_call 45; refine (here45 r a cap l i _ HR.out).mono ?_; rintro e w1 ⟨rfl, k, rfl⟩; rw [HV.out])
            | (go_at_call 47; refine (white47 _ _).mono ?_; rintro e w1 ⟨rfl, rfl⟩; rw [HWI.out]))
          have HR2 := Lib.hid (HR.out.drewN k)
          have HG2 : Hid (w.grownBy (w2.drewN k) (some r)) := HG.out.trans (grown_drewN _ _ _)
          generalize w2.drewN k = w3 at *
          have c0 := HR2.out.c0
          have c1 := HR2.out.c1
          have f1 := HR2.out.fz
          have hq : (i : Int) + 1 = ((i + 1 : Nat) : Int) := by omega
          have RD : Hid (IsRd (w3.setCell ⟨r, 1, none⟩ (.int .i64 ((i : Int) + 1))) r a cap l (i + 1)) := by rw [hq]; exact HR2.out.set (by have := HI.out; omega)
          have GR : Hid (w.grownBy (w3.setCell ⟨r, 1, none⟩ (.int .i64 ((i : Int) + 1))) (some r)) := HG2.out.trans (grown_setCell w3 ⟨r, 1, none⟩ (.int .i64 ((i : Int) + 1)))
          clear hq
          go_wp2_with fail
          go_step3
          refine (show _ ∧ _ from ⟨⟨by decide, i + 1, _, _, _, _, _, _, _, _, _, _, _, _, _, _, _, _, _, _, _, _, _, _, _, _, _, _, _, _, _, _, _, _, _, _, _, _, _, _, _, _, _, _, _, _, _, _, _, _, _, _, by rfl, RD.out, GR.out, by omega, HF2.out⟩, ?_⟩)
          rw [JM_at RD.out, JM_at HR.out]
          have h9 := HI.out
          simp
          repeat' split
          all_goals omega
        · by_cases hs : x = 35
          · subst hs
            have HWI : Hid (isWI 35 = false) := rfl
            have HF2 : Hid (pasAt true l i = fin) := by
              have h1 := HP.out
              have h2 : pasAt false l i = fin := HF.out
              have h3 : pasAt true l i = pasAt true l (i + 1) := HPT.out
              rw [← h2, h1, h3]
              rfl
            clear hw
            go_wp2_with (first
              | (go_at_call 45; refine (here45 r a cap l i _ HR.out).mono ?_; rintro e w1 ⟨rfl, k, rfl⟩; rw [HV.out])
              | (go_at_call 47; refine (white47 _ _).mono ?_; rintro e w1 ⟨rfl, rfl⟩; rw [HWI.out]))
            try go_step3
            refine (show _ ∧ _ from ⟨⟨by decide, i, _, _, _, _, _, _, _, _, _, _, _, _, _, _, _, _, _, _, _, _, _, _, _, _, _, _, _, _, _, _, _, _, _, _, _, _, _, _, _, _, _, _, _, _, _, _, _, _, _, _, by rfl, (HR.out.drewN k), (HG.out.trans (grown_drewN _ _ _)), by omega, HF2.out⟩, ?_⟩)
            rw [JM_at (HR.out.drewN k), JM_at HR.out]
            have h9 := HI.out
            simp
            repeat' split
            all_goals omega
          · have HWI : Hid (isWI (x : Int) = false) := by show _ = _; rw [isWI_nat]; simpa using hw
            have HF2 : Hid (fin = i) := by
              have h1 := HP.out
              have h2 : pasAt false l i = fin := HF.out
              rw [← h2, h1, if_neg (by decide), if_neg hw, if_neg hs]
              exact rfl
            have h35 : ((x : Int) == 35) = false := by simp; omega
            have c1 := HR.out.c1
            clear hw hs
            go_wp2_with (first
              | (go_at_call 45; refine (here45 r a cap l i _ HR.out).mono ?_; rintro e w1 ⟨rfl, k, rfl⟩; rw [HV.out])
              | (go_at_call 47; refine (white47 _ _).mono ?_; rintro e w1 ⟨rfl, rfl⟩; rw [HWI.out]))
            simp only [Exit.jumps]
            go_ret
            exact ⟨by rw [HFIN.out, HF2.out]; rfl, by rw [HFIN.out, HF2.out]; exact HR.out.drewN k, HG.out.trans (grown_drewN _ _ _)⟩
      · have HV : Hid (hereV l i = -1) := by show _ = _; unfold hereV; rw [List.getElem?_eq_none (by omega)]
        have HWI : Hid (isWI (-1) = false) := rfl
        have HF2 : Hid (fin = i) := by
          have h2 : pasAt false l i = fin := HF.out
          rw [← h2, pasAt_end _ _ (by omega)]
          show _ = _
          omega
        have c1 := HR.out.c1
        clear hi
        go_wp2_with (first
          | (go_at_call 45; refine (here45 r a cap l i _ HR.out).mono ?_; rintro e w1 ⟨rfl, k, rfl⟩; rw [HV.out])
          | (go_at_call 47; refine (white47 _ _).mono ?_; rintro e w1 ⟨rfl, rfl⟩; rw [HWI.out]))
        simp only [Exit.jumps]
        go_ret
        exact ⟨by rw [HFIN.out, HF2.out]; rfl, by rw [HFIN.out, HF2.out]; exact HR.out.drewN k, HG.out.trans (grown_drewN _ _ _)⟩
    · refine ⟨_, rfl, ?_⟩
      have hle := HR.out.le
      have c0 := HR.out.c0
      have c1 := HR.out.c1
      have f1 := HR.out.fz
      by_cases hi : i < l.length
      · obtain ⟨c, hc⟩ : ∃ c, l[i]? = some c := ⟨_, List.getElem?_eq_getElem hi⟩
        have HV : Hid (hereV l i = (c.toNat : Int)) := by show _ = _; unfold hereV; rw [hc]
        have HPT := Lib.hid (pasAt_step true hc)
        have hx := c.toNat_lt
        have HI := Lib.hid hi
        have hmin : min ((i : Int) + 1) (l.length : Int) = (i : Int) + 1 := by omega
        clear hc
        obtain ⟨x, hxx⟩ : ∃ x, c.toNat = x := ⟨_, rfl⟩
        rw [hxx] at HV HPT hx
        clear hxx
        go_upto_region 8 with (go_at_call 45; refine (here45 r a cap l i _ HR.out).mono ?_; rintro e w1 ⟨rfl, k, rfl⟩; rw [HV.out])
        have hq : (i : Int) + 1 = ((i + 1 : Nat) : Int) := by omega
        have HR2 := Lib.hid (HR.out.drewN (k + 1))
        have HG2 : Hid (w.grownBy (w2.drewN (k + 1)) (some r)) := HG.out.trans (grown_drewN _ _ _)
        have RD : Hid (IsRd ((w2.drewN (k + 1)).setCell ⟨r, 1, none⟩ (.int .i64 ((i : Int) + 1))) r a cap l (i + 1)) := by rw [hq]; exact HR2.out.set (by omega)
        have GR : Hid (w.grownBy ((w2.drewN (k + 1)).setCell ⟨r, 1, none⟩ (.int .i64 ((i : Int) + 1))) (some r)) := HG2.out.trans (grown_setCell (w2.drewN (k + 1)) ⟨r, 1, none⟩ (.int .i64 ((i : Int) + 1)))
        clear hq
        go_region
        by_cases h10 : x = 10
        · subst h10
          have HF2 : Hid (pasAt false l (i + 1) = fin) := by
            have h1 := HPT.out
            have h2 : pasAt true l i = fin := HF.out
            rw [← h2, h1]
            rfl
          go_wp2_with fail
          try go_step3
          refine (show _ ∧ _ from ⟨⟨by decide, i + 1, _, _, _, _, _, _, _, _, _, _, _, _, _, _, _, _, _, _, _, _, _, _, _, _, _, _, _, _, _, _, _, _, _, _, _, _, _, _, _, _, _, _, _, _, _, _, _, _, _, _, by rfl, RD.out, GR.out, by omega, HF2.out⟩, ?_⟩)
          rw [JM_at RD.out, JM_at HR.out]
          have h9 := HI.out
          simp
          repeat' split
          all_goals omega
        · have HF2 : Hid (pasAt true l (i + 1) = fin) := by
            have h1 := HPT.out
            have h2 : pasAt true l i = fin := HF.out
            rw [← h2, h1]
            show _ = _
            rw [if_pos True.intro, if_neg h10]
          have hne : ((x : Int) != 10) = true := by simp; omega
          clear h10
          go_wp2_with fail
          try go_step3
          refine (show _ ∧ _ from ⟨⟨by decide, i + 1, _, _, _, _, _, _, _, _, _, _, _, _, _, _, _, _, _, _, _, _, _, _, _, _, _, _, _, _, _, _, _, _, _, _, _, _, _, _, _, _, _, _, _, _, _, _, _, _, _, _, by rfl, RD.out, GR.out, by omega, HF2.out⟩, ?_⟩)
          rw [JM_at RD.out, JM_at HR.out]
          have h9 := HI.out
          simp
          repeat' split
          all_goals omega
      · have HV : Hid (hereV l i = -1) := by show _ = _; unfold hereV; rw [List.getElem?_eq_none (by omega)]
        have hil : i = l.length := by omega
        have hmin : min ((i : Int) + 1) (l.length : Int) = (i : Int) := by omega
        have HF2 : Hid (pasAt false l i = fin) := by
          have h2 : pasAt true l i = fin := HF.out
          rw [← h2, pasAt_end _ _ (by omega), pasAt_end _ _ (by omega)]
          exact rfl
        have HI := Lib.hid hil
        clear hil
        go_upto_region 8 with (go_at_call 45; refine (here45 r a cap l i _ HR.out).mono ?_; rintro e w1 ⟨rfl, k, rfl⟩; rw [HV.out])
        have HR2 := Lib.hid (HR.out.drewN (k + 1))
        have HG2 : Hid (w.grownBy (w2.drewN (k + 1)) (some r)) := HG.out.trans (grown_drewN _ _ _)
        have RD : Hid (IsRd ((w2.drewN (k + 1)).setCell ⟨r, 1, none⟩ (.int .i64 (i : Int))) r a cap l i) := HR2.out.set hle
        have GR : Hid (w.grownBy ((w2.drewN (k + 1)).setCell ⟨r, 1, none⟩ (.int .i64 (i : Int))) (some r)) := HG2.out.trans (grown_setCell (w2.drewN (k + 1)) ⟨r, 1, none⟩ (.int .i64 (i : Int)))
        go_region
        go_wp2_with fail
        try go_step3
        refine (show _ ∧ _ from ⟨⟨by decide, i, _, _, _, _, _, _, _, _, _, _, _, _, _, _, _, _, _, _, _, _, _, _, _, _, _, _, _, _, _, _, _, _, _, _, _, _, _, _, _, _, _, _, _, _, _, _, _, _, _, _, by rfl, RD.out, GR.out, by omega, HF2.out⟩, ?_⟩)
        rw [JM_at RD.out, JM_at HR.out]
        have h9 := HI.out
        simp
        repeat' split
        all_goals omega
end Go.Proofs.YtgpjpmadbepblaaDoor
