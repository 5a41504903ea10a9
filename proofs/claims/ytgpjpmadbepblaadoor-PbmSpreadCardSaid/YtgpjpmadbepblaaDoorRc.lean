/- number of package pbm. Conditions: the bounds that each theorem names. -/
import Derived.Test.YtgpjpmadbepblaaDoorRb
namespace Go.Pbm
/-- a decimal's value behind a value, and how many digits it has -/
def digL : Nat → List UInt8 → Nat × Nat
  | v, [] => (v, 0)
  | v, c :: t => if 48 ≤ c.toNat ∧ c.toNat ≤ 57 then ((digL (min (10 * v + (c.toNat - 48)) 2147483648) t).1, (digL (min (10 * v + (c.toNat - 48)) 2147483648) t).2 + 1) else (v, 0)
theorem digL_len : ∀ (v : Nat) (l : List UInt8), (digL v l).2 ≤ l.length
  | v, [] => Nat.le_refl _
  | v, c :: t => by
    rw [digL]
    split
    · have := digL_len (min (10 * v + (c.toNat - 48)) 2147483648) t
      simp
      omega
    · exact Nat.zero_le _
theorem digL_le : ∀ (v : Nat) (l : List UInt8), v ≤ 2147483648 → (digL v l).1 ≤ 2147483648
  | v, [], h => h
  | v, c :: t, h => by
    rw [digL]
    split
    · exact digL_le _ t (Nat.min_le_right _ _)
    · exact h
end Go.Pbm
namespace Go.Proofs.YtgpjpmadbepblaaDoor
open Go.RowKit Go.Bm Go.Pbm Go.Sort

/-- a number: its value, the place behind it -/
def numS (l : List UInt8) (i : Nat) : Option (Nat × Nat) :=
  if i < pasAt false l i ∧ 0 < (digL 0 (l.drop (pasAt false l i))).2 then some ((digL 0 (l.drop (pasAt false l i))).1, pasAt false l i + (digL 0 (l.drop (pasAt false l i))).2) else none
/-- how a reader's fault ends a call -/
def faultE (code : Int) : Ending := .panicked [{ v := .iface 57 (.agg #[.int .i64 code]), recovered := false }]
theorem hereV_at {l : List UInt8} {i : Nat} {c : UInt8} (h : l[i]? = some c) : hereV l i = (c.toNat : Int) := by unfold hereV; rw [h]
theorem hereV_end {l : List UInt8} {i : Nat} (h : l.length ≤ i) : hereV l i = -1 := by unfold hereV; rw [List.getElem?_eq_none h]

set_option maxHeartbeats 4000000 in
set_option maxRecDepth 100000 in
theorem number29_no (r : Nat) (a : Option Addr) (cap : Nat) (l : List UInt8) (i : Nat) (w : World) (h : IsRd w r a cap l i) (hl : l.length ≤ 100000000000000) (hp : ¬ i < pasAt false l i) :
    Calls Tryd.prog 29 #[.pointer (some ⟨r, 0, none⟩)] w fun e w' => e = faultE 30 ∧ w.grownBy w' (some r) := by
  have HP := Lib.hid hp
  have HR := Lib.hid h
  clear h hp
  go_enter Tryd.func29, Tryd.ntmps29
  go_wp2_with (go_at_call 44; refine (passed44 r a cap l i _ HR.out hl).mono ?_; rintro e w1 ⟨rfl, hr1, hg1⟩; rw [decide_eq_false HP.out]; have HG1 := Lib.hid hg1; clear hr1 hg1)
  exact ⟨rfl, rfl, HG1.out⟩

set_option maxHeartbeats 4000000 in
set_option maxRecDepth 100000 in
theorem number29_go (r : Nat) (a : Option Addr) (cap : Nat) (l : List UInt8) (i j v m : Nat) (w : World) (h : IsRd w r a cap l i) (hl : l.length ≤ 100000000000000) (hp : i < pasAt false l i) (hj : pasAt false l i = j) (hd : digL 0 (l.drop j) = (v, m)) :
    Calls Tryd.prog 29 #[.pointer (some ⟨r, 0, none⟩)] w fun e w' => (if 0 < m then e = .returned (.int .i64 v) ∧ IsRd w' r a cap l (j + m) else e = faultE 30) ∧ w.grownBy w' (some r) := by
  have HP := Lib.hid hp
  have HR := Lib.hid h
  have HJ := Lib.hid hj
  have HD := Lib.hid hd
  clear h hp hj hd
  go_enter Tryd.func29, Tryd.ntmps29
  go_upto_region 3 with (go_at_call 44; refine (passed44 r a cap l i _ HR.out hl).mono ?_; rintro e w1 ⟨rfl, hr1, hg1⟩; rw [decide_eq_true HP.out]; rw [HJ.out] at hr1; have HG1 := Lib.hid hg1; have HR1 := Lib.hid hr1; clear hr1 hg1)
  have c1 := HR1.out.c1
  go_wp2_with (go_at_call 45; refine (here45 r a cap l j _ HR1.out).mono ?_; rintro e w2 ⟨rfl, k, rfl⟩)
  have HR2 := Lib.hid (HR1.out.drewN k)
  have HG2 : Hid (w.grownBy (w1.drewN k) (some r)) := HG1.out.trans (grown_drewN _ _ _)
  generalize w1.drewN k = w2 at *
  clear c1
  go_loopw [4, 5] (fun n c wr => ∃ q u t : Nat, n = .int .i64 q ∧ c = .int .i64 (hereV l u) ∧ j ≤ u ∧ u + t = j + m ∧ q ≤ 2147483648 ∧ Hid (digL q (l.drop u) = (v, t)) ∧ Hid (IsRd wr r a cap l u) ∧ Hid (w.grownBy wr (some r))) (fun _ _ wr => match wr.cell? ⟨r, 1, none⟩ with | some (.int _ q) => l.length - q.toNat | _ => 0)
  case atStart => exact ⟨0, j, m, rfl, rfl, Nat.le_refl _, rfl, by omega, HD, HR2, HG2⟩
  case round =>
    clear HR2 HG2 HR1 HG1 HR
    obtain ⟨q, u, t, rfl, rfl, hju, hut, hq, hdq, hr, hg⟩ := hrel
    have hle := hr.out.le
    have c1 := hr.out.c1
    have f1 := hr.out.fz
    by_cases hu : u < l.length
    · obtain ⟨c, hc⟩ : ∃ c, l[u]? = some c := ⟨_, List.getElem?_eq_getElem hu⟩
      have hv := hereV_at hc
      have hx := c.toNat_lt
      have hds : digL q (l.drop u) = digL q (c :: l.drop (u + 1)) := by rw [drop_at hc]
      rw [hdq.out, digL] at hds
      obtain ⟨x, hxx⟩ : ∃ x, c.toNat = x := ⟨_, rfl⟩
      rw [hxx] at hv hx hds
      rw [hv]
      have HDS := Lib.hid hds
      clear hc hv hds hxx
      by_cases hdg : 48 ≤ x ∧ x ≤ 57
      · have h1 : (48 : Int) ≤ (x : Int) := by omega
        have h2 : (x : Int) ≤ 57 := by omega
        obtain ⟨n2, hn2⟩ : ∃ n2, min (10 * q + (x - 48)) 2147483648 = n2 := ⟨_, rfl⟩
        have hmin : min (10 * (q : Int) + (x : Int) - 48) 2147483648 = (n2 : Int) := by omega
        have hn2b : n2 ≤ 2147483648 := by omega
        have HDQ : Hid (∃ t2, t = t2 + 1 ∧ digL n2 (l.drop (u + 1)) = (v, t2)) := by
          have h3 := HDS.out
          rw [if_pos hdg, hn2] at h3
          injection h3 with h4 h5
          exact ⟨_, h5, Prod.ext h4.symm rfl⟩
        have hqi : (u : Int) + 1 = ((u + 1 : Nat) : Int) := by omega
        have RD : Hid (IsRd (wr.setCell ⟨r, 1, none⟩ (.int .i64 ((u : Int) + 1))) r a cap l (u + 1)) := by rw [hqi]; exact hr.out.set (by omega)
        have GR : Hid (w.grownBy (wr.setCell ⟨r, 1, none⟩ (.int .i64 ((u : Int) + 1))) (some r)) := hg.out.trans (grown_setCell wr ⟨r, 1, none⟩ (.int .i64 ((u : Int) + 1)))
        clear hdg hn2 hqi
        go_wp2_with (go_at_call 45; refine (here45 r a cap l (u + 1) _ RD.out).mono ?_; rintro e w3 ⟨rfl, k, rfl⟩)
        go_roundw
        case rel =>
          obtain ⟨t2, ht2, hd2⟩ := HDQ.out
          exact ⟨n2, u + 1, t2, by go_num, rfl, by omega, by omega, hn2b, hd2, RD.out.drewN k, GR.out.trans (grown_drewN _ _ _)⟩
        case measure =>
          have e1 := (RD.out.drewN k).c1
          simp only [e1, c1]
          simp
          omega
      · by_cases h1 : (48 : Int) ≤ (x : Int)
        · have h2 : ¬ (x : Int) ≤ 57 := by omega
          have HE : Hid (t = 0 ∧ q = v) := by
            have h3 := HDS.out; rw [if_neg hdg] at h3; injection h3 with h4 h5; exact ⟨h5, h4.symm⟩
          obtain ⟨rfl, rfl⟩ := HE.out
          clear hdg
          have hu2 : u = j + m := by omega
          have GR := hg
          clear HE
          by_cases hm : 0 < m
          · have hne : ((u : Int) == (j : Int)) = false := by simp; omega
            have HU := Lib.hid hu2
            have HMM := Lib.hid hm
            clear hu2 hm hju hut
            go_wp2_with fail
            go_ret
            try rw [if_pos HMM.out]
            rw [← HU.out]
            exact ⟨⟨rfl, hr.out⟩, hg.out⟩
          · have hne : ((u : Int) == (j : Int)) = true := by simp; omega
            have HMM := Lib.hid hm
            clear hu2 hm hju hut
            go_wp2_with fail
            refine ⟨rfl, ?_, hg.out⟩
            try rw [if_neg HMM.out]
            rfl
        · clear hq
          have HE : Hid (t = 0 ∧ q = v) := by
            have h3 := HDS.out; rw [if_neg hdg] at h3; injection h3 with h4 h5; exact ⟨h5, h4.symm⟩
          obtain ⟨rfl, rfl⟩ := HE.out
          clear hdg
          have hu2 : u = j + m := by omega
          have GR := hg
          clear HE
          by_cases hm : 0 < m
          · have hne : ((u : Int) == (j : Int)) = false := by simp; omega
            have HU := Lib.hid hu2
            have HMM := Lib.hid hm
            clear hu2 hm hju hut
            go_wp2_with fail
            go_ret
            try rw [if_pos HMM.out]
            rw [← HU.out]
            exact ⟨⟨rfl, hr.out⟩, hg.out⟩
          · have hne : ((u : Int) == (j : Int)) = true := by simp; omega
            have HMM := Lib.hid hm
            clear hu2 hm hju hut
            go_wp2_with fail
            refine ⟨rfl, ?_, hg.out⟩
            try rw [if_neg HMM.out]
            rfl
    · rw [hereV_end (show l.length ≤ u by omega)]
      have HE : Hid (t = 0 ∧ q = v) := by
        have h3 := hdq.out; rw [List.drop_eq_nil_of_le (show l.length ≤ u by omega)] at h3; injection h3 with h4 h5; exact ⟨h5.symm, h4⟩
      obtain ⟨rfl, rfl⟩ := HE.out
      have hu2 : u = j + m := by omega
      have GR := hg
      clear HE
      by_cases hm : 0 < m
      · have hne : ((u : Int) == (j : Int)) = false := by simp; omega
        have HU := Lib.hid hu2
        have HMM := Lib.hid hm
        clear hu2 hm hju hut
        go_wp2_with fail
        go_ret
        try rw [if_pos HMM.out]
        rw [← HU.out]
        exact ⟨⟨rfl, hr.out⟩, hg.out⟩
      · have hne : ((u : Int) == (j : Int)) = true := by simp; omega
        have HMM := Lib.hid hm
        clear hu2 hm hju hut
        go_wp2_with fail
        refine ⟨rfl, ?_, hg.out⟩
        try rw [if_neg HMM.out]
        rfl
end Go.Proofs.YtgpjpmadbepblaaDoor
