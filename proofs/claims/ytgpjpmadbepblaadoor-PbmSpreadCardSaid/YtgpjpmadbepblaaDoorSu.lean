/- Bytes that are lent, with marks behind them, and taken back; Copy. Conditions: the bounds that each theorem names. -/
import Derived.Test.YtgpjpmadbepblaaDoorSt
namespace Go.Proofs.YtgpjpmadbepblaaDoor
open Go.RowKit Go.Bm Go.Pbm Go.Sort

/-- bytes with the first k marks behind them -/
def lendK (l : List UInt8) (k : Nat) : List UInt8 := l ++ List.replicate k 165
theorem lendK_len (l : List UInt8) (k : Nat) : (lendK l k).length = l.length + k := by unfold lendK; simp
theorem lendK_succ (l : List UInt8) (k : Nat) : lendK l (k + 1) = lendK l k ++ [165] := by unfold lendK; rw [List.replicate_succ', ← List.append_assoc]
/-- bytes in a block of the call's own -/
def IsOwnB (w : World) (g : Nat) (l : List UInt8) : Prop := ∃ cur : Array Value, w.heap[g]? = some (.cells cur 5 (0, 0)) ∧ ∀ (i : Nat) (u : UInt8), l[i]? = some u → cur[i]? = some (Value.int .u8 (u.toNat : Int))
theorem IsOwnB.lt {w : World} {g : Nat} {l : List UInt8} (h : IsOwnB w g l) : g < w.heap.size := by
  obtain ⟨cur, hh, _⟩ := h
  exact (Array.getElem?_eq_some_iff.1 hh).1
theorem IsOwnB.below {w w' : World} {g : Nat} {l : List UInt8} (h : IsOwnB w g l) (hb : Below w.heap.size w w') : IsOwnB w' g l := by
  have hl := h.lt
  obtain ⟨cur, hh, hc⟩ := h
  exact ⟨cur, (hb.block g hl).trans hh, hc⟩
theorem IsOwnB.bytes {w : World} {g cap : Nat} {l : List UInt8} (h : IsOwnB w g l) (hn : l.length ≤ cap) (hc : cap ≤ 9223372036854775807) : IsBytes w (some ⟨g, 0, none⟩) cap l := by
  have hl := h.lt
  obtain ⟨cur, hh, hcell⟩ := h
  refine Or.inr ⟨g, 0, rfl, hn, hc, hl, fun i u hu => ?_⟩
  rw [Nat.zero_add, Joins.cell_of_block hh]
  exact hcell i u hu
theorem IsOwnB.take {w : World} {g : Nat} {l m : List UInt8} (h : IsOwnB w g (l ++ m)) : IsOwnB w g l := by
  obtain ⟨cur, hh, hc⟩ := h
  exact ⟨cur, hh, fun i u hu => hc i u (by rw [List.getElem?_append_left (List.getElem?_eq_some_iff.1 hu).1]; exact hu)⟩
theorem IsOwnB.cell {w : World} {g : Nat} {l : List UInt8} (h : IsOwnB w g l) {i : Nat} {u : UInt8} (hu : l[i]? = some u) : w.cell? ⟨g, i, none⟩ = some (.int .u8 (u.toNat : Int)) ∧ w.frozen? ⟨g, i, none⟩ = false := by
  obtain ⟨cur, hh, hc⟩ := h
  exact ⟨(Joins.cell_of_block hh i).trans (hc i u hu), Joins.unfrozen_of_block hh i⟩
theorem IsOwnB.set {w : World} {g : Nat} {l : List UInt8} (h : IsOwnB w g l) {i : Nat} (v : UInt8) : IsOwnB (w.setCell ⟨g, i, none⟩ (.int .u8 (v.toNat : Int))) g (l.set i v) := by
  obtain ⟨cur, hh, hc⟩ := h
  refine ⟨_, Joins.block_setCell hh (i := i) (.int .u8 (v.toNat : Int)), fun j u hu => ?_⟩
  rw [Array.getElem?_setIfInBounds]
  rw [List.getElem?_set] at hu
  by_cases e : i = j
  · subst e
    rw [if_pos rfl] at hu ⊢
    split at hu
    · cases hu
      have hlt : i < cur.size := by
        have := hc i _ (List.getElem?_eq_getElem (by assumption))
        exact (Array.getElem?_eq_some_iff.1 this).1
      rw [if_pos hlt]
    · cases hu
  · rw [if_neg e] at hu ⊢
    exact hc j u hu
theorem ownB_of_row {w : World} {base g n cap : Nat} {l : List UInt8} (h : w.ownsRow base 5 1 (.slice (some ⟨g, 0, none⟩) n cap) n (bv l)) (hn : n = l.length) : IsOwnB w g l ∧ base ≤ g := by
  subst hn
  obtain ⟨_, hform⟩ := h
  rcases hform with ⟨hx, _⟩ | ⟨g', cap', cur, hx, hb, hh, hnn, hcc, _, ht⟩
  · cases hx
  · cases hx
    refine ⟨⟨cur, hh, fun i u hu => ?_⟩, hb⟩
    have hi := (List.getElem?_eq_some_iff.1 hu).1
    have e2 : cur.toList[i]? = (bv l)[i]? := by rw [← ht, List.getElem?_take, if_pos (by omega)]
    rw [← Array.getElem?_toList, e2]
    exact bv_get l i u hu

set_option maxRecDepth 100000 in
set_option maxHeartbeats 4000000 in
theorem lend13 (a : Option Addr) (cap : Nat) (l : List UInt8) (w : World) (hB : IsBytes w a cap l) (hno : a = none → l.length = 0 ∧ cap = 0) (hl : l.length ≤ 100000000) :
    Calls Tryd.prog 13 #[.slice a l.length cap] w fun e w' => ∃ g, e = .returned (.slice (some ⟨g, 0, none⟩) l.length (l.length + 7)) ∧ IsOwnB w' g (lendK l 7) ∧ w.heap.size ≤ g ∧ Below w.heap.size w w' := by
  obtain ⟨n, hn⟩ : ∃ n, l.length = n := ⟨_, rfl⟩
  rw [hn] at hno hl ⊢
  have hnew : ∀ (w1 : World), Below w.heap.size w w1 → ∀ ad, a = some ad → ∀ j u, (bv l)[j]? = some u → w1.cell? (ad.add j) = some u := by
    intro w1 hb ad had j u hj
    have hjn : j < l.length := by
      have := (List.getElem?_eq_some_iff.1 hj).1
      rwa [bv_length] at this
    have h5 := bv_get l j _ (List.getElem?_eq_getElem hjn)
    rw [h5] at hj
    cases hj
    rcases hB with h | ⟨b, off, h1, _, _, hbs, hcell⟩
    · rw [h] at hjn; simp at hjn
    · rw [had] at h1
      cases h1
      have ea : (⟨b, off, none⟩ : Addr).add j = ⟨b, off + j, none⟩ := by simp only [Addr.add]; split <;> simp_all
      rw [ea]
      exact (hb.cell (p := ⟨b, off + j, none⟩) hbs).trans (hcell j _ (List.getElem?_eq_getElem hjn))
  have HN := Lib.hid hnew
  have HNO := Lib.hid hno
  have HLN := Lib.hid hn
  clear hnew hB hno hn
  obtain ⟨i0, hi, hz0, hz1, hz2⟩ := info_parts infoB
  have hmk : ∀ W1 : World, (Instr.makeSlice 27 (.int .i64 0) (.int .i64 ((n : Int) + 7))).run Tryd.prog W1 = .ok (.slice (some ⟨W1.heap.size, 0, none⟩) 0 (n + 7)) (W1.alloc (.cells (madeCells #[.int .u8 0] (n + 7)) 5)) := by
    intro W1
    have h := run_make (P := Tryd.prog) W1 27 5 i0 (.int .u8 0) Tryd.underlying27 hi hz0 .i64 .i64 0 ((n : Int) + 7) (by omega) (by omega) (by rw [hz2]; omega) (by omega)
    rw [hz1] at h
    have e : ((n : Int) + 7).toNat = n + 7 := by omega
    rw [e, Nat.mul_one] at h
    exact h
  go_enter Tryd.func13, Tryd.ntmps13
  go_upto_region 2 with fail
  have ho := World.ownsRow_made (base := w.heap.size) (e := 5) (size := 1) w (madeCells #[.int .u8 0] (n + 7)) (n + 7) (Nat.le_refl _) (by unfold maxLen; omega) (by rw [size_madeCells, Nat.mul_one])
  have hb0 : Below w.heap.size w (w.alloc (.cells (madeCells #[.int .u8 0] (n + 7)) 5)) := (Below.refl _ _).alloc (Nat.le_refl _) _
  go_upto_region 3 with (at_builtin; refine wpList_append_fits_any _ rfl _ _ 27 rfl w.heap.size 5 i0 1 Tryd.underlying27 hi hz1 w.heap.size 0 (n + 7) [] rfl ho a n cap (bv l) rfl (by rw [bv_length, Nat.mul_one]; exact HLN.out) HNO.out (HN.out _ hb0) (bv_one l) (by omega) ?_; intro w1 hown hgrow)
  simp only [Nat.zero_add, List.nil_append] at hown
  have hbel : Below w.heap.size w w1 := hb0.grown hgrow (by simp) (fun q hq => by cases hq; omega)
  have hsz : w.heap.size < w1.heap.size := Nat.lt_of_lt_of_le (by simp) hgrow.size
  have HBE := Lib.hid hbel
  clear hbel hgrow ho hmk hb0
  obtain ⟨W0, hW0⟩ : ∃ W0, w.heap.size = W0 := ⟨_, rfl⟩
  rw [hW0] at hown hsz ⊢
  have HOWN := Lib.hid hown
  have HW0 := Lib.hid hW0
  clear hown hW0
  go_wp2_with fail
  go_loopw [3, 4] (fun v i wr => ∃ k : Nat, k ≤ 7 ∧ i = .int .i64 k ∧ v = .slice (some ⟨W0, 0, none⟩) (n + k) (n + 7) ∧ Hid (wr.ownsRow W0 5 1 (.slice (some ⟨W0, 0, none⟩) (n + k) (n + 7)) (n + k) (bv (lendK l k))) ∧ Hid (w1.grownBy wr (some W0))) (fun _ i _ => 7 - (intOf i).toNat)
  case atStart => exact ⟨0, by omega, rfl, rfl, by show World.ownsRow _ _ _ _ _ _ _; simp only [Nat.add_zero]; unfold lendK; rw [List.replicate_zero, List.append_nil]; exact HOWN.out, grown_refl _ _⟩
  case round =>
    obtain ⟨k, hk, rfl, rfl, hown, hgr⟩ := hrel
    by_cases hlt : k < 7
    · have hbs : W0 < wr.heap.size := Nat.lt_of_lt_of_le hsz hgr.out.size
      have hmark : bv (lendK l (k + 1)) = bv (lendK l k) ++ [.int .u8 165] := by
        rw [lendK_succ, bv_append]; rfl
      have HM := Lib.hid hmark
      clear hmark
      go_wp2_with (at_builtin; refine wpList_append_fits _ rfl _ _ 27 rfl W0 5 i0 1 Tryd.underlying27 hi hz1 W0 (n + k) (n + 7) (bv (lendK l k)) rfl (hown.out.alloc _) ⟨wr.heap.size, 0, none⟩ 1 1 [.int .u8 165] rfl rfl (World.news_of_block (cs := #[.int .u8 165]) (t := 5) (fr := (0, 0)) (heap_alloc_new wr _)) (by intro u hu; simp at hu; subst hu; rfl) (by omega) ?_; intro w2 hown2 hgrow2)
      have ho3 := Lib.hid (hown2)
      have hg3 := Lib.hid (hgr.out.trans ((World.grownBy_alloc wr _ _).trans hgrow2))
      clear hown2 hgrow2
      go_wp2_with fail
      go_roundw
      case rel => exact ⟨k + 1, by omega, by go_num, by rw [Nat.add_assoc], by show World.ownsRow _ _ _ _ _ _ _; rw [HM.out, ← Nat.add_assoc]; exact ho3.out, hg3⟩
      case measure => simp [intOf]; omega
    · obtain rfl : k = 7 := by omega
      have n1 : (0 : Int) ≤ (n : Int) := by omega
      have n2 : (n : Int) ≤ (n : Int) + 7 := by omega
      have hrow := ownB_of_row hown.out (by rw [lendK_len, HLN.out])
      have HROW := Lib.hid hrow
      clear hrow hown
      go_wp2_with fail
      go_ret
      exact ⟨W0, rfl, HROW.out.1, by have := HW0.out; omega, HBE.out.grown hgr.out HBE.out.size (fun k e => by cases e; have := HW0.out; omega)⟩

set_option maxRecDepth 100000 in
set_option maxHeartbeats 4000000 in
theorem back16 (g : Nat) (a : Option Addr) (cap : Nat) (l : List UInt8) (w : World) (hO : IsOwnB w g (lendK l 7)) (hB : IsBytes w a cap l) (hl : l.length ≤ 100000000) :
    Calls Tryd.prog 16 #[.slice (some ⟨g, 0, none⟩) l.length (l.length + 7), .slice a l.length cap] w fun e w' => e = .returned (.bool true) ∧ w.grownBy w' (some g) := by
  have HO := Lib.hid hO
  have HBY : Hid (IsBytes w (some ⟨g, 0, none⟩) (l.length + 7) l) := by
    have h1 : IsOwnB w g l := by unfold lendK at hO; exact hO.take
    exact h1.bytes (by omega) (by omega)
  have HB := Lib.hid hB
  obtain ⟨n, hn⟩ : ∃ n, l.length = n := ⟨_, rfl⟩
  have HLN := Lib.hid hn
  have HE : Hid (∀ w', IsBytes w' (some ⟨g, 0, none⟩) (n + 7) l → IsBytes w' a cap l → Calls Tryd.prog 11 #[.slice (some ⟨g, 0, none⟩) n (n + 7), .slice a n cap] w' fun e w'' => e = .returned (.bool true) ∧ ∃ k, w'.drewN k = w'') := fun w' h1 h2 => by
    subst hn
    exact eq11 (some ⟨g, 0, none⟩) (l.length + 7) l a cap l true w' h1 h2 (by simp) (by omega)
  rw [hn] at hl HBY ⊢
  clear hO hB hn
  have n1 : (0 : Int) ≤ (n : Int) + 7 := by omega
  have n2 : ((n : Int) + 7) ≤ ((n + 7 : Nat) : Int) := by omega
  go_enter Tryd.func16, Tryd.ntmps16
  go_upto_region 4 with (go_at_call 11; refine (HE.out _ HBY.out HB.out).mono ?_; rintro e w2 ⟨rfl, k0, rfl⟩)
  have HO2 : Hid (IsOwnB (w.drewN k0) g (lendK l 7)) := by show IsOwnB _ _ _; exact HO.out
  have hg2 : Hid (w.grownBy (w.drewN k0) (some g)) := grown_drewN _ _ _
  generalize w.drewN k0 = w2 at *
  clear n1 n2 HO HBY HB HE
  go_loop [5, 7] (fun o v => ∃ i : Nat, n ≤ i ∧ i ≤ n + 7 ∧ v = .int .i64 i ∧ o = .bool true) (fun _ v => n + 7 - (intOf v).toNat)
  case atStart => exact ⟨n, Nat.le_refl _, by omega, rfl, rfl⟩
  case round =>
    obtain ⟨i, hi1, hi2, rfl, rfl⟩ := hrel
    by_cases hlt : i < n + 7
    · have dc : w2.cell? ⟨g, i, none⟩ = some (.int .u8 165) := by
        have e : (lendK l 7)[i]? = some 165 := by
          unfold lendK
          rw [List.getElem?_append_right (by rw [HLN.out]; exact hi1), List.getElem?_replicate, if_pos (by rw [HLN.out]; omega)]
        exact (HO2.out.cell e).1
      have hltI : (i : Int) < ((n + 7 : Nat) : Int) := by omega
      go_wp2_with fail
      go_round
      case rel => exact ⟨i + 1, by omega, by omega, by go_num, rfl⟩
      case measure => simp [intOf]; omega
    · obtain rfl : i = n + 7 := by omega
      go_wp2_with fail
      go_loopw [8] (fun v wr => ∃ j : Nat, j ≤ n + 7 ∧ v = .int .i64 j ∧ ∃ C : List UInt8, Hid (C.length = n + 7) ∧ Hid (IsOwnB wr g C) ∧ Hid (w2.grownBy wr (some g))) (fun v _ => n + 7 - (intOf v).toNat)
      case atStart => exact ⟨0, Nat.zero_le _, rfl, _, by show _ = _; rw [lendK_len, HLN.out], HO2, grown_refl _ _⟩
      case round =>
        obtain ⟨j, hj, rfl, C, hlen, hown, hgr⟩ := hrel
        by_cases hjl : j < n + 7
        · obtain ⟨dc, df⟩ := hown.out.cell (List.getElem?_eq_getElem (show j < C.length by rw [hlen.out]; exact hjl))
          have hltI : (j : Int) < ((n + 7 : Nat) : Int) := by omega
          have HS := Lib.hid (hown.out.set (i := j) 90)
          have HG := Lib.hid (hgr.out.trans (grown_setCell wr ⟨g, j, none⟩ (.int .u8 90)))
          go_wp2_with fail
          go_roundw
          case rel => exact ⟨j + 1, by omega, by go_num, C.set j 90, by show _ = _; rw [List.length_set]; exact hlen.out, HS, HG⟩
          case measure => simp [intOf]; omega
        · go_wp2_with fail
          go_ret
          exact ⟨rfl, hg2.out.trans hgr.out⟩
end Go.Proofs.YtgpjpmadbepblaaDoor
