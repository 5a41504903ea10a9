/- MatchSorted, walked. Conditions: the bounds that each theorem names. -/
import Derived.Test.YtfniekdohidbiaaXr
import Derived.Test.YtfniekdohidbiaaXt
import Derived.Test.YtfniekdohidbiaaVg
import Derived.Test.YtfniekdohidbiaaOa
namespace Go.Proofs.Ytfniekdohidbiaa
open Go.RowKit Go.Bm Go.Sort
theorem infoT : (Try.prog.info? 4).map (fun i => (i.zero, i.size, i.bytes)) = some (some (.bool false), 1, 1) := by kernel_rfl
theorem sorted_facts {F : Nat → Bmp} {n : Nat} {l : List Nat} (h : Sorted F n l) : l.length = n ∧ (∀ i, i < n → l[i]! < n) ∧ (∀ i, i < n → l[i]! ∉ l.take i) ∧ ∀ i, 0 < i → i < n → ahead F l[i - 1]! l[i]! := by
  have hlen : l.length = n := by rw [h.1.length_eq, List.length_range]
  have hnd : l.Nodup := h.1.symm.nodup List.nodup_range
  refine ⟨hlen, fun i hi => ?_, fun i hi hm => ?_, fun i h0 hi => ?_⟩
  · rw [getElem!_pos l i (by omega)]
    exact List.mem_range.1 (h.1.mem_iff.1 (List.getElem_mem _))
  · rw [getElem!_pos l i (by omega)] at hm
    obtain ⟨j, hj, he⟩ := List.mem_iff_getElem.1 hm
    rw [List.length_take] at hj
    rw [List.getElem_take] at he
    have := (List.getElem_inj hnd).1 he
    omega
  · rw [getElem!_pos l i (by omega), getElem!_pos l (i - 1) (by omega)]
    exact (List.pairwise_iff_getElem.1 h.2) (i - 1) i (by omega) (by omega) (by omega)
/-- what has been seen, as it lies -/
def Seen (w : World) (g n : Nat) (l : List Nat) (i : Nat) : Prop := ∃ cur : Array Value, w.heap[g]? = some (.cells cur 4 (0, 0)) ∧ cur.size = n ∧ ∀ j, j < n → cur[j]? = some (.bool (decide (j ∈ l.take i)))
theorem Seen.below {w w' : World} {g n i : Nat} {l : List Nat} (h : Seen w g n l i) (hb : Below w.heap.size w w') : Seen w' g n l i := by
  obtain ⟨cur, hh, hc⟩ := h
  exact ⟨cur, (hb.block g (Array.getElem?_eq_some_iff.1 hh).1).trans hh, hc⟩
theorem Seen.cell {w : World} {g n i : Nat} {l : List Nat} (h : Seen w g n l i) {j : Nat} (hj : j < n) (hm : j ∉ l.take i) : w.cell? ⟨g, j, none⟩ = some (.bool false) ∧ w.frozen? ⟨g, j, none⟩ = false := by
  obtain ⟨cur, hh, _, hc⟩ := h
  exact ⟨by rw [Joins.cell_of_block hh, hc j hj, decide_eq_false hm], Joins.unfrozen_of_block hh _⟩
theorem Seen.set {w : World} {g n i : Nat} {l : List Nat} (h : Seen w g n l i) (hi : i < l.length) (hj : l[i]! < n) : Seen (w.setCell ⟨g, l[i]!, none⟩ (.bool true)) g n l (i + 1) := by
  obtain ⟨cur, hh, hs, hc⟩ := h
  refine ⟨_, Joins.block_setCell hh (i := l[i]!) _, by rw [Array.size_setIfInBounds]; exact hs, fun j hjn => ?_⟩
  have e1 : l.take (i + 1) = l.take i ++ [l[i]!] := by rw [List.take_add_one, getElem!_pos l i hi, List.getElem?_eq_getElem hi]; rfl
  rw [Array.getElem?_setIfInBounds, e1]
  by_cases e : l[i]! = j
  · rw [if_pos e, if_pos (by omega), decide_eq_true (by rw [← e]; simp)]
  · rw [if_neg e, hc j hjn]
    have hne : ¬ j = l[i]! := fun h => e h.symm
    have hiff : (j ∈ l.take i) ↔ (j ∈ l.take i ++ [l[i]!]) := by
      rw [List.mem_append, List.mem_singleton]
      exact ⟨Or.inl, fun h => h.elim id (fun h => absurd h hne)⟩
    rw [decide_eq_decide.2 hiff]
set_option maxHeartbeats 2000000 in
set_option maxRecDepth 100000 in
theorem sorted_walk (a : Option Addr) (n cap : Nat) (F : Nat → Bmp) (w : World) (hL : IsBms w a n cap F) (hn : n ≤ 9223372036854775807) :
    Calls Try.prog 7 #[.slice a n cap] w fun e w' => e = .returned (.bool true) ∧ Below w.heap.size w w' := by
  have HL := Lib.hid hL
  clear hL
  go_enter Try.func7, Try.ntmps7
  go_upto_region 3 with (first
    | (go_at_call 23; refine (may23 a n cap F w HL.out hn).mono ?_; rintro e w1 ⟨b, rfl, hb1, hmay⟩)
    | (go_at_call 11; refine (wakes11 _).mono ?_; rintro e w2 ⟨rfl, hb2⟩))
  · go_ret
    exact ⟨rfl, below_then hb1 hb2 (Nat.le_refl _)⟩
  · have hb' : b = true := by first | assumption | (simp_all; done)
    obtain ⟨hok, hn40, _⟩ := hmay.1 hb'
    have HB1 := Lib.hid hb1
    have HOK := Lib.hid hok
    clear hmay hb' hb1 hok
    have hmk := fun W1 => run_make_row' (P := Try.prog) 52 4 (.bool false) 1 Try.underlying52 infoT rfl .i64 .i64 n (by omega) (by omega) W1
    by_cases h0 : n = 0
    · subst h0
      have hmk0 : ∀ W1, (Instr.makeSlice 52 (.int .i64 0) (.int .i64 0)).run Try.prog W1 = .ok (.slice (some ⟨W1.heap.size, 0, none⟩) 0 0) (W1.alloc (.cells (madeCells #[.bool false] 0) 4)) := hmk
      clear hmk
      go_wp2_with (go_at_call 20; refine (order20_none a cap w1).mono ?_; rintro e w3 ⟨rfl, hb3⟩)
      refine wp_loop_rounds 1 ?_
      rw [rounds_succ]
      go_wp2_with (go_at_call 11; refine (wakes11 _).mono ?_; rintro e w5 ⟨rfl, hb5⟩)
      go_ret
      exact ⟨rfl, below_then HB1.out (below_then (below_then hb3 ((Below.refl _ _).alloc (Nat.le_refl _) _) (Nat.le_refl _)) hb5 (Nat.le_refl _)) (Nat.le_refl _)⟩
    · obtain ⟨b, off, rfl⟩ : ∃ b off, a = some ⟨b, off, none⟩ := by
        rcases HL.out with h | ⟨b, off, h, _⟩
        · omega
        · exact ⟨b, off, h⟩
      have HO20 := Lib.hid (order20 b off n cap F w1 (HL.out.below HB1.out) (by omega) (by omega) HOK.out)
      go_upto_region 6 with (go_at_call 20; refine HO20.out.mono ?_; rintro e w3 ⟨g, c', l, rfl, hs, hi, hb3⟩)
      obtain ⟨s1, s2, s3, s4⟩ := sorted_facts hs
      have HS2 := Lib.hid s2
      have HS3 := Lib.hid s3
      have HS4 := Lib.hid s4
      have HI3 := Lib.hid hi
      have HB3 := Lib.hid (below_then HB1.out hb3 (Nat.le_refl _))
      clear hs s2 s3 s4 hi hb3 HO20
      go_upto_region 7 with fail
      have hseen : Seen (w3.alloc (.cells (madeCells #[.bool false] n) 4)) w3.heap.size n l 0 := by
        refine ⟨madeCells #[.bool false] n, heap_alloc_new w3 _, ?_, fun j hj => ?_⟩
        · rw [← Array.length_toList, toList_madeCells_one, List.length_replicate]
        · rw [← Array.getElem?_toList, toList_madeCells_one, List.getElem?_replicate, if_pos hj]
          simp
      have hba : Below w3.heap.size w3 (w3.alloc (.cells (madeCells #[.bool false] n) 4)) := (Below.refl _ _).alloc (Nat.le_refl _) _
      have HI4 := Lib.hid (HI3.out.below hba)
      have HB4 := Lib.hid (below_then HB3.out hba (Nat.le_refl _))
      obtain ⟨gs, hgs⟩ : ∃ gs, w3.heap.size = gs := ⟨_, rfl⟩
      have hgw : w.heap.size ≤ gs := by rw [← hgs]; exact HB3.out.size
      have hgg : g ≠ gs := by
        rcases HI3.out with h | ⟨g', o', he, _, _, hg, _⟩
        · omega
        · cases he; omega
      rw [hgs] at hseen ⊢
      have HSEEN := Lib.hid hseen
      clear hseen hgs hba HI3 HB3 hmk
      generalize w3.alloc (.cells (madeCells #[.bool false] n) 4) = w4 at *
      go_wp2_with fail
      go_loopw [6] (fun v wr => ∃ i : Nat, i ≤ n ∧ v = .int .i64 i ∧ Hid (Seen wr gs n l i) ∧ Hid (IsInts wr (some ⟨g, 0, none⟩) n c' (fun i => (l[i]! : Nat))) ∧ Hid (Below w.heap.size w wr)) (fun v _ => n - (intOf v).toNat)
      case atStart => exact ⟨0, Nat.zero_le _, rfl, HSEEN, HI4, HB4⟩
      case round =>
        obtain ⟨i, hi1, rfl, hseen, hints, hbel⟩ := hrel
        by_cases hlt : i < n
        · obtain ⟨x, hx⟩ : ∃ x, l[i]! = x := ⟨_, rfl⟩
          have hxn : x < n := by rw [← hx]; exact HS2.out i hlt
          obtain ⟨sc, sf⟩ := hseen.out.cell (j := x) hxn (by rw [← hx]; exact HS3.out i hlt)
          rcases hints.out with h | ⟨g', o', he, _, _, hgl, hcell⟩
          · omega
          cases he
          have oc : wr.cell? ⟨g, i, none⟩ = some (.int .i64 (x : Int)) := by have : wr.cell? ⟨g, 0 + i, none⟩ = some (.int .i64 ((l[i]! : Nat) : Int)) := hcell i hlt; rwa [Nat.zero_add, hx] at this
          have hset := hseen.out.set (i := i) (by omega) (by rw [hx]; exact hxn)
          rw [hx] at hset
          have HSET := Lib.hid hset
          have hocell : ∀ j v, wr.cell? ⟨g, j, none⟩ = some v → (wr.setCell ⟨gs, x, none⟩ (.bool true)).cell? ⟨g, j, none⟩ = some v := fun j v h => grown_cell (q := ⟨g, j, none⟩) (grown_setCell wr ⟨gs, x, none⟩ (.bool true)) (by simpa using hgg) h
          have HIN : Hid (IsInts (wr.setCell ⟨gs, x, none⟩ (.bool true)) (some ⟨g, 0, none⟩) n c' (fun i => (l[i]! : Nat))) := hints.out.other (fun g' o' e => by cases e; exact hgg) _ _
          have HBS : Hid (Below w.heap.size w (wr.setCell ⟨gs, x, none⟩ (.bool true))) := hbel.out.setCell hgw _
          have hx0 : (0 : Int) ≤ (x : Int) := by omega
          have hxi : (x : Int) < (n : Int) := by omega
          by_cases hi0 : i = 0
          · subst hi0
            clear hset hocell hcell
            go_wp2_with fail
            go_roundw
            case rel => exact ⟨1, by omega, by go_num, HSET, HIN, HBS⟩
            case measure => simp [intOf]; omega
          · obtain ⟨y, hy⟩ : ∃ y, l[i - 1]! = y := ⟨_, rfl⟩
            obtain ⟨t, ht⟩ : ∃ t, i = t + 1 := ⟨i - 1, by omega⟩
            have hyn : y < n := by rw [← hy]; exact HS2.out (i - 1) (by omega)
            have oc' := hocell i _ oc
            have op' : (wr.setCell ⟨gs, x, none⟩ (.bool true)).cell? ⟨g, t, none⟩ = some (.int .i64 (y : Int)) := by
              have : wr.cell? ⟨g, 0 + t, none⟩ = some (.int .i64 ((l[t]! : Nat) : Int)) := hcell t (by omega)
              rw [Nat.zero_add] at this
              have e : l[t]! = y := by rw [← hy, ht]; rfl
              rw [e] at this
              exact hocell t _ this
            have hah := HS4.out i (by omega) hlt
            rw [hx, hy] at hah
            have HAH := Lib.hid hah
            rcases HL.out with h | ⟨b', o', he, _, _, hbl, hrow⟩
            · omega
            cases he
            obtain ⟨u0, u1, u2, _⟩ := hrow x hxn
            obtain ⟨v0, v1, v2, _⟩ := hrow y hyn
            have u0 := (HBS.out.cell (p := ⟨b, off + x * 3, none⟩) hbl).trans u0
            have u1 := (HBS.out.cell (p := ⟨b, off + x * 3 + 1, none⟩) hbl).trans u1
            have u2 := (HBS.out.cell (p := ⟨b, off + x * 3 + 2, none⟩) hbl).trans u2
            have v0 := (HBS.out.cell (p := ⟨b, off + y * 3, none⟩) hbl).trans v0
            have v1 := (HBS.out.cell (p := ⟨b, off + y * 3 + 1, none⟩) hbl).trans v1
            have v2 := (HBS.out.cell (p := ⟨b, off + y * 3 + 2, none⟩) hbl).trans v2
            have e2 : IntKind.i64.wrap ((i : Int) - 1) = t := by
              have e1 : (i : Int) - 1 = t := by omega
              rw [e1]; exact IntWalk.i64_in _ (by omega)
            have e3 : wrap64 ((i : Int) - 1) = t := by rw [w64_in _ (by omega)]; omega
            have hti : (t : Int) < (n : Int) := by omega
            have hyi : (y : Int) < (n : Int) := by omega
            have hi0' : ((i : Int) == 0) = false := by simp; omega
            have HTI := Lib.hid ht
            clear hrow hcell hocell hset hah ht
            go_upto_region 14 with fail
            clear oc sc sf hseen hints hbel
            generalize wr.setCell ⟨gs, x, none⟩ (.bool true) = wb at *
            go_upto_region 15 with fail
            have hk6 : (wb.alloc (.cells #[.int .i64 (F y).W, .int .i64 (F y).H, .slice (F y).a (F y).n (F y).cap] 48)).heap[wb.heap.size]? = some (.cells #[.int .i64 (F y).W, .int .i64 (F y).H, .slice (F y).a (F y).n (F y).cap] 48 (0, 0)) := heap_alloc_new wb _
            have hbx : Below wb.heap.size wb (wb.alloc (.cells #[.int .i64 (F y).W, .int .i64 (F y).H, .slice (F y).a (F y).n (F y).cap] 48)) := (Below.refl _ _).alloc (Nat.le_refl _) _
            have oc3 := keep_cell hbx oc'
            have op3 := keep_cell hbx op'
            have u0 := keep_cell hbx u0
            have u1 := keep_cell hbx u1
            have u2 := keep_cell hbx u2
            have HSET2 := Lib.hid (HSET.out.below hbx)
            have HIN2 := Lib.hid (HIN.out.below hbx)
            have HBS2 := Lib.hid (below_then HBS.out hbx (Nat.le_refl _))
            obtain ⟨q6, hq6⟩ : ∃ q6, wb.heap.size = q6 := ⟨_, rfl⟩
            rw [hq6] at hk6 ⊢
            have K6 := Lib.hid hk6
            clear hk6 hbx hq6 v0 v1 v2 oc' op' HSET HIN HBS
            generalize wb.alloc (.cells #[.int .i64 (F y).W, .int .i64 (F y).H, .slice (F y).a (F y).n (F y).cap] 48) = X1 at *
            go_upto_region 16 with fail
            have hk7 : (X1.alloc (.cells #[.int .i64 (F x).W, .int .i64 (F x).H, .slice (F x).a (F x).n (F x).cap] 48)).heap[X1.heap.size]? = some (.cells #[.int .i64 (F x).W, .int .i64 (F x).H, .slice (F x).a (F x).n (F x).cap] 48 (0, 0)) := heap_alloc_new X1 _
            have hbx : Below X1.heap.size X1 (X1.alloc (.cells #[.int .i64 (F x).W, .int .i64 (F x).H, .slice (F x).a (F x).n (F x).cap] 48)) := (Below.refl _ _).alloc (Nat.le_refl _) _
            have oc3 := keep_cell hbx oc3
            have op3 := keep_cell hbx op3
            have hk6 := grown_block_lt (grown_of_below hbx none) K6.out (by simp)
            have HSET3 := Lib.hid (HSET2.out.below hbx)
            have HIN3 := Lib.hid (HIN2.out.below hbx)
            have HBS3 := Lib.hid (below_then HBS2.out hbx (Nat.le_refl _))
            obtain ⟨q7, hq7⟩ : ∃ q7, X1.heap.size = q7 := ⟨_, rfl⟩
            rw [hq7] at hk7 ⊢
            clear hbx hq7 u0 u1 u2 HSET2 HIN2 HBS2 K6
            generalize X1.alloc (.cells #[.int .i64 (F x).W, .int .i64 (F x).H, .slice (F x).a (F x).n (F x).cap] 48) = X at *
            have a0 := (three_cells hk6).1
            have a1 := (three_cells hk6).2.1
            have b0 := (three_cells hk7).1
            have b1 := (three_cells hk7).2.1
            clear hk6 hk7
            have a0 : X.cell? ⟨q6, 0, none⟩ = some (.int .i64 (F y).W) := a0
            have a1 : X.cell? ⟨q6, 1, none⟩ = some (.int .i64 (F y).H) := a1
            have b0 : X.cell? ⟨q7, 0, none⟩ = some (.int .i64 (F x).W) := b0
            have b1 : X.cell? ⟨q7, 1, none⟩ = some (.int .i64 (F x).H) := b1
            rcases HAH.out with hH | ⟨hH, hW | ⟨hW, hidx⟩⟩
            · have k1 : decide ((F x).H < (F y).H) = false := by simp; omega
              have k2 : ((F y).H == (F x).H) = false := by simp; omega
              go_quiet (fail)
              have HSET4 := Lib.hid (HSET3.out.below (below_drewN (Below.refl _ _) nq))
              have HIN4 := Lib.hid (HIN3.out.below (below_drewN (Below.refl _ _) nq))
              have HBS4 := Lib.hid (below_drewN HBS3.out nq)
              go_wp2_with fail
              go_roundw
              case rel => exact ⟨i + 1, by omega, by go_num, HSET4, HIN4, HBS4⟩
              case measure => simp [intOf]; omega
            · rw [hH] at a1
              have k1 : decide ((F x).W < (F y).W) = false := by simp; omega
              have k2 : ((F y).W == (F x).W) = false := by simp; omega
              go_quiet (fail)
              have HSET4 := Lib.hid (HSET3.out.below (below_drewN (Below.refl _ _) nq))
              have HIN4 := Lib.hid (HIN3.out.below (below_drewN (Below.refl _ _) nq))
              have HBS4 := Lib.hid (below_drewN HBS3.out nq)
              go_wp2_with fail
              go_roundw
              case rel => exact ⟨i + 1, by omega, by go_num, HSET4, HIN4, HBS4⟩
              case measure => simp [intOf]; omega
            · rw [hH] at a1
              rw [hW] at a0
              have k1 : decide ((x : Int) < (y : Int)) = false := by simp; omega
              go_quiet (fail)
              have HSET4 := Lib.hid (HSET3.out.below (below_drewN (Below.refl _ _) nq))
              have HIN4 := Lib.hid (HIN3.out.below (below_drewN (Below.refl _ _) nq))
              have HBS4 := Lib.hid (below_drewN HBS3.out nq)
              go_wp2_with fail
              go_roundw
              case rel => exact ⟨i + 1, by omega, by go_num, HSET4, HIN4, HBS4⟩
              case measure => simp [intOf]; omega
        · obtain rfl : n = i := by omega
          go_wp2_with (go_at_call 11; refine (wakes11 _).mono ?_; rintro e w5 ⟨rfl, hb5⟩)
          go_ret
          exact ⟨rfl, below_then hbel.out hb5 (Nat.le_refl _)⟩
end Go.Proofs.Ytfniekdohidbiaa
