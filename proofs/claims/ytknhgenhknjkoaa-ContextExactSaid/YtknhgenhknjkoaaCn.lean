/- OverInts: a list that was told is written over. Conditions: the bounds that each theorem names. -/
import Derived.Test.YtknhgenhknjkoaaCm
namespace Go.Proofs.Ytknhgenhknjkoaa
open Go.RowKit Go.Bm

theorem grown_then {a b c : World} {row row' : Option Nat} (h : a.grownBy b row) (k : b.grownBy c row') (hr : ∀ j, row' = some j → a.heap.size ≤ j ∨ row = some j) : a.grownBy c row :=
  ⟨k.os.trans h.os, k.tape.trans h.tape, k.output.trans h.output, Nat.le_trans h.size k.size, fun i hi hne => by
    refine (k.block i (Nat.lt_of_lt_of_le hi h.size) (fun e => ?_)).trans (h.block i hi hne)
    rcases hr i e.symm with h1 | h1
    · omega
    · exact hne h1.symm⟩

set_option maxRecDepth 100000 in
set_option maxHeartbeats 4000000 in
theorem over_own (g n : Nat) (O : Nat → Nat) (w : World) (hO : w.heap[g]? = some (.cells (ivals O n) 3 (0, 0))) (hn : n ≤ 1048576) :
    Calls Try.prog 20 #[.slice (some ⟨g, 0, none⟩) n n] w fun e w' => e = .returned (.tuple #[]) ∧ w.grownBy w' (some g) := by
  obtain ⟨i0, hi, hz0, hz1, hz2⟩ := info_parts info3
  have HO := Lib.hid hO
  clear hO
  go_enter Try.func20, Try.ntmps20
  go_wp2_with fail
  go_loopw [2] (fun v wr => ∃ i : Nat, i ≤ n ∧ v = .int .i64 i ∧ ∃ cur : Array Value, Hid (wr.heap[g]? = some (.cells cur 3 (0, 0))) ∧ cur.size = n ∧ Hid (w.grownBy wr (some g))) (fun v _ => n - (intOf v).toNat)
  case atStart => exact ⟨0, Nat.zero_le _, rfl, _, HO, ivals_size _ _, grown_refl _ _⟩
  case round =>
    obtain ⟨i, hi1, rfl, cur, hh, hcs, hgr⟩ := hrel
    by_cases hlt : i < n
    · obtain ⟨v, hv⟩ : ∃ v, cur[i]? = some v := ⟨_, Array.getElem?_eq_getElem (show i < cur.size by omega)⟩
      have dc : wr.cell? ⟨g, i, none⟩ = some v := by rw [Joins.cell_of_block hh.out]; exact hv
      have df : wr.frozen? ⟨g, i, none⟩ = false := Joins.unfrozen_of_block hh.out _
      have HS : Hid ((wr.setCell ⟨g, i, none⟩ (.int .i64 (-99))).heap[g]? = some (.cells (cur.setIfInBounds i (.int .i64 (-99))) 3 (0, 0))) := Joins.block_setCell hh.out _
      have HG := Lib.hid (hgr.out.trans (grown_setCell wr ⟨g, i, none⟩ (.int .i64 (-99))))
      have hsz : (cur.setIfInBounds i (.int .i64 (-99))).size = n := by simp [hcs]
      have HSZ := Lib.hid hsz
      clear hcs hsz hv
      go_wp2_with fail
      go_roundw
      case rel => exact ⟨i + 1, by omega, by go_num, _, HS, HSZ.out, HG⟩
      case measure => simp [intOf]; omega
    · obtain rfl : i = n := by omega
      have hrow : wr.ownsRow 0 3 1 (.slice (some ⟨g, 0, none⟩) i i) i cur.toList := ⟨by simp [hcs], Or.inr ⟨g, i, cur, rfl, Nat.zero_le _, hh.out, Nat.le_refl _, by unfold maxLen; omega, by omega, by rw [List.take_of_length_le (by simp; omega)]⟩⟩
      have HROW := Lib.hid hrow
      have HCS := Lib.hid hcs
      clear hrow hcs
      go_upto_region 5 with (at_builtin; refine wpList_append_lies _ rfl _ _ 25 rfl 0 3 i0 (.int .i64 0) 1 8 Try.underlying25 hi hz0 hz1 hz2 rfl (by omega) (.slice (some ⟨g, 0, none⟩) i i) i cur.toList rfl (HROW.out.alloc _) ⟨wr.heap.size, 0, none⟩ 3 3 [.int .i64 1, .int .i64 2, .int .i64 3] rfl rfl (World.news_of_block (cs := #[.int .i64 1, .int .i64 2, .int .i64 3]) (t := 3) (fr := (0, 0)) (heap_alloc_new wr _)) (by simp [Value.oneCell']) (by omega) (by unfold maxLen; omega) (by omega) (Nat.zero_le _) (wr.heap.size + 1) (by simp) ?_; intro g2 cap2 w2 hown2 hgrow2 hat hlt2)
      obtain ⟨_, hform⟩ := hown2
      rcases hform with ⟨hx, _⟩ | ⟨g', cap', cur2, hx, _, hh2, _, _, _, ht⟩
      · cases hx
      · cases hx
        have e1 : cur2[i]? = some (.int .i64 1) := by
          have e2 : cur2.toList[i]? = (cur.toList ++ [.int .i64 1, .int .i64 2, .int .i64 3])[i]? := by rw [← ht, List.getElem?_take, if_pos (by omega)]
          rw [← Array.getElem?_toList, e2, List.getElem?_append_right (by simp [HCS.out])]
          simp [HCS.out]
        have dc : w2.cell? ⟨g2, i, none⟩ = some (.int .i64 1) := by rw [Joins.cell_of_block hh2]; exact e1
        have df : w2.frozen? ⟨g2, i, none⟩ = false := Joins.unfrozen_of_block hh2 _
        have hltI : (i : Int) < ((i + 3 : Nat) : Int) := by omega
        have hws : w.heap.size ≤ wr.heap.size := hgr.out.size
        have hg3 := hgr.out.trans ((World.grownBy_alloc wr (.cells #[.int .i64 1, .int .i64 2, .int .i64 3] 3) (some g)).trans hgrow2)
        have hg4 := grown_then hg3 (grown_setCell w2 ⟨g2, i, none⟩ (.int .i64 (-99))) (fun j e => by
          cases e
          rcases hat with h | h
          · right; exact h
          · left; show _ ≤ g2; omega)
        have HG := Lib.hid hg4
        clear e1 hh2 ht hat hlt2 hg3 hg4 hgrow2 hws
        go_wp2_with fail
        go_end0
        exact ⟨rfl, HG.out⟩

set_option maxRecDepth 100000 in
set_option maxHeartbeats 4000000 in
theorem over_nil (w : World) : Calls Try.prog 20 #[.slice none 0 0] w fun e w' => e = .returned (.tuple #[]) ∧ Below w.heap.size w w' := by
  obtain ⟨i0, hi, hz0, hz1, hz2⟩ := info_parts info3
  go_enter Try.func20, Try.ntmps20
  go_wp2_with fail
  go_loopw [2] (fun v wr => v = .int .i64 0 ∧ wr = w) (fun v _ => 0)
  case atStart => exact ⟨rfl, rfl⟩
  case round =>
    obtain ⟨rfl, rfl⟩ := hrel
    go_upto_region 5 with (at_builtin; refine wpList_append_lies _ rfl _ _ 25 rfl wr.heap.size 3 i0 (.int .i64 0) 1 8 Try.underlying25 hi hz0 hz1 hz2 rfl (by omega) (.slice none 0 0) 0 [] rfl (World.ownsRow_nil _ _ _ _) ⟨wr.heap.size, 0, none⟩ 3 3 [.int .i64 1, .int .i64 2, .int .i64 3] rfl rfl (World.news_of_block (cs := #[.int .i64 1, .int .i64 2, .int .i64 3]) (t := 3) (fr := (0, 0)) (heap_alloc_new wr _)) (by simp [Value.oneCell']) (by omega) (by unfold maxLen; omega) (by omega) (by simp) (wr.heap.size + 1) (by simp) ?_; intro g2 cap2 w2 hown2 hgrow2 hat hlt2)
    obtain ⟨_, hform⟩ := hown2
    rcases hform with ⟨hx, _⟩ | ⟨g', cap', cur2, hx, hgb, hh2, _, _, _, ht⟩
    · cases hx
    · cases hx
      have e1 : cur2[0]? = some (.int .i64 1) := by
        have e2 : cur2.toList[0]? = ([] ++ [.int .i64 1, .int .i64 2, .int .i64 3] : List Value)[0]? := by rw [← ht, List.getElem?_take, if_pos (by omega)]
        rw [← Array.getElem?_toList, e2]; rfl
      have dc : w2.cell? ⟨g2, 0, none⟩ = some (.int .i64 1) := by rw [Joins.cell_of_block hh2]; exact e1
      have df : w2.frozen? ⟨g2, 0, none⟩ = false := Joins.unfrozen_of_block hh2 _
      have hb := ((Below.refl wr.heap.size wr).alloc (Nat.le_refl _) (.cells #[.int .i64 1, .int .i64 2, .int .i64 3] 3)).grown hgrow2 (by simp) (fun q hq => by simp [Value.ownBlock] at hq)
      have HBL := Lib.hid hb
      have HGB := Lib.hid hgb
      clear e1 hh2 ht hat hlt2 hgrow2 hb hgb
      go_wp2_with fail
      go_end0
      exact ⟨rfl, HBL.out.setCell HGB.out _⟩
end Go.Proofs.Ytknhgenhknjkoaa
