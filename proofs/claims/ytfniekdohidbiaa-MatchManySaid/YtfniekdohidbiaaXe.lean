/- Bitmaps copied, a list of them: CopyBitmaps. Conditions: the bounds that each theorem names. -/
import Derived.Test.YtfniekdohidbiaaXd
namespace Go.Proofs.Ytfniekdohidbiaa
open Go.RowKit Go.Bm
theorem infoB : (Try.prog.info? 48).map (fun i => (i.zero, i.size, i.bytes)) = some (some (.agg #[.int .i64 0, .int .i64 0, .slice none 0 0]), 3, 40) := by kernel_rfl
theorem Lie.below {w w' : World} {base : Nat} {f : Bmp} (h : Lie w base f) (hb : Below w.heap.size w w') : Lie w' base f := by
  rcases h with h | ⟨g, h1, h2, h3, h4, h5⟩
  · exact Or.inl h
  · exact Or.inr ⟨g, h1, h2, h3, h4, h5.below hb⟩
theorem Lie.words {w : World} {base : Nat} {f : Bmp} (h : Lie w base f) : IsWords w f.a f.n f.cap f.B := by
  rcases h with h | ⟨g, h1, h2, h3, h4, h5⟩
  · exact Or.inl h
  · rw [h1]; exact h5.words h3 h4
theorem Lie.base {w : World} {base B : Nat} {f : Bmp} (h : Lie w base f) (hb : B ≤ base) : Lie w B f := by
  rcases h with h | ⟨g, h1, h2, h3⟩
  · exact Or.inl h
  · exact Or.inr ⟨g, h1, Nat.le_trans hb h2, h3⟩
theorem IsOwn.kept {w w' : World} {g n : Nat} {B : Nat → Nat} {row : Option Nat} (h : IsOwn w g n B) (hg : w.grownBy w' row) (hne : some g ≠ row) : IsOwn w' g n B := by
  have hl := h.lt
  obtain ⟨cur, hh, hc⟩ := h
  exact ⟨cur, (hg.block g hl hne).trans hh, hc⟩
/-- bitmaps in a row of the call's own, their words in blocks of the call's own (apart or not) -/
def LieBms (w : World) (base : Nat) (v : Value) (m : Nat) (R : Nat → Bmp) : Prop := w.ownsRow base 48 3 v m (cellsB R m) ∧ ∀ k, k < m → Lie w base (R k)
theorem LieBms.nil (w : World) (base : Nat) (R : Nat → Bmp) : LieBms w base (.slice none 0 0) 0 R := ⟨World.ownsRow_nil _ _ _ _, fun _ h => by omega⟩
theorem LieBms.below {w w' : World} {base m : Nat} {v : Value} {R : Nat → Bmp} (h : LieBms w base v m R) (hb : Below w.heap.size w w') : LieBms w' base v m R :=
  ⟨h.1.kept (grown_of_below hb none) (Classical.em _), fun k hk => (h.2 k hk).below hb⟩
theorem Lie.kept {w w' : World} {base : Nat} {f : Bmp} {row : Option Nat} (h : Lie w base f) (hg : w.grownBy w' row) (hrow : ∀ g, row = some g → g < base ∨ ∀ cur t fr, w.heap[g]? = some (.cells cur t fr) → t ≠ 48 ∧ t ≠ 23) : Lie w' base f := by
  rcases h with h | ⟨g, h1, h2, h3, h4, h5⟩
  · exact Or.inl h
  · refine Or.inr ⟨g, h1, h2, h3, h4, h5.kept hg fun e => ?_⟩
    rcases hrow g e.symm with h6 | h6
    · omega
    · obtain ⟨cur, hh, _⟩ := h5
      exact (h6 _ _ _ hh).2 rfl
theorem LieBms.kept {w w' : World} {base m : Nat} {v : Value} {R : Nat → Bmp} {row : Option Nat} (h : LieBms w base v m R) (hg : w.grownBy w' row)
    (hrow : ∀ g, row = some g → g < base ∨ ∀ cur t fr, w.heap[g]? = some (.cells cur t fr) → t ≠ 48 ∧ t ≠ 23) : LieBms w' base v m R := by
  refine ⟨h.1.kept hg ?_, fun k hk => (h.2 k hk).kept hg hrow⟩
  cases hu : v.ownBlock with
  | none => exact Or.inl rfl
  | some g =>
    refine Or.inr fun e => ?_
    rcases hrow g e.symm with h4 | h4
    · have := (h.1.lt g hu).1; omega
    · obtain ⟨c, hc⟩ := ownsRow_type h.1 hu
      exact (h4 _ _ _ hc).1 rfl
theorem LieBms.snoc {w1 w2 : World} {base m : Nat} {v v' : Value} {R : Nat → Bmp} {f : Bmp} (h : LieBms w1 base v m R) (hf : Lie w1 base f) (hg : w1.grownBy w2 v.ownBlock)
    (hown : w2.ownsRow base 48 3 v' (m + 1) (cellsB R m ++ f.vals.toList)) : LieBms w2 base v' (m + 1) (fun k => if k = m then f else R k) := by
  obtain ⟨h1, h2⟩ := h
  have no : ∀ {f : Bmp}, Lie w1 base f → Lie w2 base f := fun hk => by
    rcases hk with hk | ⟨g, k1, k2, k3, k4, k5⟩
    · exact Or.inl hk
    · refine Or.inr ⟨g, k1, k2, k3, k4, k5.kept hg fun e => ?_⟩
      obtain ⟨c, hc⟩ := ownsRow_type h1 e.symm
      obtain ⟨cur, hh, _⟩ := k5
      rw [hc] at hh
      simp at hh
  refine ⟨?_, fun k hk => ?_⟩
  · have e1 : cellsB (fun k => if k = m then f else R k) (m + 1) = cellsB R m ++ f.vals.toList := by
      show cellsB (fun k => if k = m then f else R k) m ++ (if m = m then f else R m).vals.toList = _
      rw [if_pos rfl, cellsB_congr (S := R) (fun k hk => if_neg (by omega))]
    rw [e1]; exact hown
  · show Lie w2 base (if k = m then f else R k)
    by_cases e : k = m
    · rw [if_pos e]; exact no hf
    · rw [if_neg e]; exact no (h2 k (by omega))
theorem LieBms.is {w : World} {base m : Nat} {v : Value} {R : Nat → Bmp} (h : LieBms w base v m R) : ∃ p cap, v = .slice p m cap ∧ IsBms w p m cap R := by
  obtain ⟨p, cap, hv, hform⟩ := ownsRow_slice h.1
  refine ⟨p, cap, hv, ?_⟩
  rcases hform with h0 | ⟨g, cur, rfl, _, hg, hn, hc, hh, hs, ht⟩
  · exact Or.inl h0
  · refine Or.inr ⟨g, 0, rfl, hn, hc, hg, fun i hi => ?_⟩
    have hc : ∀ j, j < 3 → w.cell? ⟨g, 0 + i * 3 + j, none⟩ = (R i).vals[j]? := by
      intro j hj
      have e2 : cur.toList[i * 3 + j]? = (cellsB R m)[i * 3 + j]? := by rw [← ht, List.getElem?_take, if_pos (by omega)]
      rw [Joins.cell_of_block hh, Nat.zero_add, ← Array.getElem?_toList, e2, cellsB_get R m i j hi hj]
    exact ⟨hc 0 (by omega), hc 1 (by omega), hc 2 (by omega), (h.2 i hi).words⟩
set_option maxHeartbeats 2000000 in
set_option maxRecDepth 100000 in
theorem copies13 (a : Option Addr) (n cap : Nat) (F : Nat → Bmp) (w : World) (hA : IsBms w a n cap F) (hn : n ≤ 1048576) (hF : ∀ k, k < n → (F k).n ≤ 17179869184) :
    Calls Try.prog 13 #[.slice a n cap] w fun e w' => ∃ v R, e = .returned v ∧ LieBms w' w.heap.size v n R ∧ (∀ k, k < n → (R k).like (F k)) ∧ Below w.heap.size w w' := by
  obtain ⟨i0, hi, hz0, hz1, hz2⟩ := info_parts infoB
  have HA := Lib.hid hA
  have HF := Lib.hid hF
  clear hA hF
  obtain ⟨W0, hW0⟩ : ∃ W0, w.heap.size = W0 := ⟨_, rfl⟩
  rw [hW0]
  have HW0 := Lib.hid hW0
  clear hW0
  go_enter Try.func13, Try.ntmps13
  go_wp2_with fail
  go_loopw [3, 4] (fun v i wr => ∃ k : Nat, k ≤ n ∧ i = .int .i64 k ∧ ∃ R, Hid (LieBms wr W0 v k R) ∧ Hid (∀ j, j < k → (R j).like (F j)) ∧ Hid (Below W0 w wr)) (fun _ i _ => n - (intOf i).toNat)
  case atStart => exact ⟨0, Nat.zero_le _, rfl, F, LieBms.nil _ _ _, fun j hj => by omega, Below.refl _ _⟩
  case round =>
    obtain ⟨k, hk, rfl, R, hlie, hlike, hbel⟩ := hrel
    by_cases hlt : k < n
    · rcases HA.out with h0 | ⟨b1, o1, rfl, l1, l2, l3, hc1⟩
      · omega
      · obtain ⟨q0, q1, q2, q3⟩ := hc1 k hlt
        rw [HW0.out] at l3
        have q0 := (hbel.out.cell (p := ⟨b1, o1 + k * 3, none⟩) l3).trans q0
        have q1 := (hbel.out.cell (p := ⟨b1, o1 + k * 3 + 1, none⟩) l3).trans q1
        have q2 := (hbel.out.cell (p := ⟨b1, o1 + k * 3 + 2, none⟩) l3).trans q2
        have Q3 := Lib.hid (q3.below (w' := wr) (by rw [HW0.out]; exact hbel.out))
        clear hc1 q3
        go_upto_region 4 with (first
          | (go_at_call 28; refine (copy28 (F k) _ Q3.out (HF.out k hlt)).mono ?_; rintro e w3 ⟨g, rfl, hlk, hl, hb3⟩; have HL3 := Lib.hid (hlie.out.below hb3); have HG3 := Lib.hid (hl.base (by have := hbel.out.size; rw [HW0.out] at this; exact this)); have HB3 := Lib.hid (below_then hbel.out hb3 (Nat.le_of_eq HW0.out.symm)); have HLK := Lib.hid hlk; have hb4 : W0 ≤ w3.heap.size := (by have := HB3.out.size; rw [HW0.out] at this; exact this); clear hlie hl hb3 hlk hbel)
          | (at_builtin; go_loud (refine wpList_append_own_at _ rfl _ _ 22 rfl W0 48 i0 _ 3 40 Try.underlying22 hi hz0 hz1 hz2 rfl (by decide) u3 k (cellsB R k) rfl (HL3.out.1.alloc _) ⟨w3.heap.size, 0, none⟩ 1 1 g.vals.toList rfl rfl (World.news_of_block (cs := g.vals) (t := 48) (fr := (0, 0)) (heap_alloc_new w3 _)) (cellsB_one (fun _ => g) 0) (by unfold maxLen; omega) (by omega) (by simp; omega) ?_; intro v' w4 hown4 hgrow4 _ _)))
        have HL4 := Lib.hid (LieBms.snoc (HL3.out.below ((Below.refl _ w3).alloc (Nat.le_refl _) _)) (HG3.out.below ((Below.refl _ w3).alloc (Nat.le_refl _) _)) hgrow4 hown4)
        have HB4 := Lib.hid (Below.grown (HB3.out.alloc hb4 _) hgrow4 (Nat.le_trans hb4 (by simp)) (fun z hz => row_ge HL3.out.1 z hz))
        clear hown4 hgrow4
        go_wp2_with fail
        go_roundw
        case rel => exact ⟨k + 1, by omega, by go_num, _, HL4, fun j hj => by
          by_cases e : j = k
          · subst e
            show Bmp.like (if j = j then g else R j) (F j)
            rw [if_pos rfl]; exact HLK.out
          · show Bmp.like (if j = k then g else R j) (F j)
            rw [if_neg e]; exact hlike.out j (by omega), HB4⟩
        case measure => simp [intOf]; omega
    · obtain rfl : n = k := by omega
      obtain ⟨p, c, hv, _⟩ := hlie.out.is
      subst hv
      go_wp2_with fail
      go_ret
      exact ⟨_, R, rfl, hlie.out, hlike.out, hbel.out⟩
end Go.Proofs.Ytfniekdohidbiaa
