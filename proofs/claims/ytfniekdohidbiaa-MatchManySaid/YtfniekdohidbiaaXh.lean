/- OverBitmaps. Conditions: the bounds that each theorem names. -/
import Derived.Test.YtfniekdohidbiaaXg
namespace Go.Proofs.Ytfniekdohidbiaa
open Go.RowKit Go.Bm
theorem cellsB_vals {R S : Nat → Bmp} {m : Nat} (h : ∀ k, k < m → (R k).vals = (S k).vals) : cellsB R m = cellsB S m := by
  induction m with
  | zero => rfl
  | succ m ih => unfold cellsB; rw [ih (fun k hk => h k (by omega)), h m (by omega)]
def setW (f : Bmp) (k x : Nat) : Bmp := { f with B := fun t => if t = k then x else f.B t }
theorem OwnBits.cell {w : World} {base : Nat} {f : Bmp} (h : OwnBits w base f) : ∃ g, f.a = some ⟨g, 0, none⟩ ∧ base ≤ g ∧ g < w.heap.size ∧ ∀ k, k < f.n → w.cell? ⟨g, k, none⟩ = some (.int .u64 (f.B k : Nat)) ∧ w.frozen? ⟨g, k, none⟩ = false := by
  obtain ⟨g, h1, h2, h3, h4, h5, h6, cur, hh, hs, ht⟩ := h.blk
  refine ⟨g, h1, h3, h4, fun k hk => ⟨?_, Joins.unfrozen_of_block hh _⟩⟩
  have e2 : cur.toList[k]? = (wvals f.B f.n)[k]? := by rw [← ht, List.getElem?_take, if_pos (by omega)]
  rw [Joins.cell_of_block hh, ← Array.getElem?_toList, e2, wvals_get _ _ _ hk]
theorem OwnBits.set {w : World} {base g : Nat} {f : Bmp} (h : OwnBits w base f) (hg : f.a = some ⟨g, 0, none⟩) (k x : Nat) (hk : k < f.n) (hx : x < 2 ^ 64) : OwnBits (w.setCell ⟨g, k, none⟩ (.int .u64 (x : Nat))) base (setW f k x) := by
  obtain ⟨g', h1, h2, h3, h4, h5, h6, cur, hh, hs, ht⟩ := h.blk
  rw [hg] at h1
  cases h1
  refine ⟨h.1, ⟨by rw [wvals_length]; show f.n = f.n * 1; omega, Or.inr ⟨g, f.cap, cur.setIfInBounds k (.int .u64 (x : Nat)), ?_, h3, Joins.block_setCell hh (i := k) _, h5, by unfold maxLen; omega, by rw [Array.size_setIfInBounds]; exact hs, ?_⟩⟩, fun i hi => ?_⟩
  · show Value.slice f.a f.n f.cap = _
    rw [hg]; rfl
  · show (cur.setIfInBounds k (.int .u64 (x : Nat))).toList.take (f.n * 1) = wvals (fun t => if t = k then x else f.B t) f.n
    apply List.ext_getElem?
    intro i
    have hi0 : cur.toList[i]? = if i < f.n then (wvals f.B f.n)[i]? else cur.toList[i]? := by
      split
      · rw [← ht, List.getElem?_take, if_pos (by omega)]
      · rfl
    rw [List.getElem?_take]
    by_cases hi : i < f.n
    · rw [if_pos (by omega), wvals_get _ _ _ hi, Array.toList_setIfInBounds, List.getElem?_set]
      by_cases e : k = i
      · subst e
        rw [if_pos rfl, if_pos (by rw [Array.length_toList, hs]; omega), if_pos rfl]
      · rw [if_neg e, hi0, if_pos hi, wvals_get _ _ _ hi, if_neg (fun h => e h.symm)]
    · rw [if_neg (by omega), List.getElem?_eq_none]
      rw [wvals_length]; omega
  · show (if i = k then x else f.B i) < 2 ^ 64
    split
    · exact hx
    · exact h.2.2 i hi
theorem OwnBms.set {w : World} {base m g : Nat} {v : Value} {R : Nat → Bmp} (h : OwnBms w base v m R) {i : Nat} (hi : i < m) (hg : (R i).a = some ⟨g, 0, none⟩) (k x : Nat) (hk : k < (R i).n) (hx : x < 2 ^ 64) :
    OwnBms (w.setCell ⟨g, k, none⟩ (.int .u64 (x : Nat))) base v m (fun j => if j = i then setW (R i) k x else R j) := by
  obtain ⟨h1, h2, h3⟩ := h
  have hb : (R i).bits.ownBlock = some g := by unfold Bmp.bits; rw [hg]; rfl
  have hv : ∀ j, (if j = i then setW (R i) k x else R j).vals = (R j).vals := fun j => by
    by_cases e : j = i
    · subst e; rw [if_pos rfl]; rfl
    · rw [if_neg e]
  have hbits : ∀ j, (if j = i then setW (R i) k x else R j).bits = (R j).bits := fun j => by
    by_cases e : j = i
    · subst e; rw [if_pos rfl]; rfl
    · rw [if_neg e]
  refine ⟨?_, fun j hj => ?_, fun j l hj hl hjl => ?_⟩
  · rw [cellsB_vals (S := R) (fun j _ => hv j)]
    refine h1.kept (grown_setCell _ _ _) ?_
    have := ownsRow_apart h1 (h2 i hi).2.1 (by decide)
    rwa [hb] at this
  · show OwnBits _ base (if j = i then setW (R i) k x else R j)
    by_cases e : j = i
    · subst e
      rw [if_pos rfl]
      exact (h2 j hj).set hg k x hk hx
    · rw [if_neg e]
      exact (h2 j hj).kept (grown_setCell _ _ _) (by have := h3 j i hj hi e; rwa [hb] at this)
  · show (if j = i then setW (R i) k x else R j).bits.ownBlock ≠ (if l = i then setW (R i) k x else R l).bits.ownBlock
    rw [hbits, hbits]
    exact h3 j l hj hl hjl
/-- behind an append to the words of one bitmap, which leaves them as they were -/
theorem OwnBms.appended {w w' : World} {base m : Nat} {v : Value} {R : Nat → Bmp} (h : OwnBms w base v m R) {i : Nat} (hi : i < m) (hg : w.grownBy w' (R i).bits.ownBlock) (hk : w'.ownsRow base 23 1 (R i).bits (R i).n (wvals (R i).B (R i).n)) : OwnBms w' base v m R := by
  obtain ⟨h1, h2, h3⟩ := h
  refine ⟨h1.kept hg (ownsRow_apart h1 (h2 i hi).2.1 (by decide)), fun j hj => ?_, h3⟩
  by_cases e : j = i
  · subst e; exact ⟨(h2 j hj).1, hk, (h2 j hj).2.2⟩
  · exact (h2 j hj).kept hg (h3 j i hj hi e)
theorem OwnBms.other {w : World} {base m g : Nat} {v : Value} {R : Nat → Bmp} (h : OwnBms w base v m R) (h1 : v.ownBlock ≠ some g) (h2 : ∀ j, j < m → (R j).bits.ownBlock ≠ some g) (k : Nat) (u : Value) : OwnBms (w.setCell ⟨g, k, none⟩ u) base v m R :=
  ⟨h.1.kept (grown_setCell _ _ _) (Or.inr h1), fun j hj => (h.2.1 j hj).kept (grown_setCell _ _ _) (h2 j hj), h.2.2⟩
/-- a store behind the words of one -/
theorem OwnBms.beyond {w : World} {base m g : Nat} {v : Value} {R : Nat → Bmp} (h : OwnBms w base v m R) {i : Nat} (hi : i < m) (hg : (R i).bits.ownBlock = some g) (k : Nat) (u : Value) (hk : (R i).n ≤ k) : OwnBms (w.setCell ⟨g, k, none⟩ u) base v m R := by
  obtain ⟨h1, h2, h3⟩ := h
  refine ⟨h1.kept (grown_setCell _ _ _) (by have := ownsRow_apart h1 (h2 i hi).2.1 (by decide); rwa [hg] at this), fun j hj => ?_, h3⟩
  by_cases e : j = i
  · subst e
    obtain ⟨g', k1, k2, k3, k4, k5, k6, cur, hh, hs, ht⟩ := (h2 j hj).blk
    rw [hg] at k2
    cases k2
    refine ⟨(h2 j hj).1, ⟨by rw [wvals_length]; omega, Or.inr ⟨g, (R j).cap, cur.setIfInBounds k u, by unfold Bmp.bits; rw [k1], k3, Joins.block_setCell hh (i := k) _, k5, by unfold maxLen; omega, by rw [Array.size_setIfInBounds]; exact hs, ?_⟩⟩, (h2 j hj).2.2⟩
    rw [← ht, Array.toList_setIfInBounds, List.take_set_of_le (by omega)]
  · exact (h2 j hj).kept (grown_setCell _ _ _) (by have := h3 j i hj hi e; rwa [hg] at this)
/-- the three cells of one -/
theorem OwnBms.cells {w : World} {base m : Nat} {v : Value} {R : Nat → Bmp} (h : OwnBms w base v m R) (h0 : 0 < m) : ∃ G cap, v = .slice (some ⟨G, 0, none⟩) m cap ∧ base ≤ G ∧ G < w.heap.size ∧ m ≤ cap ∧ cap ≤ 9223372036854775807 ∧
    ∀ i, i < m → w.cell? ⟨G, i * 3, none⟩ = some (.int .i64 (R i).W) ∧ w.cell? ⟨G, i * 3 + 1, none⟩ = some (.int .i64 (R i).H) ∧ w.cell? ⟨G, i * 3 + 2, none⟩ = some (.slice (R i).a (R i).n (R i).cap) := by
  obtain ⟨p, cap, hv, hform⟩ := ownsRow_slice h.1
  rcases hform with h1 | ⟨g, cur, rfl, hb, hg, hn, hc, hh, hs, ht⟩
  · omega
  · refine ⟨g, cap, hv, hb, hg, hn, hc, fun i hi => ?_⟩
    have hc : ∀ j, j < 3 → w.cell? ⟨g, i * 3 + j, none⟩ = (R i).vals[j]? := by
      intro j hj
      have e2 : cur.toList[i * 3 + j]? = (cellsB R m)[i * 3 + j]? := by rw [← ht, List.getElem?_take, if_pos (by omega)]
      rw [Joins.cell_of_block hh, ← Array.getElem?_toList, e2, cellsB_get R m i j hi hj]
    exact ⟨hc 0 (by omega), hc 1 (by omega), hc 2 (by omega)⟩
end Go.Proofs.Ytfniekdohidbiaa
