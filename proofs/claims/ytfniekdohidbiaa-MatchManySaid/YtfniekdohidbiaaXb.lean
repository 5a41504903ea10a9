/- Bitmaps of the call's own: their cells in one row, the words of each in a row of their own. Conditions: the bounds that each theorem names. -/
import Derived.Test.YtfniekdohidbiaaVz
namespace Go.Proofs.Ytfniekdohidbiaa
open Go.RowKit Go.Bm
/-- the cells of the first m bitmaps, one behind the other -/
def cellsB (R : Nat → Bmp) : Nat → List Value
  | 0 => []
  | m + 1 => cellsB R m ++ (R m).vals.toList
theorem vals_length (f : Bmp) : f.vals.toList.length = 3 := rfl
theorem cellsB_length (R : Nat → Bmp) (m : Nat) : (cellsB R m).length = m * 3 := by
  induction m with
  | zero => rfl
  | succ m ih => unfold cellsB; rw [List.length_append, ih, vals_length]; omega
theorem cellsB_get (R : Nat → Bmp) (m k j : Nat) (hk : k < m) (hj : j < 3) : (cellsB R m)[k * 3 + j]? = (R k).vals[j]? := by
  induction m with
  | zero => omega
  | succ m ih =>
    unfold cellsB
    by_cases e : k = m
    · subst e
      rw [List.getElem?_append_right (by rw [cellsB_length]; omega), cellsB_length, Nat.add_sub_cancel_left, ← Array.getElem?_toList]
    · rw [List.getElem?_append_left (by rw [cellsB_length]; omega)]
      exact ih (by omega)
theorem cellsB_congr {R S : Nat → Bmp} {m : Nat} (h : ∀ k, k < m → R k = S k) : cellsB R m = cellsB S m := by
  induction m with
  | zero => rfl
  | succ m ih => unfold cellsB; rw [ih (fun k hk => h k (by omega)), h m (by omega)]
theorem cellsB_one (R : Nat → Bmp) (m : Nat) : ∀ u ∈ (R m).vals.toList, u.oneCell' = true := by
  intro u hu
  unfold Bmp.vals at hu
  simp at hu
  rcases hu with rfl | rfl | rfl <;> rfl
def Bmp.bits (f : Bmp) : Value := .slice f.a f.n f.cap
/-- the words of a bitmap in a row of their own -/
def OwnBits (w : World) (base : Nat) (f : Bmp) : Prop := 0 < f.n ∧ w.ownsRow base 23 1 f.bits f.n (wvals f.B f.n) ∧ ∀ i, i < f.n → f.B i < 2 ^ 64
theorem OwnBits.blk {w : World} {base : Nat} {f : Bmp} (h : OwnBits w base f) : ∃ g, f.a = some ⟨g, 0, none⟩ ∧ f.bits.ownBlock = some g ∧ base ≤ g ∧ g < w.heap.size ∧ f.n ≤ f.cap ∧ f.cap ≤ 9223372036854775807 ∧ ∃ cur, w.heap[g]? = some (.cells cur 23 (0, 0)) ∧ cur.size = f.cap * 1 ∧ cur.toList.take (f.n * 1) = wvals f.B f.n := by
  obtain ⟨h0, ⟨_, hform⟩, _⟩ := h
  rcases hform with ⟨_, hz⟩ | ⟨g, cap, cur, hx, hb, hh, hn, hc, hs, ht⟩
  · omega
  · unfold Bmp.bits at hx
    simp only [Value.slice.injEq] at hx
    obtain ⟨ea, _, ec⟩ := hx
    subst ec
    exact ⟨g, ea, by unfold Bmp.bits; rw [ea]; rfl, hb, (Array.getElem?_eq_some_iff.1 hh).1, hn, by unfold maxLen at hc; exact hc, cur, hh, hs, ht⟩
theorem OwnBits.words {w : World} {base : Nat} {f : Bmp} (h : OwnBits w base f) : IsWords w f.a f.n f.cap f.B := by
  obtain ⟨a, cap, hv, hw⟩ := isWords_of_owns h.2.1 h.2.2
  unfold Bmp.bits at hv
  cases hv
  exact hw
theorem OwnBits.kept {w w' : World} {base : Nat} {f : Bmp} {row : Option Nat} (h : OwnBits w base f) (hg : w.grownBy w' row) (hne : f.bits.ownBlock ≠ row) : OwnBits w' base f := ⟨h.1, h.2.1.kept hg (Or.inr hne), h.2.2⟩
def OwnBms (w : World) (base : Nat) (v : Value) (m : Nat) (R : Nat → Bmp) : Prop :=
  w.ownsRow base 48 3 v m (cellsB R m) ∧ (∀ k, k < m → OwnBits w base (R k)) ∧ ∀ j k, j < m → k < m → j ≠ k → (R j).bits.ownBlock ≠ (R k).bits.ownBlock
theorem OwnBms.nil (w : World) (base : Nat) (R : Nat → Bmp) : OwnBms w base (.slice none 0 0) 0 R := ⟨World.ownsRow_nil _ _ _ _, fun _ h => by omega, fun _ _ h => by omega⟩
theorem ownsRow_type {w : World} {base g n s : Nat} {v : Value} {xs : List Value} {t : TypeId} (h : w.ownsRow base t s v n xs) (hg : v.ownBlock = some g) : ∃ cur, w.heap[g]? = some (.cells cur t (0, 0)) := by
  obtain ⟨_, hform⟩ := h
  rcases hform with ⟨h2, _⟩ | ⟨g', cap, cur, h2, _, h3, _⟩
  · rw [h2] at hg; cases hg
  · rw [h2] at hg; cases hg
    exact ⟨cur, h3⟩
/-- rows of different types are no one block -/
theorem ownsRow_apart {w : World} {base base' n n' s s' : Nat} {v v' : Value} {xs xs' : List Value} {t t' : TypeId} (h : w.ownsRow base t s v n xs) (h' : w.ownsRow base' t' s' v' n' xs') (ht : t ≠ t') : v.ownBlock = none ∨ v.ownBlock ≠ v'.ownBlock := by
  cases hv : v.ownBlock with
  | none => exact Or.inl rfl
  | some g =>
    refine Or.inr fun e => ?_
    obtain ⟨c, hc⟩ := ownsRow_type h hv
    obtain ⟨c', hc'⟩ := ownsRow_type h' e.symm
    rw [hc] at hc'
    simp at hc'
    exact ht hc'.2
theorem OwnBms.kept {w w' : World} {base m : Nat} {v : Value} {R : Nat → Bmp} {row : Option Nat} (h : OwnBms w base v m R) (hg : w.grownBy w' row)
    (hrow : ∀ g, row = some g → g < base ∨ ∀ cur t fr, w.heap[g]? = some (.cells cur t fr) → t ≠ 48 ∧ t ≠ 23) : OwnBms w' base v m R := by
  obtain ⟨h1, h2, h3⟩ := h
  have no : ∀ {u : Value} {t : TypeId} {s n : Nat} {xs : List Value}, w.ownsRow base t s u n xs → (t = 48 ∨ t = 23) → u.ownBlock = none ∨ u.ownBlock ≠ row := by
    intro u t s n xs ho ht
    cases hu : u.ownBlock with
    | none => exact Or.inl rfl
    | some g =>
      refine Or.inr fun e => ?_
      rcases hrow g e.symm with h4 | h4
      · have := (ho.lt g hu).1; omega
      · obtain ⟨c, hc⟩ := ownsRow_type ho hu
        obtain ⟨a, b⟩ := h4 _ _ _ hc
        rcases ht with rfl | rfl
        · exact a rfl
        · exact b rfl
  exact ⟨h1.kept hg (no h1 (Or.inl rfl)), fun k hk => ⟨(h2 k hk).1, (h2 k hk).2.1.kept hg (no (h2 k hk).2.1 (Or.inr rfl)), (h2 k hk).2.2⟩, h3⟩
theorem OwnBms.below {w w' : World} {base m : Nat} {v : Value} {R : Nat → Bmp} (h : OwnBms w base v m R) (hb : Below w.heap.size w w') : OwnBms w' base v m R :=
  h.kept (grown_of_below hb none) (fun g he => by cases he)
/-- one bitmap more -/
theorem OwnBms.snoc {w1 w2 : World} {base m : Nat} {v v' : Value} {R : Nat → Bmp} {f : Bmp} (h : OwnBms w1 base v m R) (hf : OwnBits w1 base f) (hap : ∀ k, k < m → (R k).bits.ownBlock ≠ f.bits.ownBlock) (hg : w1.grownBy w2 v.ownBlock)
    (hown : w2.ownsRow base 48 3 v' (m + 1) (cellsB R m ++ f.vals.toList)) : OwnBms w2 base v' (m + 1) (fun k => if k = m then f else R k) := by
  obtain ⟨h1, h2, h3⟩ := h
  have no : ∀ {f : Bmp}, OwnBits w1 base f → f.bits.ownBlock = none ∨ f.bits.ownBlock ≠ v.ownBlock := fun hk => ownsRow_apart hk.2.1 h1 (by decide)
  refine ⟨?_, fun k hk => ?_, fun j k hj hk hjk => ?_⟩
  · have e1 : cellsB (fun k => if k = m then f else R k) (m + 1) = cellsB R m ++ f.vals.toList := by
      show cellsB (fun k => if k = m then f else R k) m ++ (if m = m then f else R m).vals.toList = _
      rw [if_pos rfl, cellsB_congr (S := R) (fun k hk => if_neg (by omega))]
    rw [e1]; exact hown
  · by_cases e : k = m
    · show OwnBits w2 base (if k = m then f else R k)
      rw [if_pos e]
      exact ⟨hf.1, hf.2.1.kept hg (no hf), hf.2.2⟩
    · show OwnBits w2 base (if k = m then f else R k)
      rw [if_neg e]
      have := h2 k (by omega)
      exact ⟨this.1, this.2.1.kept hg (no this), this.2.2⟩
  · show (if j = m then f else R j).bits.ownBlock ≠ (if k = m then f else R k).bits.ownBlock
    by_cases ej : j = m
    · rw [if_pos ej, if_neg (by omega)]
      exact (hap k (by omega)).symm
    · rw [if_neg ej]
      by_cases ek : k = m
      · rw [if_pos ek]; exact hap j (by omega)
      · rw [if_neg ek]; exact h3 j k (by omega) (by omega) hjk
theorem ownsRow_slice {w : World} {base n s : Nat} {v : Value} {xs : List Value} {t : TypeId} (h : w.ownsRow base t s v n xs) : ∃ p cap, v = .slice p n cap ∧ (n = 0 ∨ ∃ g cur, p = some ⟨g, 0, none⟩ ∧ base ≤ g ∧ g < w.heap.size ∧ n ≤ cap ∧ cap ≤ 9223372036854775807 ∧ w.heap[g]? = some (.cells cur t (0, 0)) ∧ cur.size = cap * s ∧ cur.toList.take (n * s) = xs) := by
  obtain ⟨_, hform⟩ := h
  rcases hform with ⟨h2, rfl⟩ | ⟨g, cap, cur, h2, h3, h4, h5, h6, h7, h8⟩
  · exact ⟨_, _, h2, Or.inl rfl⟩
  · exact ⟨_, _, h2, Or.inr ⟨g, cur, rfl, h3, (Array.getElem?_eq_some_iff.1 h4).1, h5, by unfold maxLen at h6; exact h6, h4, h7, h8⟩⟩
/-- as a list that is read -/
theorem OwnBms.is {w : World} {base m : Nat} {v : Value} {R : Nat → Bmp} (h : OwnBms w base v m R) : ∃ p cap, v = .slice p m cap ∧ IsBms w p m cap R := by
  obtain ⟨p, cap, hv, hform⟩ := ownsRow_slice h.1
  refine ⟨p, cap, hv, ?_⟩
  rcases hform with h0 | ⟨g, cur, rfl, _, hg, hn, hc, hh, hs, ht⟩
  · exact Or.inl h0
  · refine Or.inr ⟨g, 0, rfl, hn, hc, hg, fun i hi => ?_⟩
    have hc : ∀ j, j < 3 → w.cell? ⟨g, 0 + i * 3 + j, none⟩ = (R i).vals[j]? := by
      intro j hj
      have e2 : cur.toList[i * 3 + j]? = (cellsB R m)[i * 3 + j]? := by rw [← ht, List.getElem?_take, if_pos (by omega)]
      rw [Joins.cell_of_block hh, Nat.zero_add, ← Array.getElem?_toList, e2, cellsB_get R m i j hi hj]
    exact ⟨hc 0 (by omega), hc 1 (by omega), hc 2 (by omega), (h.2.1 i hi).words⟩
end Go.Proofs.Ytfniekdohidbiaa
