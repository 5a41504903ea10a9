/- Plain facts on counts between edges. No condition. -/
import Derived.Test.YtokdgppaedklhaaFlM
import Derived.Laws.OwnMore
namespace Go.FlW
open Fl

/-- is x below e? -/
def ltB (x e : Nat) : Bool := !isNaN D x && !isNaN D e && decide (key D x < key D e)
/-- the first edge from i on that x is below; at most i + fuel -/
def firstLt (E : Nat → Nat) (x : Nat) : Nat → Nat → Nat
  | 0, i => i
  | f + 1, i => if ltB x (E i) then i else firstLt E x f (i + 1)
/-- the place that is counted -/
def bin (E : Nat → Nat) (ne x : Nat) : Nat := if isNaN D x then ne + 1 else firstLt E x ne 0
/-- how many of the first n are counted at j -/
def cnt (E : Nat → Nat) (ne : Nat) (L : Nat → Nat) (n j : Nat) : Nat := ((List.range n).filter fun i => bin E ne (L i) == j).length
/-- edges that may be, up to n -/
def okE (E : Nat → Nat) (n : Nat) : Prop := ∀ i, i < n → isNaN D (E i) = false ∧ (0 < i → key D (E (i - 1)) < key D (E i))

theorem firstLt_spec (E : Nat → Nat) (x : Nat) : ∀ f i, i ≤ firstLt E x f i ∧ firstLt E x f i ≤ i + f ∧ (∀ j, i ≤ j → j < firstLt E x f i → ltB x (E j) = false) ∧ (firstLt E x f i < i + f → ltB x (E (firstLt E x f i)) = true)
  | 0, i => by
    refine ⟨Nat.le_refl _, Nat.le_refl _, fun j h1 h2 => ?_, fun h => ?_⟩
    · simp [firstLt] at h2; omega
    · simp [firstLt] at h
  | f + 1, i => by
    unfold firstLt
    cases h : ltB x (E i)
    · obtain ⟨h1, h2, h3, h4⟩ := firstLt_spec E x f (i + 1)
      simp only [Bool.false_eq_true, if_false]
      refine ⟨by omega, by omega, fun j g1 g2 => ?_, fun g => h4 (by omega)⟩
      by_cases e : j = i
      · rw [e]; exact h
      · exact h3 j (by omega) g2
    · simp only [if_true]
      exact ⟨Nat.le_refl _, by omega, fun j g1 g2 => by omega, fun _ => h⟩

theorem firstLt_eq {E : Nat → Nat} {x n i : Nat} (hi : i ≤ n) (h1 : ∀ j, j < i → ltB x (E j) = false) (h2 : i < n → ltB x (E i) = true) : firstLt E x n 0 = i := by
  obtain ⟨_, g2, g3, g4⟩ := firstLt_spec E x n 0
  rcases Nat.lt_trichotomy (firstLt E x n 0) i with h | h | h
  · have := g4 (by omega)
    rw [h1 _ h] at this; cases this
  · exact h
  · have := g3 i (by omega) h
    rw [h2 (by omega)] at this; cases this

theorem bin_le (E : Nat → Nat) (ne x : Nat) : bin E ne x ≤ ne + 1 := by
  unfold bin
  have := (firstLt_spec E x ne 0).2.1
  split <;> omega

theorem cnt_zero (E : Nat → Nat) (ne : Nat) (L : Nat → Nat) (j : Nat) : cnt E ne L 0 j = 0 := rfl
theorem cnt_succ (E : Nat → Nat) (ne : Nat) (L : Nat → Nat) (n j : Nat) : cnt E ne L (n + 1) j = cnt E ne L n j + if bin E ne (L n) = j then 1 else 0 := by
  unfold cnt
  rw [List.range_succ, List.filter_append, List.length_append]
  congr 1
  by_cases h : bin E ne (L n) = j <;> simp [h]
theorem cnt_le (E : Nat → Nat) (ne : Nat) (L : Nat → Nat) (n j : Nat) : cnt E ne L n j ≤ n := by
  unfold cnt
  have := List.length_filter_le (fun i => bin E ne (L i) == j) (List.range n)
  rw [List.length_range] at this; exact this

/-- the counts as values -/
def cntArr (E : Nat → Nat) (ne : Nat) (L : Nat → Nat) (n : Nat) : Array Value := ((List.range (ne + 2)).map fun j => Value.int .i64 (cnt E ne L n j : Nat)).toArray
theorem cntArr_size (E : Nat → Nat) (ne : Nat) (L : Nat → Nat) (n : Nat) : (cntArr E ne L n).size = ne + 2 := by unfold cntArr; simp
theorem cntArr_get (E : Nat → Nat) (ne : Nat) (L : Nat → Nat) (n : Nat) {j : Nat} (h : j < ne + 2) : (cntArr E ne L n)[j]? = some (.int .i64 (cnt E ne L n j : Nat)) := by
  unfold cntArr
  rw [List.getElem?_toArray, List.getElem?_map, List.getElem?_range h]; rfl
theorem cntArr_step (E : Nat → Nat) (ne : Nat) (L : Nat → Nat) (n : Nat) : cntArr E ne L (n + 1) = (cntArr E ne L n).setIfInBounds (bin E ne (L n)) (.int .i64 ((cnt E ne L n (bin E ne (L n)) : Nat) + 1)) := by
  have hb := bin_le E ne (L n)
  apply Array.ext_getElem?
  intro j
  rw [Array.getElem?_setIfInBounds, cntArr_size]
  by_cases hj : j < ne + 2
  · rw [cntArr_get _ _ _ _ hj, cnt_succ]
    by_cases e : bin E ne (L n) = j
    · rw [if_pos e, if_pos e, if_pos (by omega), e]; rfl
    · rw [if_neg e, if_neg e, cntArr_get _ _ _ _ hj]; rfl
  · have h1 : (cntArr E ne L (n + 1))[j]? = none := Array.getElem?_eq_none (by rw [cntArr_size]; omega)
    have h2 : (cntArr E ne L n)[j]? = none := Array.getElem?_eq_none (by rw [cntArr_size]; omega)
    rw [h1, h2, if_neg (by omega)]
theorem cntArr_start (E : Nat → Nat) (ne : Nat) (L : Nat → Nat) : cntArr E ne L 0 = madeCells #[.int .i64 0] (ne + 2) := by
  apply Array.toList_inj.1
  rw [toList_madeCells_one]
  unfold cntArr
  rw [List.toList_toArray]
  apply List.ext_getElem?
  intro j
  by_cases hj : j < ne + 2
  · rw [List.getElem?_map, List.getElem?_range hj, List.getElem?_replicate, if_pos hj]; rfl
  · rw [List.getElem?_eq_none (by simp; omega), List.getElem?_eq_none (by simp; omega)]

theorem ltB_order (x e : Nat) : (FloatKind.f64.format.order x e == some .lt) = ltB x e := ord_lt x e
end Go.FlW
