/- Classes of the first bitmaps are the first classes; what each bitmap's class is. Plain. No condition but the bounds that each theorem names. -/
import Derived.Test.YtfniekdohidbiaaXs
namespace Go.Proofs.Ytfniekdohidbiaa
open Go.RowKit Go.Bm Fl Go.FlW
theorem clsOf_prefix (F : Nat → Bmp) (t k n : Nat) (h : k ≤ n) : (clsOf F t k).1 <+: (clsOf F t n).1 ∧ (clsOf F t k).2 <+: (clsOf F t n).2 := by
  induction n with
  | zero =>
    obtain rfl : k = 0 := by omega
    exact ⟨List.prefix_rfl, List.prefix_rfl⟩
  | succ n ih =>
    by_cases e : k = n + 1
    · subst e; exact ⟨List.prefix_rfl, List.prefix_rfl⟩
    · obtain ⟨h1, h2⟩ := ih (by omega)
      have e1 : clsOf F t (n + 1) = stepC F t (clsOf F t n) n := rfl
      rw [e1]
      unfold stepC
      cases hit F t (clsOf F t n).2 n with
      | some c => exact ⟨h1.trans (List.prefix_append _ _), h2⟩
      | none => exact ⟨h1.trans (List.prefix_append _ _), h2.trans (List.prefix_append _ _)⟩
theorem prefix_get {l m : List Nat} (h : l <+: m) (i : Nat) (hi : i < l.length) : l[i]! = m[i]! := by
  obtain ⟨s, rfl⟩ := h
  rw [getElem!_pos l i hi, getElem!_pos (l ++ s) i (by simp; omega), List.getElem_append_left hi]
theorem cls_get (F : Nat → Bmp) (t k n i : Nat) (h : k ≤ n) (hi : i < k) : (clsOf F t k).1[i]! = (clsOf F t n).1[i]! := prefix_get (clsOf_prefix F t k n h).1 i (by rw [clsOf_len]; exact hi)
theorem reps_get (F : Nat → Bmp) (t k n j : Nat) (h : k ≤ n) (hj : j < (clsOf F t k).2.length) : (clsOf F t k).2[j]! = (clsOf F t n).2[j]! := prefix_get (clsOf_prefix F t k n h).2 j hj
theorem reps_le (F : Nat → Bmp) (t k n : Nat) (h : k ≤ n) : (clsOf F t k).2.length ≤ (clsOf F t n).2.length := (clsOf_prefix F t k n h).2.length_le
theorem get_snoc (l : List Nat) (x : Nat) : (l ++ [x])[l.length]! = x := by
  rw [getElem!_pos _ _ (by simp)]; simp
/-- a bitmap's class is the first that is near, or a new one -/
theorem cls_at (F : Nat → Bmp) (t n i : Nat) (h : i < n) : (clsOf F t n).1[i]! = (hit F t (clsOf F t i).2 i).getD (clsOf F t i).2.length := by
  rw [← cls_get F t (i + 1) n i h (Nat.lt_succ_self i)]
  have e1 : clsOf F t (i + 1) = stepC F t (clsOf F t i) i := rfl
  have e2 : i = (clsOf F t i).1.length := (clsOf_len F t i).symm
  rw [e1]
  unfold stepC
  cases hit F t (clsOf F t i).2 i with
  | some c =>
    show ((clsOf F t i).1 ++ [c])[i]! = c
    conv => lhs; arg 2; rw [e2]
    exact get_snoc _ _
  | none =>
    show ((clsOf F t i).1 ++ [(clsOf F t i).2.length])[i]! = _
    conv => lhs; arg 2; rw [e2]
    exact get_snoc _ _
/-- the class's first bitmap, and how it came to be -/
theorem rep_at (F : Nat → Bmp) (t n k : Nat) (hk : k < (clsOf F t n).2.length) : ∃ i, i < n ∧ (clsOf F t n).2[k]! = i ∧ (clsOf F t i).2.length = k ∧ hit F t (clsOf F t i).2 i = none := by
  induction n with
  | zero => cases hk
  | succ n ih =>
    have e1 : clsOf F t (n + 1) = stepC F t (clsOf F t n) n := rfl
    by_cases hlt : k < (clsOf F t n).2.length
    · obtain ⟨i, h1, h2, h3, h4⟩ := ih hlt
      exact ⟨i, by omega, by rw [← reps_get F t n (n + 1) k (by omega) hlt]; exact h2, h3, h4⟩
    · rw [e1] at hk ⊢
      unfold stepC at hk ⊢
      cases hh : hit F t (clsOf F t n).2 n with
      | some c => rw [hh] at hk; exact absurd hk hlt
      | none =>
        rw [hh] at hk
        have : k < ((clsOf F t n).2 ++ [n]).length := hk
        simp at this
        obtain rfl : k = (clsOf F t n).2.length := by omega
        exact ⟨n, Nat.lt_succ_self n, get_snoc _ _, rfl, hh⟩
theorem hit_some {F : Nat → Bmp} {t : Nat} {reps : List Nat} {i k : Nat} (h : hit F t reps i = some k) : k < reps.length ∧ nearB (F reps[k]!) (F i) t = true ∧ ∀ j, j < k → nearB (F reps[j]!) (F i) t = false := find_some h
theorem hit_none {F : Nat → Bmp} {t : Nat} {reps : List Nat} {i : Nat} (h : hit F t reps i = none) : ∀ j, j < reps.length → nearB (F reps[j]!) (F i) t = false := by
  intro j hj
  unfold hit at h
  have := List.find?_eq_none.1 h j (List.mem_range.2 hj)
  simpa using this
theorem hit_none_of {F : Nat → Bmp} {t : Nat} {reps : List Nat} {i : Nat} (h : ∀ j, j < reps.length → nearB (F reps[j]!) (F i) t = false) : hit F t reps i = none := find_none h
/-- bitmaps none of which is near an earlier one are as many classes -/
theorem clsOf_all (F : Nat → Bmp) (t n : Nat) (h : ∀ j i, j < i → i < n → nearB (F j) (F i) t = false) : clsOf F t n = (List.range n, List.range n) := by
  induction n with
  | zero => rfl
  | succ n ih =>
    have e1 : clsOf F t (n + 1) = stepC F t (clsOf F t n) n := rfl
    rw [e1, ih fun j i hj hi => h j i hj (by omega)]
    unfold stepC
    rw [hit_none_of (F := F) (t := t) (reps := (List.range n, List.range n).2) (i := n) ?_]
    · show (List.range n ++ [(List.range n).length], List.range n ++ [n]) = _
      rw [List.length_range, List.range_succ]
    · intro j hj
      have hj : j < (List.range n).length := hj
      rw [List.length_range] at hj
      show nearB (F (List.range n)[j]!) (F n) t = false
      rw [getElem!_pos _ _ (by simpa using hj), List.getElem_range]
      exact h j n hj (Nat.lt_succ_self n)
/-- no class's bitmap is near an earlier class's -/
theorem reps_apart (F : Nat → Bmp) (t n j k : Nat) (hjk : j < k) (hk : k < (clsOf F t n).2.length) : nearB (F (clsOf F t n).2[j]!) (F (clsOf F t n).2[k]!) t = false := by
  obtain ⟨i, h1, h2, h3, h4⟩ := rep_at F t n k hk
  rw [h2, ← reps_get F t i n j (by omega) (by omega)]
  exact hit_none h4 j (by omega)
/-- the classes' bitmaps are as many classes -/
theorem clsOf_reps_again {F R : Nat → Bmp} {t n : Nat} (h : ∀ k, k < (clsOf F t n).2.length → (R k).like (F (clsOf F t n).2[k]!)) :
    (clsOf R t (clsOf F t n).2.length).2.length = (clsOf F t n).2.length := by
  rw [clsOf_all R t _ fun j i hj hi => by
    rw [nearB_like2 (h j (by omega)) (h i hi)]
    exact reps_apart F t n j i hj hi]
  exact List.length_range
end Go.Proofs.Ytfniekdohidbiaa
