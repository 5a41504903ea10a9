/- The classes, plain: which class each bitmap joins. Conditions: the bounds that each theorem names. -/
import Derived.Test.YtfniekdohidbiaaXi
import Derived.Test.YtfniekdohidbiaaUb
namespace Go.Proofs.Ytfniekdohidbiaa
open Go.RowKit Go.Bm Fl Go.FlW
/-- r ≤ t, of doubles -/
def leB (r t : Nat) : Bool := !isNaN D r && !isNaN D t && decide (key D r ≤ key D t)
/-- the quotient of two whole numbers is at most t -/
def leQ (n d t : Nat) : Bool := match D.div (fi (n : Int)) (fi (d : Int)) with
  | some r => leB r t
  | none => false
theorem leB_of_q {n d r : Nat} (t : Nat) (h : IsQ n d r) : leB r t = leQ n d t := by
  unfold IsQ at h
  unfold leQ
  cases hd : D.div (fi (n : Int)) (fi (d : Int)) with
  | some v => rw [hd] at h; rw [show r = v from h]
  | none =>
    rw [hd] at h
    unfold leB
    rw [show isNaN D r = true from h.1]
    rfl
theorem leB_tol {r t : Nat} (h : tolOk t = true) : leB r (tolVal t) = leB r t := by
  unfold tolVal
  by_cases hz : key D t = 0
  · rw [if_pos hz]
    unfold tolOk at h
    simp only [Bool.and_eq_true, Bool.not_eq_true'] at h
    unfold leB
    rw [h.1, nan_zero, key_zero, hz]
  · rw [if_neg hz]
theorem leB_order (r t : Nat) : (FloatKind.f64.format.order r t == some .lt || FloatKind.f64.format.order r t == some .eq) = leB r t := ord_le r t
/-- one size, and unlike by at most t -/
def sizeB (f g : Bmp) : Bool := decide (f.W = g.W ∧ f.H = g.H)
def leqB (f g : Bmp) (t : Nat) : Bool := leQ (diffN f.W.toNat f.H.toNat f.B g.B) (f.W.toNat * f.H.toNat) t
def nearB (f g : Bmp) (t : Nat) : Bool := sizeB f g && leqB f g t
/-- the first class whose bitmap is near -/
def hit (F : Nat → Bmp) (t : Nat) (reps : List Nat) (i : Nat) : Option Nat := (List.range reps.length).find? fun k => nearB (F reps[k]!) (F i) t
def stepC (F : Nat → Bmp) (t : Nat) (s : List Nat × List Nat) (i : Nat) : List Nat × List Nat := match hit F t s.2 i with
  | some k => (s.1 ++ [k], s.2)
  | none => (s.1 ++ [s.2.length], s.2 ++ [i])
/-- the classes of the first i bitmaps, and the first bitmap of each class -/
def clsOf (F : Nat → Bmp) (t : Nat) : Nat → List Nat × List Nat
  | 0 => ([], [])
  | i + 1 => stepC F t (clsOf F t i) i
theorem clsOf_len (F : Nat → Bmp) (t i : Nat) : (clsOf F t i).1.length = i := by
  induction i with
  | zero => rfl
  | succ i ih =>
    unfold clsOf stepC
    cases hit F t (clsOf F t i).2 i <;> simp [ih]
theorem clsOf_reps (F : Nat → Bmp) (t i : Nat) : (clsOf F t i).2.length ≤ i ∧ ∀ j ∈ (clsOf F t i).2, j < i := by
  induction i with
  | zero => exact ⟨Nat.le_refl _, fun j h => by cases h⟩
  | succ i ih =>
    unfold clsOf stepC
    cases hit F t (clsOf F t i).2 i with
    | some k => exact ⟨by show (clsOf F t i).2.length ≤ i + 1; omega, fun j h => Nat.lt_succ_of_lt (ih.2 j h)⟩
    | none =>
      refine ⟨by simp; exact ih.1, fun j h => ?_⟩
      rcases List.mem_append.1 h with h | h
      · exact Nat.lt_succ_of_lt (ih.2 j h)
      · simp at h; omega
theorem reps_lt (F : Nat → Bmp) (t i k : Nat) (hk : k < (clsOf F t i).2.length) : (clsOf F t i).2[k]! < i := by
  rw [getElem!_pos _ k hk]; exact (clsOf_reps F t i).2 _ (List.getElem_mem _)
/-- the classes of one size, in their order -/
def grp (F : Nat → Bmp) (reps : List Nat) (W H : Int) : List Nat := (List.range reps.length).filter fun k => decide ((F reps[k]!).W = W ∧ (F reps[k]!).H = H)
theorem grp_nil (F : Nat → Bmp) : grp F [] = fun _ _ => [] := rfl
theorem hit_grp (F : Nat → Bmp) (t : Nat) (reps : List Nat) (i : Nat) : hit F t reps i = (grp F reps (F i).W (F i).H).find? fun k => leqB (F reps[k]!) (F i) t := by
  unfold hit grp
  rw [List.find?_filter]
  congr 1
  funext k
  unfold nearB sizeB
  simp
theorem grp_snoc (F : Nat → Bmp) (reps : List Nat) (i : Nat) (W H : Int) : grp F (reps ++ [i]) W H = updG (grp F reps) (F i).W (F i).H reps.length W H := by
  have e1 : ∀ (W H : Int), (List.range reps.length).filter (fun k => decide ((F (reps ++ [i])[k]!).W = W ∧ (F (reps ++ [i])[k]!).H = H)) = grp F reps W H := by
    intro W H
    unfold grp
    refine List.filter_congr fun k hk => ?_
    have hk' := List.mem_range.1 hk
    rw [getElem!_pos (reps ++ [i]) k (by simp; omega), getElem!_pos reps k hk', List.getElem_append_left hk']
  unfold updG
  have e2 : (F (reps ++ [i])[reps.length]!) = F i := by rw [getElem!_pos (reps ++ [i]) reps.length (by simp), List.getElem_append_right (Nat.le_refl _)]; simp
  have e3 : grp F (reps ++ [i]) W H = grp F reps W H ++ [reps.length].filter (fun k => decide ((F (reps ++ [i])[k]!).W = W ∧ (F (reps ++ [i])[k]!).H = H)) := by
    rw [← e1 W H]
    unfold grp
    rw [List.length_append, List.length_singleton, List.range_succ, List.filter_append]
  rw [e3]
  by_cases h : W = (F i).W ∧ H = (F i).H
  · rw [if_pos h]
    obtain ⟨rfl, rfl⟩ := h
    have : decide ((F (reps ++ [i])[reps.length]!).W = (F i).W ∧ (F (reps ++ [i])[reps.length]!).H = (F i).H) = true := by rw [e2]; simp
    rw [List.filter_cons, if_pos this, List.filter_nil]
  · rw [if_neg h]
    have : decide ((F (reps ++ [i])[reps.length]!).W = W ∧ (F (reps ++ [i])[reps.length]!).H = H) = false := by
      rw [e2]; simp; intro h1 h2; exact h ⟨h1.symm, h2.symm⟩
    rw [List.filter_cons, if_neg (by rw [this]; simp), List.filter_nil, List.append_nil]
theorem grp_lt (F : Nat → Bmp) (reps : List Nat) (W H : Int) : ∀ k ∈ grp F reps W H, k < reps.length ∧ (F reps[k]!).W = W ∧ (F reps[k]!).H = H := by
  intro k hk
  unfold grp at hk
  rw [List.mem_filter] at hk
  exact ⟨List.mem_range.1 hk.1, by simpa using hk.2⟩
theorem grp_len (F : Nat → Bmp) (reps : List Nat) (W H : Int) : (grp F reps W H).length ≤ reps.length := by
  unfold grp
  have := List.length_filter_le (fun k => decide ((F reps[k]!).W = W ∧ (F reps[k]!).H = H)) (List.range reps.length)
  simpa using this
/-- the place of the first, or -1 -/
def idxI : Option Nat → Int
  | some k => (k : Int)
  | none => -1
theorem find_some {p : Nat → Bool} {m k : Nat} (h : (List.range m).find? p = some k) : k < m ∧ p k = true ∧ ∀ j, j < k → p j = false := by
  rw [List.find?_range_eq_some] at h
  obtain ⟨h1, h2, h3⟩ := h
  refine ⟨List.mem_range.1 h2, h1, fun j hj => by simpa using h3 j hj⟩
theorem find_of {p : Nat → Bool} {m k : Nat} (h1 : k < m) (h2 : p k = true) (h3 : ∀ j, j < k → p j = false) : (List.range m).find? p = some k := by
  rw [List.find?_range_eq_some]
  exact ⟨h2, List.mem_range.2 h1, fun j hj => by simpa using h3 j hj⟩
theorem find_none {p : Nat → Bool} {m : Nat} (h : ∀ j, j < m → p j = false) : (List.range m).find? p = none := by
  rw [List.find?_range_eq_none]
  exact fun j hj => by simpa using h j hj
end Go.Proofs.Ytfniekdohidbiaa
