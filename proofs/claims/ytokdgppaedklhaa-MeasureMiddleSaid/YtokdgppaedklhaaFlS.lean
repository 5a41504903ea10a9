/- Plain facts on sums and means of whole floats. No condition but those named. -/
import Derived.Test.YtokdgppaedklhaaFlM
import Derived.Test.YtokdgppaedklhaaSc
namespace Go.FlW
open Fl

theorem enc_z {z z' : Bool} {T : Int} (h : T ≠ 0 ∨ z = z') : enc D z T = enc D z' T := by
  unfold enc
  by_cases h0 : T = 0
  · rcases h with h | h
    · exact absurd h0 h
    · rw [h]
  · rw [if_neg h0, if_neg h0]

/-- whole floats are added as whole numbers -/
theorem add_fi {a b : Int} (ha : InR a) (hb : InR b) : D.add (fi a) (fi b) = some (fi (a + b)) := by
  obtain ⟨f1, _, s1, _, v1⟩ := fi_parts ha
  obtain ⟨f2, _, s2, _, v2⟩ := fi_parts hb
  rw [add_fin D f1 f2, s1, s2, v1, v2, fi_eq, ← Int.add_mul]
  refine congrArg some (enc_z ?_)
  by_cases h : a + b = 0
  · right
    by_cases ha0 : a < 0
    · rw [decide_eq_false (show ¬ b < 0 by omega), Bool.and_false]
    · rw [decide_eq_false ha0, Bool.false_and]
  · left
    have hp := Nat.two_pow_pos (K D)
    exact Int.mul_ne_zero h (by omega)

theorem negF_parts {x : Nat} (hx : x < 2 ^ 64) : rung D (Op.negFloat .f64 x) = rung D x ∧ neg D (Op.negFloat .f64 x) = !neg D x := xor_sign hx
theorem negF_lt {x : Nat} (hx : x < 2 ^ 64) : Op.negFloat .f64 x < 2 ^ 64 := Nat.xor_lt_two_pow hx (by decide)

theorem fi_nought : fi 0 = 0 := by decide

/-- a whole float and its negative -/
theorem add_neg {a : Int} (ha : InR a) : D.add (fi a) (Op.negFloat .f64 (fi a)) = some (fi 0) := by
  obtain ⟨f1, _, s1, _, v1⟩ := fi_parts ha
  obtain ⟨g1, g2⟩ := negF_parts (fi_lt a)
  have f2 : fin D (Op.negFloat .f64 (fi a)) := by unfold fin; rw [g1]; exact f1
  have v2 : sv D (Op.negFloat .f64 (fi a)) = - sv D (fi a) := by
    unfold sv sg
    rw [g1, g2]
    cases neg D (fi a) <;> simp
  have e0 : fi 0 = enc D false 0 := by rw [fi_eq, Int.zero_mul]
  rw [add_fin D f1 f2, g2, v2, Int.add_right_neg, e0]
  refine congrArg some (enc_z (Or.inr ?_))
  cases neg D (fi a) <;> rfl

theorem key_fi {a : Int} (ha : InR a) : key D (fi a) = if a < 0 then -(rung D (fi a) : Int) else (rung D (fi a) : Int) := by
  obtain ⟨_, _, s1, _, _⟩ := fi_parts ha
  unfold key; rw [s1]
  by_cases h : a < 0
  · rw [decide_eq_true h, if_pos h]; rfl
  · rw [decide_eq_false h, if_neg h]; rfl

theorem rung_fi {a b : Int} (ha : InR a) (hb : InR b) : rung D (fi a) ≤ rung D (fi b) ↔ a.natAbs ≤ b.natAbs := by
  obtain ⟨_, _, _, v1, _⟩ := fi_parts ha
  obtain ⟨_, _, _, v2, _⟩ := fi_parts hb
  rw [← rv_le_iff D, v1, v2]
  exact Nat.mul_le_mul_right_iff (Nat.two_pow_pos _)

theorem key_fi_le {a b : Int} (ha : InR a) (hb : InR b) : key D (fi a) ≤ key D (fi b) ↔ a ≤ b := by
  rw [key_fi ha, key_fi hb]
  have h1 := rung_fi ha hb
  have h2 := rung_fi hb ha
  have z1 := fi_zero ha
  have z2 := fi_zero hb
  generalize rung D (fi a) = r at *
  generalize rung D (fi b) = s at *
  by_cases c1 : a < 0 <;> by_cases c2 : b < 0 <;> simp only [c1, c2, if_true, if_false] <;> omega

/-- a mean lies between its bounds -/
theorem div_between {s lo hi : Int} {d : Nat} {x : Nat} (hs : InR s) (hd : InR d) (h0 : 0 < d) (h1 : InR lo) (h2 : InR hi) (hl : lo * d ≤ s) (hh : s ≤ hi * d)
    (hx : D.div (fi s) (fi d) = some x) : key D (fi lo) ≤ key D x ∧ key D x ≤ key D (fi hi) := by
  rw [div_fi hs hd (by omega)] at hx
  cases hx
  have hp := Nat.two_pow_pos (K D)
  have hda : 0 < (d : Int).natAbs := by omega
  rw [key_mk, decide_eq_false (show ¬ (d : Int) < 0 by omega), Bool.xor_false, key_fi h1, key_fi h2]
  obtain ⟨f1, _, _, v1, _⟩ := fi_parts h1
  obtain ⟨f2, _, _, v2, _⟩ := fi_parts h2
  unfold fin at f1 f2
  have nd : (d : Int).natAbs = d := by omega
  rw [nd]
  have up : ∀ t : Int, ∀ r : Nat, rv D r = t.natAbs * 2 ^ K D → s.natAbs ≤ t.natAbs * d → rn D (s.natAbs * 2 ^ K D) d ≤ r := by
    intro t r hr h
    refine rn_le_of D h0 ?_
    rw [hr, Nat.mul_assoc, Nat.mul_comm (2 ^ K D), ← Nat.mul_assoc]
    exact Nat.mul_le_mul_right _ h
  have dn : ∀ t : Int, ∀ r : Nat, rv D r = t.natAbs * 2 ^ K D → t.natAbs * d ≤ s.natAbs → r ≤ rn D (s.natAbs * 2 ^ K D) d := by
    intro t r hr h
    refine le_rn_of D h0 ?_
    rw [hr, Nat.mul_assoc, Nat.mul_comm (2 ^ K D), ← Nat.mul_assoc]
    exact Nat.mul_le_mul_right _ h
  have u1 := up lo _ v1
  have u2 := up hi _ v2
  have d1 := dn lo _ v1
  have d2 := dn hi _ v2
  have a1 : ((lo.natAbs * d : Nat) : Int) = (if lo < 0 then -lo else lo) * d := by rw [Int.natCast_mul]; congr 1; split <;> omega
  have a2 : ((hi.natAbs * d : Nat) : Int) = (if hi < 0 then -hi else hi) * d := by rw [Int.natCast_mul]; congr 1; split <;> omega
  have n1 : lo < 0 → (-lo) * (d : Int) = -(lo * d) := fun _ => Int.neg_mul _ _
  have n2 : hi < 0 → (-hi) * (d : Int) = -(hi * d) := fun _ => Int.neg_mul _ _
  have p1 : 0 ≤ lo → 0 ≤ lo * (d : Int) := fun h => Int.mul_nonneg h (by omega)
  have p2 : hi < 0 → hi * (d : Int) < 0 := fun h => by
    have := Int.mul_lt_mul_of_pos_right h (show (0 : Int) < d by omega)
    rwa [Int.zero_mul] at this
  generalize rn D (s.natAbs * 2 ^ K D) d = R at *
  generalize rung D (fi lo) = A at *
  generalize rung D (fi hi) = B at *
  generalize D.infRung = I at *
  generalize lo.natAbs * d = LD at *
  generalize hi.natAbs * d = HD at *
  clear up dn v1 v2 hp
  unfold sg
  by_cases c0 : s < 0
  · rw [decide_eq_true c0]
    simp only [if_true]
    by_cases c1 : lo < 0
    · by_cases c2 : hi < 0
      · simp only [c1, c2, if_true] at a1 a2 n1 n2 p2 ⊢
        generalize lo * (d : Int) = x1 at *
        generalize hi * (d : Int) = x2 at *
        have := n1 trivial
        have := n2 trivial
        omega
      · simp only [c1, c2, if_true, if_false] at a1 n1 ⊢
        generalize lo * (d : Int) = x1 at *
        have := n1 trivial
        omega
    · have := p1 (by omega)
      omega
  · rw [decide_eq_false c0]
    simp only [Bool.false_eq_true, if_false]
    by_cases c2 : hi < 0
    · have := p2 c2
      omega
    · by_cases c1 : lo < 0
      · simp only [c1, c2, if_true, if_false] at a2 ⊢
        generalize hi * (d : Int) = x2 at *
        omega
      · simp only [c1, c2, if_false] at a1 a2 ⊢
        generalize hi * (d : Int) = x2 at *
        generalize lo * (d : Int) = x1 at *
        omega

/-- sums -/
def isum (X : Nat → Int) : Nat → Int
  | 0 => X 0
  | k + 1 => isum X k + X (k + 1)
theorem isum_bound (X : Nat → Int) (lo hi : Int) (k : Nat) (h : ∀ i, i ≤ k → lo ≤ X i ∧ X i ≤ hi) : lo * ((k + 1 : Nat) : Int) ≤ isum X k ∧ isum X k ≤ hi * ((k + 1 : Nat) : Int) := by
  induction k with
  | zero => have := h 0 (Nat.le_refl _); simpa [isum] using this
  | succ k ih =>
    have h1 := ih (fun i hi => h i (by omega))
    have h2 := h (k + 1) (Nat.le_refl _)
    have e1 : lo * ((k + 1 + 1 : Nat) : Int) = lo * ((k + 1 : Nat) : Int) + lo := by rw [show ((k + 1 + 1 : Nat) : Int) = ((k + 1 : Nat) : Int) + 1 by omega, Int.mul_add, Int.mul_one]
    have e2 : hi * ((k + 1 + 1 : Nat) : Int) = hi * ((k + 1 : Nat) : Int) + hi := by rw [show ((k + 1 + 1 : Nat) : Int) = ((k + 1 : Nat) : Int) + 1 by omega, Int.mul_add, Int.mul_one]
    rw [e1, e2]
    show lo * _ + lo ≤ isum X k + X (k + 1) ∧ isum X k + X (k + 1) ≤ _
    omega

theorem InR_small {n : Int} (h : -1000000 ≤ n ∧ n ≤ 1000000) : InR n := by unfold InR; omega

theorem isum_in (X : Nat → Int) (hX : ∀ i, -1000 ≤ X i ∧ X i ≤ 1000) (k : Nat) (hk : k ≤ 900) : -1000000 ≤ isum X k ∧ isum X k ≤ 1000000 := by
  have := isum_bound X (-1000) 1000 k (fun i _ => hX i)
  omega

theorem sumC_int (X : Nat → Int) (hX : ∀ i, -1000 ≤ X i ∧ X i ≤ 1000) (k : Nat) (hk : k ≤ 900) : sumC (fun i => fi (X i)) k = some (fi (isum X k)) := by
  induction k with
  | zero => exact cl_num (fi_parts (InR_small (by have := hX 0; omega))).2.1
  | succ k ih =>
    show (sumC _ k).bind _ = _
    rw [ih (by omega)]
    have := isum_in X hX k (by omega)
    have := hX (k + 1)
    exact add_fi (InR_small (by omega)) (InR_small (by omega))

/-- the mean of whole floats -/
theorem mean_int (X : Nat → Int) (hX : ∀ i, -1000 ≤ X i ∧ X i ≤ 1000) (n : Nat) (h0 : 0 < n) (hn : n ≤ 900) (lo hi : Int) (hlo : InR lo) (hhi : InR hi) (hb : ∀ i, i < n → lo ≤ X i ∧ X i ≤ hi) :
    ∃ x, meanC (fun i => fi (X i)) n = some x ∧ isNaN D x = false ∧ key D (fi lo) ≤ key D x ∧ key D x ≤ key D (fi hi) := by
  obtain ⟨m, rfl⟩ : ∃ m, n = m + 1 := ⟨n - 1, by omega⟩
  have hs := isum_in X hX m (by omega)
  have hb := isum_bound X lo hi m (fun i hi => hb i (by omega))
  have hd : InR ((m + 1 : Nat) : Int) := InR_small (by omega)
  have e := div_fi (InR_small hs) hd (by omega)
  have hm : meanC (fun i => fi (X i)) (m + 1) = D.div (fi (isum X m)) (fi ((m + 1 : Nat) : Int)) := by
    unfold meanC
    rw [if_neg (by omega), Nat.add_sub_cancel, sumC_int X hX m (by omega)]
    rfl
  exact ⟨_, hm.trans e, nan_mk .., div_between (InR_small hs) hd (Nat.succ_pos m) hlo hhi hb.1 hb.2 e⟩

/-- a value, and its negative, in turn -/
def turnF (X : Nat → Int) (i : Nat) : Nat := if i % 2 = 0 then fi (X (i / 2)) else Op.negFloat .f64 (fi (X (i / 2)))
theorem turnF_even (X : Nat → Int) (k : Nat) : turnF X (k * 2) = fi (X k) := by unfold turnF; rw [if_pos (by omega), show k * 2 / 2 = k by omega]
theorem turnF_odd (X : Nat → Int) (k : Nat) : turnF X (k * 2 + 1) = Op.negFloat .f64 (fi (X k)) := by unfold turnF; rw [if_neg (by omega), show (k * 2 + 1) / 2 = k by omega]
theorem sumC_turn (X : Nat → Int) (hX : ∀ i, -1000 ≤ X i ∧ X i ≤ 1000) (k : Nat) : sumC (turnF X) (k * 2) = some (fi (X k)) ∧ sumC (turnF X) (k * 2 + 1) = some (fi 0) := by
  have odd : ∀ k, sumC (turnF X) (k * 2) = some (fi (X k)) → sumC (turnF X) (k * 2 + 1) = some (fi 0) := by
    intro k h
    show (sumC (turnF X) (k * 2)).bind _ = _
    rw [h, turnF_odd]
    exact add_neg (InR_small (by have := hX k; omega))
  induction k with
  | zero =>
    have h : sumC (turnF X) (0 * 2) = some (fi (X 0)) := by
      rw [Nat.zero_mul]
      show cl (turnF X (0 * 2)) = _
      rw [turnF_even]
      exact cl_num (fi_parts (InR_small (by have := hX 0; omega))).2.1
    exact ⟨h, odd 0 h⟩
  | succ k ih =>
    have h : sumC (turnF X) ((k + 1) * 2) = some (fi (X (k + 1))) := by
      rw [show (k + 1) * 2 = k * 2 + 1 + 1 by omega]
      show (sumC (turnF X) (k * 2 + 1)).bind _ = _
      rw [ih.2, show k * 2 + 1 + 1 = (k + 1) * 2 by omega, turnF_even]
      have := add_fi (a := 0) (b := X (k + 1)) (InR_small (by omega)) (InR_small (by have := hX (k + 1); omega))
      rw [Int.zero_add] at this
      exact this
    exact ⟨h, odd _ h⟩
theorem mk_nought (d : Nat) (hd : 0 < d) : mk D false 0 d = 0 := by
  rw [mk_congr false hd (show 0 < 1 by omega) (show 0 * 1 = 0 * d by omega)]
  decide
theorem div_nought {c : Nat} (h0 : 0 < c) (hc : c ≤ 2000) : D.div (fi 0) (fi (c : Int)) = some 0 := by
  rw [div_fi (InR_small (by omega)) (InR_small (by omega)) (by omega), Int.natAbs_zero, Nat.zero_mul, decide_eq_false (show ¬ (0 : Int) < 0 by omega), decide_eq_false (show ¬ (c : Int) < 0 by omega), Bool.xor_false]
  exact congrArg some (mk_nought _ (by omega))
theorem mean_turn (X : Nat → Int) (hX : ∀ i, -1000 ≤ X i ∧ X i ≤ 1000) (n : Nat) (h0 : 0 < n) (hn : n ≤ 900) : meanC (turnF X) (n * 2) = some 0 := by
  obtain ⟨m, rfl⟩ : ∃ m, n = m + 1 := ⟨n - 1, by omega⟩
  have e := div_nought (c := (m + 1) * 2) (by omega) (by omega)
  have hs := (sumC_turn X hX m).2
  have hk : (m + 1) * 2 - 1 = m * 2 + 1 := by omega
  unfold meanC
  rw [if_neg (by omega), hk, hs, Option.bind_some]
  exact e
end Go.FlW
