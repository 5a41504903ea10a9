/- Quotients of whole numbers as floats; bitmaps that do not differ. Conditions: the bounds that each theorem names. -/
import Derived.Test.YtfniekdohidbiaaXj
namespace Go.Proofs.Ytfniekdohidbiaa
open Go.RowKit Go.Bm Fl Go.FlW
theorem mk_congr (s : Bool) {N M N' M' : Nat} (h0 : 0 < M) (h0' : 0 < M') (h : N * M' = N' * M) : mk D s N M = mk D s N' M' := by
  unfold mk; rw [rn_congr D h0 h0' h]
/-- a quotient of whole numbers, not by nought -/
theorem div_fi {n d : Int} (hn : InR n) (hd : InR d) (h0 : d ≠ 0) : D.div (fi n) (fi d) = some (mk D (decide (n < 0) ^^ decide (d < 0)) (n.natAbs * 2 ^ K D) d.natAbs) := by
  obtain ⟨f1, _, s1, v1, _⟩ := fi_parts hn
  obtain ⟨f2, _, s2, v2, _⟩ := fi_parts hd
  rw [div_fin D D_hK f1 f2 (fun g => h0 ((fi_zero hd).1 g)), s1, s2, v1, v2]
  refine congrArg some ?_
  have hp := Nat.two_pow_pos (K D)
  have hda : 0 < d.natAbs := by omega
  refine mk_congr _ (Nat.mul_pos hda hp) hda ?_
  rw [Nat.mul_assoc (n.natAbs * 2 ^ K D), Nat.mul_comm (2 ^ K D) d.natAbs]
theorem q_some {n d r : Nat} (hn : n ≤ 9007199254740992) (hd : d ≤ 9007199254740992) (h0 : 0 < d) (h : IsQ n d r) : r = mk D false (n * 2 ^ K D) d := by
  unfold IsQ at h
  rw [div_fi (InR.of_nat hn) (InR.of_nat hd) (by omega)] at h
  have e : (decide ((n : Int) < 0) ^^ decide ((d : Int) < 0)) = false := by
    rw [decide_eq_false (by omega), decide_eq_false (by omega)]; rfl
  rw [e] at h
  have h2 : r = mk D false ((n : Int).natAbs * 2 ^ K D) (d : Int).natAbs := h
  simpa using h2
theorem q_num {n d r : Nat} (hn : n ≤ 9007199254740992) (hd : d ≤ 9007199254740992) (h0 : 0 < d) (h : IsQ n d r) : isNaN D r = false := by rw [q_some hn hd h0 h]; exact nan_mk ..
theorem q_key {n d r : Nat} (hn : n ≤ 9007199254740992) (hd : d ≤ 9007199254740992) (h0 : 0 < d) (h : IsQ n d r) : key D r = ((min (rn D (n * 2 ^ K D) d) D.infRung : Nat) : Int) := by
  rw [q_some hn hd h0 h, key_mk]; rfl
theorem key_zero0 : key D 0 = 0 := by decide
theorem nan_zero0 : isNaN D 0 = false := by decide
theorem q_eq0 {n d r : Nat} (hn : n ≤ 9007199254740992) (hd : d ≤ 9007199254740992) (h0 : 0 < d) (h : IsQ n d r) : (FloatKind.f64.format.order r 0 == some .eq) = decide (n = 0) := by
  have hk := q_key hn hd h0 h
  rw [ord_eq, key_zero0, q_num hn hd h0 h, nan_zero0, hk]
  by_cases hz : n = 0
  · subst hz
    have h1 : rn D (0 * 2 ^ K D) d ≤ 0 := rn_le_of D h0 (by rw [Nat.zero_mul]; exact Nat.zero_le _)
    have h2 : ((min (rn D (0 * 2 ^ K D) d) D.infRung : Nat) : Int) = 0 := by
      have := Nat.min_le_left (rn D (0 * 2 ^ K D) d) D.infRung
      omega
    rw [decide_eq_true h2, decide_eq_true rfl]; rfl
  · have hp : 9007199254740992 ≤ 2 ^ K D := by
      have h3 : (2 : Nat) ^ 53 ≤ 2 ^ K D := Nat.pow_le_pow_right (by decide) (by rw [D_K]; decide)
      exact h3
    have h1 : 1 ≤ rn D (n * 2 ^ K D) d := le_rn_of D h0 (by
      rw [rv_small D (by rw [D_binade]; decide), Nat.one_mul]
      have h4 : 1 * 2 ^ K D ≤ n * 2 ^ K D := Nat.mul_le_mul_right _ (by omega)
      omega)
    have h5 : 0 < D.infRung := D_inf
    have h2 : ¬ ((min (rn D (n * 2 ^ K D) d) D.infRung : Nat) : Int) = 0 := by
      generalize rn D (n * 2 ^ K D) d = z at *
      generalize D.infRung = y at *
      omega
    rw [decide_eq_false h2, decide_eq_false hz]; rfl
theorem diff_comm (W H : Nat) (A B : Nat → Nat) : diffN W H A B = diffN W H B A := by
  refine sumTo_congr H fun y _ => sumTo_congr W fun x _ => ?_
  by_cases h : px W H A (x : Int) (y : Int) = px W H B (x : Int) (y : Int)
  · rw [if_pos h, if_pos h.symm]
  · rw [if_neg h, if_neg (Ne.symm h)]
theorem sumTo_eq_zero {f : Nat → Nat} : ∀ n, sumTo f n = 0 → ∀ i, i < n → f i = 0
  | 0, _, i, hi => by omega
  | n + 1, h, i, hi => by
    rw [sumTo] at h
    by_cases e : i = n
    · subst e; omega
    · exact sumTo_eq_zero n (by omega) i (by omega)
theorem pop_eq_zero {v : Nat} (hv : v < 2 ^ 64) (h : pop v = 0) : v = 0 := by
  apply Nat.eq_of_testBit_eq
  intro e
  rw [Nat.zero_testBit]
  by_cases he : e < 64
  · have := sumTo_eq_zero 64 h (63 - e) (by omega)
    rw [show 63 - (63 - e) = e by omega, bit_of] at this
    cases hb : v.testBit e
    · rfl
    · rw [hb] at this; cases this
  · exact Nat.testBit_lt_two_pow (Nat.lt_of_lt_of_le hv (Nat.pow_le_pow_right (by decide) (by omega)))
theorem diff_zero {W H n : Nat} {A B : Nat → Nat} (ha : okB W H n A) (hb : okB W H n B) (hA : ∀ i, i < n → A i < 2 ^ 64) (hB : ∀ i, i < n → B i < 2 ^ 64) : diffN W H A B = 0 ↔ ∀ i, i < n → A i = B i := by
  rw [diff_words ha hb]
  constructor
  · intro h i hi
    have h1 := pop_eq_zero (Nat.xor_lt_two_pow (hA i hi) (hB i hi)) (sumTo_eq_zero n h i hi)
    have h2 : A i ^^^ B i ^^^ B i = B i := by rw [h1, Nat.zero_xor]
    rwa [Nat.xor_assoc, Nat.xor_self, Nat.xor_zero] at h2
  · intro h
    refine sumTo_zero n fun i hi => ?_
    show pop (A i ^^^ B i) = 0
    rw [h i hi, Nat.xor_self]
    exact pop_zero.1
end Go.Proofs.Ytfniekdohidbiaa
