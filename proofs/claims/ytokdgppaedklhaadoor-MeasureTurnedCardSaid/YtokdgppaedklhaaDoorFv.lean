/- Plain facts on quotients of whole numbers as floats: how they compare. No condition but the bounds that each theorem names. -/
import Derived.Test.YtokdgppaedklhaaDoorFt
namespace Go.Proofs.YtokdgppaedklhaaDoor
open Fl Go.FlW
theorem fi_one : fi ((1 : Nat) : Int) = 4607182418800017408 := by decide
theorem key_zero0 : key D 0 = 0 := by decide
theorem nan_zero0 : isNaN D 0 = false := by decide
theorem q_eq_self {n d r : Nat} (hn : n ≤ 9007199254740992) (hd : d ≤ 9007199254740992) (h0 : 0 < d) (h : IsQ n d r) : (FloatKind.f64.format.order r r == some .eq) = true := by
  rw [ord_eq, q_num hn hd h0 h]; simp
theorem q_ne_self {n d r : Nat} (hn : n ≤ 9007199254740992) (hd : d ≤ 9007199254740992) (h0 : 0 < d) (h : IsQ n d r) : (FloatKind.f64.format.order r r != some .eq) = false := by
  unfold bne; rw [q_eq_self hn hd h0 h]; rfl
theorem q_nan_self {r : Nat} (h : IsQ 0 0 r) : (FloatKind.f64.format.order r r == some .eq) = false := by
  rw [ord_eq, q_none h]; rfl
theorem q_lt0 {n d r : Nat} (hn : n ≤ 9007199254740992) (hd : d ≤ 9007199254740992) (h0 : 0 < d) (h : IsQ n d r) : (FloatKind.f64.format.order r 0 == some .lt) = false := by
  have := (q_key hn hd h0 h)
  rw [ord_lt, key_zero0, decide_eq_false (by omega)]; simp
theorem q_gt {n d c r : Nat} (hn : n ≤ 9007199254740992) (hd : d ≤ 9007199254740992) (hc : c ≤ 9007199254740992) (h0 : 0 < d) (hle : n ≤ c * d) (h : IsQ n d r) : (FloatKind.f64.format.order r (fi c) == some .gt) = false := by
  have := (q_le hn hd hc h0 hle h).2
  rw [ord_gt, decide_eq_false (by omega)]; simp
theorem q_gt1 {n d r : Nat} (hn : n ≤ 9007199254740992) (hd : d ≤ 9007199254740992) (h0 : 0 < d) (hle : n ≤ d) (h : IsQ n d r) : (FloatKind.f64.format.order r 4607182418800017408 == some .gt) = false := by
  rw [← fi_one]; exact q_gt hn hd (by decide) h0 (by omega) h
theorem q_le1 {n d r : Nat} (hn : n ≤ 9007199254740992) (hd : d ≤ 9007199254740992) (h0 : 0 < d) (hle : n ≤ d) (h : IsQ n d r) : (FloatKind.f64.format.order r 4607182418800017408 == some .lt || FloatKind.f64.format.order r 4607182418800017408 == some .eq) = true := by
  have h1 := (q_le hn hd (c := 1) (by decide) h0 (by omega) h).2
  rw [fi_one] at h1
  have h2 : isNaN D 4607182418800017408 = false := by decide
  rw [ord_le, q_num hn hd h0 h, h2, decide_eq_true h1]; rfl
theorem q_eq0 {n d r : Nat} (hn : n ≤ 9007199254740992) (hd : d ≤ 9007199254740992) (h0 : 0 < d) (h : IsQ n d r) : (FloatKind.f64.format.order r 0 == some .eq) = decide (n = 0) := by
  have hk := q_key hn hd h0 h
  rw [ord_eq, key_zero0, q_num hn hd h0 h, nan_zero0, hk]
  by_cases hz : n = 0
  · subst hz
    have h1 : rn D (0 * 2 ^ K D) d ≤ 0 := rn_le_of D h0 (by rw [Nat.zero_mul]; exact Nat.zero_le _)
    have h2 : ((min (rn D (0 * 2 ^ K D) d) D.infRung : Nat) : Int) = 0 := by
      have := Nat.min_le_left (rn D (0 * 2 ^ K D) d) D.infRung
      omega
    rw [decide_eq_true h2, decide_eq_true rfl]; rfl
  · have hp : 9007199254740992 ≤ 2 ^ K D := by
      have h3 : (2 : Nat) ^ 53 ≤ 2 ^ K D := Nat.pow_le_pow_right (by decide) (by rw [D_K]; decide)
      exact h3
    have h1 : 1 ≤ rn D (n * 2 ^ K D) d := le_rn_of D h0 (by
      rw [rv_small D (by rw [D_binade]; decide), Nat.one_mul]
      have h4 : 1 * 2 ^ K D ≤ n * 2 ^ K D := Nat.mul_le_mul_right _ (by omega)
      omega)
    have h5 : 0 < D.infRung := D_inf
    have h2 : ¬ ((min (rn D (n * 2 ^ K D) d) D.infRung : Nat) : Int) = 0 := by
      generalize rn D (n * 2 ^ K D) d = z at *
      generalize D.infRung = y at *
      omega
    rw [decide_eq_false h2, decide_eq_false hz]; rfl
theorem inf_facts : (FloatKind.f64.format.order 9218868437227405312 9218868437227405312 != some .eq) = false ∧ (FloatKind.f64.format.order 9218868437227405312 0 == some .eq) = false ∧ (FloatKind.f64.format.order 9218868437227405312 0 == some .lt) = false ∧
    (FloatKind.f64.format.order 9218868437227405312 4607182418800017408 == some .lt || FloatKind.f64.format.order 9218868437227405312 4607182418800017408 == some .eq) = false := by decide
end Go.Proofs.YtokdgppaedklhaaDoor
