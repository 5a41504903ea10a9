/- Plain facts on quotients of whole numbers as floats: between 0 and a whole number; two that make a whole number together are near it. No condition but the bounds that each theorem names. -/
import Derived.Test.YtokdgppaedklhaaDoorSc
import Derived.Test.YtokdgppaedklhaaDoorWj
namespace Go.Proofs.YtokdgppaedklhaaDoor
open Fl Go.FlW

theorem q_none {r : Nat} (h : IsQ 0 0 r) : isNaN D r = true := by
  unfold IsQ at h
  rw [show D.div (fi ((0 : Nat) : Int)) (fi ((0 : Nat) : Int)) = none from by decide] at h
  exact h.1
theorem q_some {n d r : Nat} (hn : n ≤ 9007199254740992) (hd : d ≤ 9007199254740992) (h0 : 0 < d) (h : IsQ n d r) : r = mk D false (n * 2 ^ K D) d := by
  unfold IsQ at h
  rw [div_fi (InR.of_nat hn) (InR.of_nat hd) (by omega)] at h
  have e : (decide ((n : Int) < 0) ^^ decide ((d : Int) < 0)) = false := by
    rw [decide_eq_false (by omega), decide_eq_false (by omega)]; rfl
  rw [e] at h
  have h2 : r = mk D false ((n : Int).natAbs * 2 ^ K D) (d : Int).natAbs := h
  simpa using h2
theorem q_agree {n d r s : Nat} (hn : n ≤ 9007199254740992) (hd : d ≤ 9007199254740992) (h0 : 0 < d) (h : IsQ n d r) (k : IsQ n d s) : r = s := (q_some hn hd h0 h).trans (q_some hn hd h0 k).symm
theorem q_num {n d r : Nat} (hn : n ≤ 9007199254740992) (hd : d ≤ 9007199254740992) (h0 : 0 < d) (h : IsQ n d r) : isNaN D r = false := by rw [q_some hn hd h0 h]; exact nan_mk ..
theorem q_key {n d r : Nat} (hn : n ≤ 9007199254740992) (hd : d ≤ 9007199254740992) (h0 : 0 < d) (h : IsQ n d r) : key D r = ((min (rn D (n * 2 ^ K D) d) D.infRung : Nat) : Int) := by
  rw [q_some hn hd h0 h, key_mk]; rfl
theorem fi_rung {c : Nat} (hc : c ≤ 9007199254740992) : rung D (fi c) < D.infRung ∧ rv D (rung D (fi c)) = c * 2 ^ K D ∧ key D (fi c) = ((rung D (fi c) : Nat) : Int) ∧ isNaN D (fi c) = false := by
  obtain ⟨h1, h2, h3, h4, _⟩ := fi_parts (InR.of_nat hc)
  refine ⟨h1, by simpa using h4, ?_, h2⟩
  unfold key
  rw [h3, decide_eq_false (by omega)]; rfl
theorem q_le {n d c r : Nat} (hn : n ≤ 9007199254740992) (hd : d ≤ 9007199254740992) (hc : c ≤ 9007199254740992) (h0 : 0 < d) (hle : n ≤ c * d) (h : IsQ n d r) : 0 ≤ key D r ∧ key D r ≤ key D (fi c) := by
  obtain ⟨h1, h2, h3, _⟩ := fi_rung hc
  rw [q_key hn hd h0 h, h3]
  refine ⟨by omega, ?_⟩
  have : rn D (n * 2 ^ K D) d ≤ rung D (fi c) := rn_le_of D h0 (by
    rw [h2, Nat.mul_assoc, Nat.mul_comm (2 ^ K D) d, ← Nat.mul_assoc]
    exact Nat.mul_le_mul_right _ hle)
  exact Int.ofNat_le.2 (Nat.le_trans (Nat.min_le_left _ _) this)

/-- a quotient's rung: finite, with its error -/
theorem q_err {n d c r : Nat} (hn : n ≤ 9007199254740992) (hd : d ≤ 9007199254740992) (hc : c ≤ 1048576) (h0 : 0 < d) (hle : n ≤ c * d) (h : IsQ n d r) :
    fin D r ∧ neg D r = false ∧ 2 * (rv D (rung D r) * d) ≤ 2 * (n * 2 ^ K D) + d * 2 ^ (K D - 32) ∧ 2 * (n * 2 ^ K D) ≤ 2 * (rv D (rung D r) * d) + d * 2 ^ (K D - 32) := by
  obtain ⟨h1, h2, _, _⟩ := fi_rung (c := c) (by omega)
  have hrn : rn D (n * 2 ^ K D) d ≤ rung D (fi c) := rn_le_of D h0 (by
    rw [h2, Nat.mul_assoc, Nat.mul_comm (2 ^ K D) d, ← Nat.mul_assoc]
    exact Nat.mul_le_mul_right _ hle)
  have hr := q_some hn hd h0 h
  have hrung : rung D r = rn D (n * 2 ^ K D) d := by rw [hr, rung_mk, Nat.min_eq_left (by omega)]
  refine ⟨by unfold fin; rw [hrung]; omega, by rw [hr]; exact neg_mk .., ?_⟩
  rw [hrung]
  refine rn_err D (K D - 32) h0 ?_
  rw [D_frac, show 52 + 1 + (K D - 32) = K D + 21 by rw [D_K], Nat.pow_add, Nat.mul_comm (2 ^ K D), ← Nat.mul_assoc]
  have hp := Nat.two_pow_pos (K D)
  refine Nat.mul_lt_mul_of_pos_right ?_ hp
  have h3 : c * d ≤ 1048576 * d := Nat.mul_le_mul_right _ hc
  have h4 : d * 2 ^ 21 = 2097152 * d := by rw [Nat.mul_comm]
  rw [h4]; omega

def rE : Nat := (K D - 83) * D.binade + D.binade
theorem rv_rE : rv D rE = D.binade * 2 ^ (K D - 83) := rv_at D _ _ (Or.inr (Nat.le_refl _)) (by decide)

/-- two quotients that make a whole number together -/
theorem q_sum {n m d c x y : Nat} (hn : n ≤ 9007199254740992) (hm : m ≤ 9007199254740992) (hd : d ≤ 9007199254740992) (hc : c ≤ 1048576) (h0 : 0 < d) (hs : n + m = c * d) (hx : IsQ n d x) (hy : IsQ m d y) :
    ∃ s, D.add x y = some s ∧ isNaN D s = false ∧ withinB s (fi c) 4517329193108106637 = true := by
  obtain ⟨fx, nx, ax, bx⟩ := q_err hn hd hc h0 (by omega) hx
  obtain ⟨fy, ny, ay, bY⟩ := q_err hm hd hc h0 (by omega) hy
  obtain ⟨c1, c2, c3, c4⟩ := fi_rung (c := c) (by omega)
  have sx : sv D x = ((rv D (rung D x) : Nat) : Int) := by unfold sv; rw [nx]; rfl
  have sy : sv D y = ((rv D (rung D y) : Nat) : Int) := by unfold sv; rw [ny]; rfl
  have ng : neg D (fi c) = false := by
    have := (fi_parts (InR.of_nat (x := c) (by omega))).2.2.1
    rw [this]; exact decide_eq_false (by omega)
  have sc : sv D (fi c) = ((c * 2 ^ K D : Nat) : Int) := by unfold sv; rw [ng, c2]; rfl
  have hp := Nat.two_pow_pos (K D)
  obtain ⟨u, hU⟩ : ∃ u, rv D (rung D x) = u := ⟨_, rfl⟩
  obtain ⟨v, hV⟩ : ∃ v, rv D (rung D y) = v := ⟨_, rfl⟩
  rw [hU] at ax bx sx
  rw [hV] at ay bY sy
  obtain ⟨q, hQ⟩ : ∃ q, 2 ^ (K D - 32) = q := ⟨_, rfl⟩
  rw [hQ] at ax bx ay bY
  have hq : 0 < q := by rw [← hQ]; exact Nat.two_pow_pos _
  have hKq : 2 ^ K D = 4294967296 * q := by
    rw [← hQ, show (4294967296 : Nat) = 2 ^ 32 by decide, ← Nat.pow_add, show 32 + (K D - 32) = K D by rw [D_K]]
  have e83 : D.binade * 2 ^ (K D - 83) = 2 * q := by
    rw [← hQ, D_binade, show (4503599627370496 : Nat) = 2 ^ 52 by decide, ← Nat.pow_add, ← Nat.pow_succ', show 52 + (K D - 83) = K D - 32 + 1 by rw [D_K]]
  have tot : n * 2 ^ K D + m * 2 ^ K D = c * 2 ^ K D * d := by rw [← Nat.add_mul, hs, Nat.mul_assoc, Nat.mul_comm d, ← Nat.mul_assoc]
  have up : (u + v) * d ≤ (c * 2 ^ K D + q) * d := by rw [Nat.add_mul, Nat.add_mul, Nat.mul_comm q d]; omega
  have lo : (c * 2 ^ K D) * d ≤ (u + v + q) * d := by rw [Nat.add_mul, Nat.add_mul, Nat.mul_comm q d]; omega
  have up' : u + v ≤ c * 2 ^ K D + q := Nat.le_of_mul_le_mul_right up h0
  have lo' : c * 2 ^ K D ≤ u + v + q := Nat.le_of_mul_le_mul_right lo h0
  refine ⟨_, add_fin D fx fy, nan_enc .., ?_⟩
  rw [sx, sy, nx, Bool.false_and]
  have hn1 : ((u : Int) + v).natAbs = u + v := by omega
  have hbig : u + v < 1 * 2 ^ (D.fractionBits + 1 + (K D - 32)) := by
    have h3 : c * 2 ^ K D ≤ 1048576 * 2 ^ K D := Nat.mul_le_mul_right _ hc
    rw [D_frac, show 52 + 1 + (K D - 32) = 21 + K D by rw [D_K], Nat.pow_add, Nat.one_mul, show (2 : Nat) ^ 21 = 2097152 from rfl]
    omega
  have herr := rn_err D (K D - 32) (N := u + v) (D := 1) (by omega) hbig
  rw [hQ] at herr
  obtain ⟨z1, z2, _, _⟩ := fi_rung (c := 1048577) (by decide)
  have hle2 : rn D (u + v) 1 ≤ rung D (fi ((1048577 : Nat) : Int)) := rn_le_of D (by omega) (by
    rw [z2]
    have h3 : c * 2 ^ K D ≤ 1048576 * 2 ^ K D := Nat.mul_le_mul_right _ hc
    omega)
  have hfin : rn D (u + v) 1 < D.infRung := Nat.lt_of_le_of_lt hle2 z1
  generalize hsd : enc D false ((u : Int) + v) = s
  have rs : rung D s = rn D (u + v) 1 := by rw [← hsd, rung_enc, hn1, Nat.min_eq_left (Nat.le_of_lt hfin)]
  have ns : neg D s = false := by
    by_cases hz : (u : Int) + v = 0
    · rw [← hsd, hz]; exact neg_enc_zero ..
    · rw [← hsd, neg_enc D _ _ hz]; exact decide_eq_false (by omega)
  have nns : isNaN D s = false := by rw [← hsd]; exact nan_enc ..
  have hsv : sv D s = ((rv D (rn D (u + v) 1) : Nat) : Int) := by unfold sv; rw [ns, rs]; rfl
  unfold withinB
  rw [show tolOk 4517329193108106637 = true by decide, nns, c4]
  simp only [Bool.not_false, Bool.and_true, Bool.true_and, Bool.or_eq_true, decide_eq_true_eq]
  right
  have fs : fin D s := by unfold fin; rw [rs]; exact hfin
  unfold nearB
  rw [sub_fin D fs c1]
  simp only [decide_eq_true_eq]
  rw [rung_enc, hsv, sc]
  have kt : key D 4517329193108106637 = 4517329193108106637 := by decide
  rw [kt]
  have heps : rE < 4517329193108106637 := by decide
  generalize rv D (rn D (u + v) 1) = z at *
  have hz : ((z : Int) - ((c * 2 ^ K D : Nat) : Int)).natAbs ≤ rv D rE * 1 := by
    rw [rv_rE, e83]
    generalize c * 2 ^ K D = t at *
    omega
  have h3 := rn_le_of D (by omega) hz
  exact Int.ofNat_le.2 (Nat.le_trans (Nat.min_le_left _ _) (Nat.le_trans h3 (Nat.le_of_lt heps)))
end Go.Proofs.YtokdgppaedklhaaDoor
