/- Plain facts on quotients of whole numbers as floats: multiples, the other sign, order, what is left of the whole. No program in sight. -/
import Derived.Test.YtokdgppaedklhaaDoorFlW
namespace Go.FlW
open Fl

theorem xor_sign {x : Nat} (_hx : x < 2 ^ 64) : rung D (x ^^^ 2 ^ 63) = rung D x ∧ neg D (x ^^^ 2 ^ 63) = !neg D x := by
  unfold rung neg
  rw [D_sign, show (9223372036854775808 : Nat) = 2 ^ 63 by decide]
  constructor
  · rw [Nat.xor_mod_two_pow, Nat.mod_self]; simp
  · rw [Nat.xor_div_two_pow, Nat.div_self (by decide)]
    rcases Nat.mod_two_eq_zero_or_one (x / 2 ^ 63) with h | h
    · have : (x / 2 ^ 63 ^^^ 1) % 2 = 1 := by
        have := Nat.xor_mod_two_pow (a := x / 2 ^ 63) (b := 1) (n := 1)
        rw [Nat.pow_one] at this
        rw [this, h]; rfl
      rw [this, h]; rfl
    · have : (x / 2 ^ 63 ^^^ 1) % 2 = 0 := by
        have := Nat.xor_mod_two_pow (a := x / 2 ^ 63) (b := 1) (n := 1)
        rw [Nat.pow_one] at this
        rw [this, h]; rfl
      rw [this, h]; rfl

theorem negF {x : Nat} (hx : x < 2 ^ 64) : key D (Op.negFloat .f64 x) = -key D x ∧ isNaN D (Op.negFloat .f64 x) = isNaN D x := by
  have e : Op.negFloat .f64 x = x ^^^ 2 ^ 63 := rfl
  rw [e]
  obtain ⟨h1, h2⟩ := xor_sign hx
  constructor
  · unfold key; rw [h1, h2]; cases neg D x <;> simp
  · unfold isNaN; rw [h1]

theorem mk_congr (s : Bool) {N M N' M' : Nat} (h0 : 0 < M) (h0' : 0 < M') (h : N * M' = N' * M) : mk D s N M = mk D s N' M' := by
  unfold mk; rw [rn_congr D h0 h0' h]

/-- a quotient of whole numbers, not by nought -/
theorem div_fi {n d : Int} (hn : InR n) (hd : InR d) (h0 : d ≠ 0) : D.div (fi n) (fi d) = some (mk D (decide (n < 0) ^^ decide (d < 0)) (n.natAbs * 2 ^ K D) d.natAbs) := by
  obtain ⟨f1, _, s1, v1, _⟩ := fi_parts hn
  obtain ⟨f2, _, s2, v2, _⟩ := fi_parts hd
  rw [div_fin D D_hK f1 f2 (fun g => h0 ((fi_zero hd).1 g)), s1, s2, v1, v2]
  refine congrArg some ?_
  have hp := Nat.two_pow_pos (K D)
  have hda : 0 < d.natAbs := by omega
  refine mk_congr _ (Nat.mul_pos hda hp) hda ?_
  rw [Nat.mul_assoc (n.natAbs * 2 ^ K D), Nat.mul_comm (2 ^ K D) d.natAbs]

theorem mk_scale (s : Bool) (N M k : Nat) (hM : 0 < M) (hk : 0 < k) : mk D s (k * N) (k * M) = mk D s N M := by
  refine mk_congr _ (Nat.mul_pos hk hM) hM ?_
  rw [Nat.mul_comm k N, Nat.mul_assoc]

/-- a share of multiples is the share -/
theorem div_mult {n d k : Int} (hn : InR n) (hd : InR d) (hkn : InR (k * n)) (hkd : InR (k * d)) (hk : 0 < k) : D.div (fi (k * n)) (fi (k * d)) = D.div (fi n) (fi d) := by
  have sgn : ∀ x : Int, decide (k * x < 0) = decide (x < 0) := by
    intro x
    have := Int.mul_lt_mul_left (a := k) (b := x) (c := 0) hk
    rw [Int.mul_zero] at this
    simp only [this]
  by_cases h0 : d = 0
  · subst h0
    rw [Int.mul_zero, div_fi_zero hkn, div_fi_zero hn, sgn]
    have : k * n = 0 ↔ n = 0 := by
      constructor
      · intro h; rcases Int.mul_eq_zero.1 h with h | h <;> omega
      · intro h; rw [h, Int.mul_zero]
    simp only [this]
  · have hkd0 : k * d ≠ 0 := Int.mul_ne_zero (by omega) h0
    rw [div_fi hkn hkd hkd0, div_fi hn hd h0, sgn, sgn, Int.natAbs_mul, Int.natAbs_mul, Nat.mul_assoc, mk_scale _ _ _ _ (by omega) (by omega)]

/-- with the other sign -/
theorem div_neg {n d : Int} {x m : Nat} (hn : InR n) (hd : InR d) (hx : D.div (fi n) (fi d) = some x) (hm : D.div (fi (-n)) (fi d) = some m) : key D m = -key D x ∧ isNaN D m = false ∧ isNaN D x = false := by
  refine ⟨?_, nan_div D hm, nan_div D hx⟩
  have hn' : InR (-n) := by unfold InR at hn ⊢; omega
  by_cases h0 : d = 0
  · subst h0
    rw [div_fi_zero hn] at hx
    rw [div_fi_zero hn'] at hm
    by_cases z : n = 0
    · rw [if_pos z] at hx; cases hx
    · rw [if_neg z] at hx
      rw [if_neg (by omega)] at hm
      cases hx; cases hm
      rw [key_word D _ (inf_lt D), key_word D _ (inf_lt D)]
      by_cases h : n < 0
      · rw [decide_eq_true h, decide_eq_false (by omega)]; simp
      · rw [decide_eq_false h, decide_eq_true (by omega)]; simp
  · rw [div_fi hn hd h0] at hx
    rw [div_fi hn' hd h0] at hm
    cases hx; cases hm
    rw [key_mk, key_mk, Int.natAbs_neg]
    by_cases z : n = 0
    · subst z
      have : rn D (Int.natAbs 0 * 2 ^ K D) d.natAbs = 0 := by
        have := rn_exact D 0 d.natAbs (by omega)
        rw [rv_zero, Nat.zero_mul] at this
        simpa using this
      rw [this, Nat.zero_min]
      unfold sg; simp
    · have : decide (-n < 0) = !decide (n < 0) := by
        by_cases h : n < 0
        · rw [decide_eq_true h, decide_eq_false (by omega)]; rfl
        · rw [decide_eq_false h, decide_eq_true (by omega)]; rfl
      rw [this]
      unfold sg
      cases decide (n < 0) <;> cases decide (d < 0) <;> simp

/-- of shares with one whole the one with more is not less -/
theorem div_mono {n d : Int} {x y : Nat} (hn : InR n) (hn1 : InR (n + 1)) (hd : InR d) (h0 : 0 < d) (hx : D.div (fi n) (fi d) = some x) (hy : D.div (fi (n + 1)) (fi d) = some y) : key D x ≤ key D y := by
  rw [div_fi hn hd (by omega)] at hx
  rw [div_fi hn1 hd (by omega)] at hy
  cases hx; cases hy
  have hp := Nat.two_pow_pos (K D)
  have hda : 0 < d.natAbs := by omega
  rw [key_mk, key_mk, decide_eq_false (show ¬ d < 0 by omega)]
  by_cases h : n < 0
  · rw [decide_eq_true h]
    by_cases h1 : n + 1 < 0
    · rw [decide_eq_true h1]
      have : rn D ((n + 1).natAbs * 2 ^ K D) d.natAbs ≤ rn D (n.natAbs * 2 ^ K D) d.natAbs :=
        rn_mono D hda hda (Nat.mul_le_mul_right _ (Nat.mul_le_mul_right _ (by omega)))
      unfold sg; simp; omega
    · rw [decide_eq_false h1]; unfold sg; simp
  · rw [decide_eq_false h, decide_eq_false (show ¬ n + 1 < 0 by omega)]
    have : rn D (n.natAbs * 2 ^ K D) d.natAbs ≤ rn D ((n + 1).natAbs * 2 ^ K D) d.natAbs :=
      rn_mono D hda hda (Nat.mul_le_mul_right _ (Nat.mul_le_mul_right _ (by omega)))
    unfold sg; simp; omega

/-- a share of at most the whole -/
theorem share_part {n d : Int} {x : Nat} (hn : InR n) (hd : InR d) (h0 : 0 < d) (hn0 : 0 ≤ n) (hle : n ≤ d) (hx : D.div (fi n) (fi d) = some x) :
    ∃ r, x = D.word false r ∧ r < D.infRung ∧ r < D.signWeight ∧ 2 * (rv D r * d.natAbs) ≤ 2 * (n.natAbs * 2 ^ K D) + d.natAbs * 2 ^ (K D - 52) ∧ 2 * (n.natAbs * 2 ^ K D) ≤ 2 * (rv D r * d.natAbs) + d.natAbs * 2 ^ (K D - 52) := by
  rw [div_fi hn hd (by omega)] at hx
  cases hx
  have hp := Nat.two_pow_pos (K D)
  have hda : 0 < d.natAbs := by omega
  have hle2 : rn D (n.natAbs * 2 ^ K D) d.natAbs ≤ one := by
    refine rn_le_of D hda ?_
    rw [rv_one, Nat.mul_comm]
    exact Nat.mul_le_mul_left _ (by omega)
  have h1 : one < D.infRung := by decide
  have h2 := inf_lt D
  refine ⟨rn D (n.natAbs * 2 ^ K D) d.natAbs, ?_, by omega, by omega, ?_⟩
  · unfold mk
    rw [decide_eq_false (show ¬ n < 0 by omega), decide_eq_false (show ¬ d < 0 by omega), Nat.min_eq_left (by omega), Bool.xor_false]
  · refine rn_err D (K D - 52) hda ?_
    rw [D_frac, show 52 + 1 + (K D - 52) = K D + 1 by rw [D_K], Nat.pow_succ, Nat.mul_comm]
    have e1 : 2 ^ K D * n.natAbs ≤ 2 ^ K D * d.natAbs := Nat.mul_le_mul_left _ (by omega)
    have e2 : 0 < 2 ^ K D * d.natAbs := Nat.mul_pos hp hda
    have e3 : d.natAbs * (2 ^ K D * 2) = 2 * (2 ^ K D * d.natAbs) := by rw [Nat.mul_comm (2 ^ K D) 2, Nat.mul_left_comm, Nat.mul_comm d.natAbs]
    omega

/-- the rungs of 1 - 2 ^ -21, 1 + 2 ^ -21, 2 ^ -21 -/
def rLo : Nat := (K D - 53) * D.binade + 9007194959773696
def rHi : Nat := (K D - 52) * D.binade + 4503601774854144
def rEps : Nat := (K D - 73) * D.binade + D.binade

theorem rv_lo : rv D rLo = 9007194959773696 * 2 ^ (K D - 53) := rv_at D _ _ (Or.inr (by decide)) (by decide)
theorem rv_hi : rv D rHi = 4503601774854144 * 2 ^ (K D - 52) := rv_at D _ _ (Or.inr (by decide)) (by decide)
theorem rv_eps : rv D rEps = D.binade * 2 ^ (K D - 73) := rv_at D _ _ (Or.inr (Nat.le_refl _)) (by decide)

/-- a share and what is left of the whole are near 1 together -/
theorem share_whole {n d : Int} {x y : Nat} (hn : InR n) (hd : InR d) (h0 : 0 < d) (hn0 : 0 ≤ n) (hle : n ≤ d) (hx : D.div (fi n) (fi d) = some x) (hy : D.div (fi (d - n)) (fi d) = some y) :
    ∃ s, D.add x y = some s ∧ isNaN D s = false ∧ withinB s 4607182418800017408 4517329193108106637 = true := by
  obtain ⟨r, hxe, hr1, hr2, ha, hb⟩ := share_part hn hd h0 hn0 hle hx
  obtain ⟨t, hye, ht1, ht2, hc, he⟩ := share_part (n := d - n) (by unfold InR at *; omega) hd h0 (by omega) (by omega) hy
  have hp := Nat.two_pow_pos (K D)
  have hda : 0 < d.natAbs := by omega
  -- the sum of the two magnitudes
  have hsum : (d - n).natAbs + n.natAbs = d.natAbs := by omega
  obtain ⟨M, hM⟩ : ∃ M, d.natAbs = M := ⟨_, rfl⟩
  obtain ⟨q, hQ⟩ : ∃ q, 2 ^ (K D - 52) = q := ⟨_, rfl⟩
  rw [hM] at ha hb hc he hda hsum
  rw [hQ] at ha hb hc he
  obtain ⟨u, hU⟩ : ∃ u, rv D r = u := ⟨_, rfl⟩
  obtain ⟨v, hV⟩ : ∃ v, rv D t = v := ⟨_, rfl⟩
  rw [hU] at ha hb
  rw [hV] at hc he
  have hKq : 2 ^ K D = 4503599627370496 * q := by
    rw [← hQ, show (4503599627370496 : Nat) = 2 ^ 52 by decide, ← Nat.pow_add, show 52 + (K D - 52) = K D by rw [D_K]]
  have tot : (d - n).natAbs * 2 ^ K D + n.natAbs * 2 ^ K D = M * 2 ^ K D := by rw [← Nat.add_mul, hsum]
  have up : (u + v) * M ≤ (2 ^ K D + q) * M := by
    rw [Nat.add_mul, Nat.add_mul, Nat.mul_comm (2 ^ K D) M, Nat.mul_comm q M]; omega
  have lo : (2 ^ K D - q) * M ≤ (u + v) * M := by
    rw [Nat.add_mul, Nat.sub_mul, Nat.mul_comm (2 ^ K D) M, Nat.mul_comm q M]; omega
  have up' : u + v ≤ 2 ^ K D + q := Nat.le_of_mul_le_mul_right up hda
  have lo' : 2 ^ K D - q ≤ u + v := Nat.le_of_mul_le_mul_right lo hda
  have fx : fin D (D.word false r) := by unfold fin; rw [rung_word D _ hr2]; exact hr1
  have fy : fin D (D.word false t) := by unfold fin; rw [rung_word D _ ht2]; exact ht1
  have sx : sv D (D.word false r) = (u : Int) := by unfold sv; rw [rung_word D _ hr2, neg_word D _ hr2, hU]; rfl
  have sy : sv D (D.word false t) = (v : Int) := by unfold sv; rw [rung_word D _ ht2, neg_word D _ ht2, hV]; rfl
  rw [hxe, hye]
  refine ⟨_, add_fin D fx fy, nan_enc .., ?_⟩
  rw [sx, sy, neg_word D _ hr2, Bool.false_and]
  have hq : 0 < q := by rw [← hQ]; exact Nat.two_pow_pos _
  have hn1 : ((u : Int) + v).natAbs = u + v := by omega
  -- the rung of the sum
  have e53 : 2 ^ (K D - 53) * 2 = q := by rw [← hQ, ← Nat.pow_succ]; exact congrArg (2 ^ ·) (show K D - 53 + 1 = K D - 52 by rw [D_K])
  have e73 : 2 ^ (K D - 73) * 2097152 = q := by
    rw [← hQ, show (2097152 : Nat) = 2 ^ 21 by decide, ← Nat.pow_add, show K D - 73 + 21 = K D - 52 by rw [D_K]]
  have g1 : rLo ≤ rn D (u + v) 1 := le_rn_of D (by omega) (by rw [rv_lo]; omega)
  have g2 : rn D (u + v) 1 ≤ rHi := rn_le_of D (by omega) (by rw [rv_hi, hQ]; omega)
  have hhi : rHi < D.infRung := by decide
  generalize hs : enc D false ((u : Int) + v) = s
  have hlt : rn D (u + v) 1 < D.infRung := Nat.lt_of_le_of_lt g2 hhi
  have rs : rung D s = rn D (u + v) 1 := by rw [← hs, rung_enc, hn1, Nat.min_eq_left (Nat.le_of_lt hlt)]
  have ns : neg D s = false := by
    rw [← hs, neg_enc D _ _ (by omega)]; exact decide_eq_false (by omega)
  have ks : key D s = rn D (u + v) 1 := by unfold key; rw [ns, rs]; rfl
  have nns : isNaN D s = false := by rw [← hs]; exact nan_enc ..
  have k1 : key D 4607182418800017408 = one := by decide
  have n1 : isNaN D 4607182418800017408 = false := by decide
  have hsv : sv D s = (rv D (rn D (u + v) 1) : Int) := by unfold sv; rw [ns, rs]; rfl
  have h1v : sv D 4607182418800017408 = ((2 ^ K D : Nat) : Int) := by
    have : rung D 4607182418800017408 = one := by decide
    unfold sv; rw [this, rv_one]; rfl
  have w1 : rv D rLo ≤ rv D (rn D (u + v) 1) := (rv_le_iff D).2 g1
  have w2 : rv D (rn D (u + v) 1) ≤ rv D rHi := (rv_le_iff D).2 g2
  rw [rv_lo] at w1
  rw [rv_hi, hQ] at w2
  unfold withinB
  rw [show tolOk 4517329193108106637 = true by decide, nns, n1, ks, k1]
  simp only [Bool.not_false, Bool.and_true, Bool.true_and, Bool.or_eq_true, decide_eq_true_eq]
  right
  have fs : fin D s := by unfold fin; rw [rs]; exact hlt
  have f1 : fin D 4607182418800017408 := by unfold fin; decide
  unfold nearB
  rw [sub_fin D fs f1]
  simp only [decide_eq_true_eq]
  rw [rung_enc, hsv, h1v, hKq]
  have kt : key D 4517329193108106637 = 4517329193108106637 := by decide
  rw [kt]
  have heps : rEps < 4517329193108106637 := by decide
  generalize rv D (rn D (u + v) 1) = z at *
  have hz : ((z : Int) - ((4503599627370496 * q : Nat) : Int)).natAbs ≤ rv D rEps * 1 := by
    rw [rv_eps, D_binade]
    generalize 2 ^ (K D - 73) = c at *
    generalize 2 ^ (K D - 53) = c' at *
    omega
  have h3 := rn_le_of D (by omega) hz
  exact Int.ofNat_le.2 (Nat.le_trans (Nat.min_le_left _ _) (Nat.le_trans h3 (Nat.le_of_lt heps)))
end Go.FlW
