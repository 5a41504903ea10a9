/- Plain facts on the floats of IEEE 754 as the model has them: order by signed rungs, rounding, sums and quotients. No condition. -/
import GoSem.Core.Float
namespace Fl
open Ieee

/-! plain facts on round-half-even of fractions -/

/-- a / c, to the nearest, ties to even -/
def rne (a c : Nat) : Nat := a / c + if c < 2 * (a % c) ∨ (c = 2 * (a % c) ∧ a / c % 2 = 1) then 1 else 0

theorem rne_le (a c : Nat) : rne a c ≤ a / c + 1 := by unfold rne; split <;> omega
theorem le_rne (a c : Nat) : a / c ≤ rne a c := by unfold rne; omega

theorem rne_one (a : Nat) : rne a 1 = a := by unfold rne; simp [Nat.mod_one]

theorem rne_scale (a c t : Nat) (ht : 0 < t) : rne (a * t) (c * t) = rne a c := by
  unfold rne
  rw [Nat.mul_div_mul_right _ _ ht, Nat.mul_mod_mul_right]
  have e1 : c * t < 2 * (a % c * t) ↔ c < 2 * (a % c) := by
    rw [show 2 * (a % c * t) = (2 * (a % c)) * t by rw [Nat.mul_assoc]]
    exact Nat.mul_lt_mul_right ht
  have e2 : c * t = 2 * (a % c * t) ↔ c = 2 * (a % c) := by
    rw [show 2 * (a % c * t) = (2 * (a % c)) * t by rw [Nat.mul_assoc]]
    exact Nat.mul_right_cancel_iff ht
  simp only [e1, e2]

theorem rne_mono {a c a' c' : Nat} (hc : 0 < c) (hc' : 0 < c') (h : a * c' ≤ a' * c) : rne a c ≤ rne a' c' := by
  have hq : a / c ≤ a' / c' := by
    rw [Nat.le_div_iff_mul_le hc']
    refine Nat.le_of_mul_le_mul_right ?_ hc
    calc a / c * c' * c = (a / c * c) * c' := by rw [Nat.mul_right_comm]
      _ ≤ a * c' := Nat.mul_le_mul_right _ (Nat.div_mul_le_self a c)
      _ ≤ a' * c := h
  rcases Nat.lt_or_ge (a / c) (a' / c') with hlt | hge
  · exact Nat.le_trans (rne_le a c) (Nat.le_trans hlt (le_rne _ _))
  · have e : a / c = a' / c' := by omega
    have h1 : a / c * c + a % c = a := Nat.div_add_mod' a c
    have h2 : a' / c' * c' + a' % c' = a' := Nat.div_add_mod' a' c'
    have key : (a % c) * c' ≤ (a' % c') * c := by
      have ha : a * c' = (a / c) * c * c' + (a % c) * c' := by
        rw [← Nat.add_mul, h1]
      have hb : a' * c = (a / c) * c * c' + (a' % c') * c := by
        have : (a / c) * c * c' = (a' / c' * c') * c := by rw [e]; exact Nat.mul_right_comm _ _ _
        rw [this, ← Nat.add_mul, h2]
      omega
    unfold rne
    rw [← e]
    apply Nat.add_le_add_left
    split
    · rename_i hup
      have hup' : c' < 2 * (a' % c') ∨ (c' = 2 * (a' % c') ∧ a / c % 2 = 1) := by
        rcases hup with hup | ⟨hup, hodd⟩
        · left
          have t1 : c * c' < (2 * (a % c)) * c' := Nat.mul_lt_mul_of_pos_right hup hc'
          have t2 : (2 * (a % c)) * c' ≤ (2 * (a' % c')) * c := by
            rw [Nat.mul_assoc, Nat.mul_assoc]; exact Nat.mul_le_mul_left 2 key
          have t3 : c' * c < (2 * (a' % c')) * c := by rw [Nat.mul_comm c' c]; omega
          exact Nat.lt_of_mul_lt_mul_right t3
        · have t1 : c * c' = (2 * (a % c)) * c' := by rw [← hup]
          have t2 : (2 * (a % c)) * c' ≤ (2 * (a' % c')) * c := by
            rw [Nat.mul_assoc, Nat.mul_assoc]; exact Nat.mul_le_mul_left 2 key
          have t3 : c' * c ≤ (2 * (a' % c')) * c := by rw [Nat.mul_comm c' c]; omega
          have t4 : c' ≤ 2 * (a' % c') := Nat.le_of_mul_le_mul_right t3 hc
          rcases Nat.lt_or_ge c' (2 * (a' % c')) with g | g
          · exact Or.inl g
          · exact Or.inr ⟨by omega, hodd⟩
      rw [if_pos hup']
      exact Nat.le_refl 1
    · exact Nat.zero_le _

/-- the error: at most half -/
theorem rne_err (a c : Nat) (hc : 0 < c) : 2 * (rne a c * c) ≤ 2 * a + c ∧ 2 * a ≤ 2 * (rne a c * c) + c := by
  have h1 : a / c * c + a % c = a := Nat.div_add_mod' a c
  have h2 := Nat.mod_lt a hc
  unfold rne
  split
  · rw [Nat.add_mul]; omega
  · rw [Nat.add_zero]; omega

/-- the sticky digit tells all -/
theorem rne_sticky (a n h : Nat) (hn : 0 < n) (hh : 0 < h) :
    rne (2 * (a / n) + (a % n != 0).toNat) (2 * (2 * h)) = rne (2 * a) (n * (2 * (2 * h))) := by
  have hg : 0 < 2 * h := by omega
  have hr := Nat.mod_lt a hn
  have hst : (a % n != 0).toNat = if a % n = 0 then 0 else 1 := by
    by_cases e : a % n = 0 <;> simp [e]
  have hst1 : (a % n != 0).toNat ≤ 1 := by rw [hst]; split <;> omega
  generalize hS : (a % n != 0).toNat = st at *
  -- right hand side
  have er : rne (2 * a) (n * (2 * (2 * h))) = rne a (n * (2 * h)) := by
    have := rne_scale a (n * (2 * h)) 2 (by omega)
    rw [← this]; congr 1
    · exact Nat.mul_comm _ _
    · rw [Nat.mul_assoc, Nat.mul_comm (2 * h) 2]
  rw [er]
  have q1 : (2 * (a / n) + st) / (2 * (2 * h)) = a / n / (2 * h) := by
    rw [← Nat.div_div_eq_div_mul]; congr 1; omega
  have q2 : a / (n * (2 * h)) = a / n / (2 * h) := by rw [Nat.div_div_eq_div_mul]
  have r1 : (2 * (a / n) + st) % (2 * (2 * h)) = 2 * (a / n % (2 * h)) + st := by
    have := Nat.div_add_mod (a / n) (2 * h)
    have hlt := Nat.mod_lt (a / n) hg
    have e : 2 * (a / n) + st = 2 * (2 * h) * (a / n / (2 * h)) + (2 * (a / n % (2 * h)) + st) := by
      rw [Nat.mul_assoc 2 (2 * h)]; omega
    rw [e, Nat.mul_add_mod, Nat.mod_eq_of_lt (by omega)]
  have r2 : a % (n * (2 * h)) = n * (a / n % (2 * h)) + a % n := by
    rw [Nat.mod_mul]; omega
  unfold rne
  rw [q1, q2, r1, r2]
  generalize a / n / (2 * h) = Q
  generalize a / n % (2 * h) = t
  generalize a % n = ρ at *
  have c1 : (2 * (2 * h) < 2 * (2 * t + st)) ↔ (n * (2 * h) < 2 * (n * t + ρ)) := by
    constructor
    · intro H
      rcases Nat.lt_or_ge h t with g | g
      · have : n * (h + 1) ≤ n * t := Nat.mul_le_mul_left n g
        rw [Nat.mul_add] at this
        have e : n * (2 * h) = 2 * (n * h) := Nat.mul_left_comm _ _ _
        omega
      · have e1 : h = t := by omega
        have e2 : st = 1 := by omega
        have e3 : ρ ≠ 0 := by intro z; rw [if_pos z] at hst; omega
        subst e1
        have e : n * (2 * h) = 2 * (n * h) := Nat.mul_left_comm _ _ _
        omega
    · intro H
      rcases Nat.lt_or_ge h t with g | g
      · omega
      · rcases Nat.lt_or_ge t h with g' | g'
        · have : n * (t + 1) ≤ n * h := Nat.mul_le_mul_left n g'
          rw [Nat.mul_add] at this
          have e : n * (2 * h) = 2 * (n * h) := Nat.mul_left_comm _ _ _
          omega
        · have e1 : h = t := by omega
          subst e1
          have e : n * (2 * h) = 2 * (n * h) := Nat.mul_left_comm _ _ _
          have e3 : ρ ≠ 0 := by omega
          rw [if_neg e3] at hst
          omega
  have c2 : (2 * (2 * h) = 2 * (2 * t + st)) ↔ (n * (2 * h) = 2 * (n * t + ρ)) := by
    constructor
    · intro H
      have e0 : st = 0 := by omega
      have e1 : h = t := by omega
      have e3 : ρ = 0 := by
        by_cases z : ρ = 0
        · exact z
        · rw [if_neg z] at hst; omega
      subst e1; subst e3
      have e : n * (2 * h) = 2 * (n * h) := Nat.mul_left_comm _ _ _
      omega
    · intro H
      have e : n * (2 * h) = 2 * (n * h) := Nat.mul_left_comm _ _ _
      rcases Nat.lt_or_ge h t with g | g
      · have : n * (h + 1) ≤ n * t := Nat.mul_le_mul_left n g
        rw [Nat.mul_add] at this
        omega
      · rcases Nat.lt_or_ge t h with g' | g'
        · have : n * (t + 1) ≤ n * h := Nat.mul_le_mul_left n g'
          rw [Nat.mul_add] at this
          omega
        · have e1 : h = t := by omega
          subst e1
          have e3 : ρ = 0 := by omega
          rw [if_pos e3] at hst
          omega
  simp only [c1, c2]

theorem cut_even (neg : Bool) (n drop : Nat) : Toward.even.cut neg n drop = rne n (2 ^ drop) := by
  unfold Toward.cut
  dsimp only
  rw [Nat.shiftLeft_eq, Nat.one_mul]
  rcases Nat.le_total drop (n.log2 + 2) with hd | hd
  · rw [Nat.min_eq_left hd]
    unfold rne
    congr 1
    generalize 2 ^ drop = g
    by_cases h1 : g < 2 * (n % g)
    · simp [h1]
    · by_cases h2 : g = 2 * (n % g)
      · by_cases h3 : n / g % 2 = 1 <;> simp [h2.symm, h3]
      · have : (g == 2 * (n % g)) = false := by simpa using h2
        simp [h1, h2, this]
  · rw [Nat.min_eq_right hd]
    have hn : n < 2 ^ (n.log2 + 1) := Nat.lt_log2_self
    have e : 2 ^ (n.log2 + 2) = 2 * 2 ^ (n.log2 + 1) := by rw [Nat.pow_succ, Nat.mul_comm]
    have hle : 2 ^ (n.log2 + 2) ≤ 2 ^ drop := Nat.pow_le_pow_right (by omega) hd
    have d1 : n / 2 ^ (n.log2 + 2) = 0 := Nat.div_eq_of_lt (by omega)
    have m1 : n % 2 ^ (n.log2 + 2) = n := Nat.mod_eq_of_lt (by omega)
    have d2 : n / 2 ^ drop = 0 := Nat.div_eq_of_lt (by omega)
    have m2 : n % 2 ^ drop = n := Nat.mod_eq_of_lt (by omega)
    unfold rne
    rw [d1, m1, d2, m2]
    have f1 : ¬ (2 ^ (n.log2 + 2) < 2 * n) := by omega
    have f2 : ¬ (2 ^ drop < 2 * n) := by omega
    simp [f1, f2]

end Fl
namespace Fl
open Ieee
variable (f : Format)

/-- of a word: its rung, its sign -/
def rung (w : Nat) : Nat := w % f.signWeight
def neg (w : Nat) : Bool := w / f.signWeight % 2 == 1
/-- the signed rung -/
def key (w : Nat) : Int := if neg f w then -(rung f w : Int) else (rung f w : Int)
def isNaN (w : Nat) : Bool := decide (f.infRung < rung f w)
/-- a rung's magnitude, in units of the least place -/
def rv (r : Nat) : Nat := if r < f.binade then r else (f.binade + r % f.binade) * 2 ^ (r / f.binade - 1)
/-- the rung nearest to N / D -/
def rn (N D : Nat) : Nat := ((N / D).log2 - f.fractionBits) * f.binade + rne N (D * 2 ^ ((N / D).log2 - f.fractionBits))

theorem binade_pos : 0 < f.binade := Nat.two_pow_pos _

theorem rv_small {r : Nat} (h : r < f.binade) : rv f r = r := by unfold rv; rw [if_pos h]

theorem rv_at (e k : Nat) (h : e = 0 ∨ f.binade ≤ k) (hk : k ≤ 2 * f.binade) : rv f (e * f.binade + k) = k * 2 ^ e := by
  have hB := binade_pos f
  unfold rv
  rcases Nat.lt_or_ge k f.binade with h1 | h1
  · have : e = 0 := by omega
    subst this
    rw [if_pos (by omega)]; simp
  · rcases Nat.lt_or_ge k (2 * f.binade) with h2 | h2
    · have hd : (e * f.binade + k) / f.binade = e + 1 := by
        rw [show e * f.binade + k = (k - f.binade) + (e + 1) * f.binade by rw [Nat.add_mul]; omega]
        rw [Nat.add_mul_div_right _ _ hB, Nat.div_eq_of_lt (by omega)]; omega
      have hm : (e * f.binade + k) % f.binade = k - f.binade := by
        rw [show e * f.binade + k = (k - f.binade) + (e + 1) * f.binade by rw [Nat.add_mul]; omega]
        rw [Nat.add_mul_mod_self_right, Nat.mod_eq_of_lt (by omega)]
      rw [if_neg (by omega), hd, hm, Nat.add_sub_cancel]
      congr 1; omega
    · have e2 : k = 2 * f.binade := by omega
      have hd : (e * f.binade + k) / f.binade = e + 2 := by
        rw [show e * f.binade + k = (e + 2) * f.binade by rw [Nat.add_mul]; omega]
        exact Nat.mul_div_cancel _ hB
      have hm : (e * f.binade + k) % f.binade = 0 := by
        rw [show e * f.binade + k = (e + 2) * f.binade by rw [Nat.add_mul]; omega]
        exact Nat.mul_mod_left _ _
      rw [if_neg (by omega), hd, hm, show e + 2 - 1 = e + 1 by omega, Nat.pow_succ, e2, Nat.add_zero, Nat.mul_comm 2, Nat.mul_assoc, Nat.mul_comm 2]

theorem rung_parts (r : Nat) : ∃ e k, r = e * f.binade + k ∧ (e = 0 ∨ f.binade ≤ k) ∧ k < 2 * f.binade := by
  have hB := binade_pos f
  rcases Nat.lt_or_ge r f.binade with h | h
  · exact ⟨0, r, by omega, Or.inl rfl, by omega⟩
  · have h1 := Nat.div_add_mod' r f.binade
    have h2 := Nat.mod_lt r hB
    have h3 : 1 ≤ r / f.binade := by rw [Nat.le_div_iff_mul_le hB]; omega
    refine ⟨r / f.binade - 1, f.binade + r % f.binade, ?_, Or.inr (by omega), by omega⟩
    rw [Nat.sub_mul]
    have : f.binade ≤ r / f.binade * f.binade := Nat.le_mul_of_pos_left _ h3
    omega

theorem rv_step (r : Nat) : rv f r < rv f (r + 1) := by
  obtain ⟨e, k, rfl, h, hk⟩ := rung_parts f r
  rw [rv_at f e k h (by omega), Nat.add_assoc, rv_at f e (k + 1) (by omega) (by omega)]
  have := Nat.two_pow_pos e
  rw [Nat.add_mul]; omega

theorem rv_lt {r s : Nat} (h : r < s) : rv f r < rv f s := by
  induction s with
  | zero => omega
  | succ s ih =>
    rcases Nat.lt_or_ge r s with g | g
    · exact Nat.lt_trans (ih g) (rv_step f s)
    · have : r = s := by omega
      subst this; exact rv_step f r

theorem rv_lt_iff {r s : Nat} : rv f r < rv f s ↔ r < s := by
  constructor
  · intro h
    rcases Nat.lt_trichotomy r s with g | g | g
    · exact g
    · subst g; omega
    · have := rv_lt f g; omega
  · exact rv_lt f

theorem rv_inj {r s : Nat} : rv f r = rv f s ↔ r = s := by
  constructor
  · intro h
    rcases Nat.lt_trichotomy r s with g | g | g
    · have := rv_lt f g; omega
    · exact g
    · have := rv_lt f g; omega
  · intro h; rw [h]

theorem rv_le_iff {r s : Nat} : rv f r ≤ rv f s ↔ r ≤ s := by
  have := rv_lt_iff f (r := s) (s := r)
  omega

theorem rv_zero : rv f 0 = 0 := rv_small f (binade_pos f)

/-! rn -/

theorem log2_div_pow (a p : Nat) : (a / 2 ^ p).log2 = a.log2 - p := by
  induction p generalizing a with
  | zero => simp
  | succ p ih =>
    rw [Nat.pow_succ, Nat.mul_comm, ← Nat.div_div_eq_div_mul, ih]
    rw [show (a / 2).log2 = a.log2 - 1 from ?_]
    · omega
    · rcases Nat.lt_or_ge a 2 with h | h
      · have h1 : a / 2 = 0 := by omega
        have h2 : a.log2 = 0 := by
          have : a = 0 ∨ a = 1 := by omega
          rcases this with rfl | rfl <;> rfl
        rw [h1, h2]; rfl
      · rw [Nat.log2_def a, if_pos h]; omega

theorem log2_mul_pow (a p : Nat) (ha : a ≠ 0) : (a * 2 ^ p).log2 = a.log2 + p := by
  have h1 : a * 2 ^ p ≠ 0 := Nat.mul_ne_zero ha (Nat.pos_iff_ne_zero.1 (Nat.two_pow_pos p))
  rw [Nat.log2_eq_iff h1]
  have h2 := Nat.log2_self_le ha
  have h3 : a < 2 ^ (a.log2 + 1) := Nat.lt_log2_self
  constructor
  · rw [Nat.pow_add]; exact Nat.mul_le_mul_right _ h2
  · rw [show a.log2 + p + 1 = (a.log2 + 1) + p by omega, Nat.pow_add]
    exact Nat.mul_lt_mul_of_pos_right h3 (Nat.two_pow_pos p)

theorem log2_mono {a b : Nat} (h : a ≤ b) : a.log2 ≤ b.log2 := by
  by_cases ha : a = 0
  · subst ha; exact Nat.zero_le _
  · have hb : b ≠ 0 := by omega
    exact (Nat.le_log2 hb).2 (Nat.le_trans (Nat.log2_self_le ha) h)

theorem pow_split (a b : Nat) : 2 ^ (a + b) = 2 ^ a * 2 ^ b := Nat.pow_add _ _ _

/-- what is kept: at most twice a binade -/
theorem rn_kept (N D : Nat) (hD : 0 < D) :
    rne N (D * 2 ^ ((N / D).log2 - f.fractionBits)) ≤ 2 * f.binade ∧
    ((N / D).log2 - f.fractionBits = 0 ∨ f.binade ≤ rne N (D * 2 ^ ((N / D).log2 - f.fractionBits))) := by
  have hlt : N / D < 2 ^ ((N / D).log2 + 1) := Nat.lt_log2_self
  have hp := Nat.two_pow_pos ((N / D).log2 - f.fractionBits)
  have hDp : 0 < D * 2 ^ ((N / D).log2 - f.fractionBits) := Nat.mul_pos hD hp
  constructor
  · refine Nat.le_trans (rne_le _ _) ?_
    have : N / (D * 2 ^ ((N / D).log2 - f.fractionBits)) < 2 * f.binade := by
      rw [← Nat.div_div_eq_div_mul]
      rw [Nat.div_lt_iff_lt_mul hp]
      refine Nat.lt_of_lt_of_le hlt ?_
      unfold Format.binade
      rw [← Nat.pow_succ', ← Nat.pow_add]
      exact Nat.pow_le_pow_right (by omega) (by omega)
    omega
  · rcases Nat.eq_zero_or_pos ((N / D).log2 - f.fractionBits) with h | h
    · exact Or.inl h
    · right
      refine Nat.le_trans ?_ (le_rne _ _)
      rw [← Nat.div_div_eq_div_mul, Nat.le_div_iff_mul_le hp]
      unfold Format.binade
      rw [← Nat.pow_add, show f.fractionBits + ((N / D).log2 - f.fractionBits) = (N / D).log2 by omega]
      have : N / D ≠ 0 := by
        intro z; rw [z] at h; simp [show Nat.log2 0 = 0 from rfl] at h
      exact Nat.log2_self_le this

theorem rv_rn (N D : Nat) (hD : 0 < D) : rv f (rn f N D) = rne N (D * 2 ^ ((N / D).log2 - f.fractionBits)) * 2 ^ ((N / D).log2 - f.fractionBits) := by
  obtain ⟨h1, h2⟩ := rn_kept f N D hD
  unfold rn
  exact rv_at f _ _ h2 h1

theorem rn_mono {N D N' D' : Nat} (hD : 0 < D) (hD' : 0 < D') (h : N * D' ≤ N' * D) : rn f N D ≤ rn f N' D' := by
  have hq : N / D ≤ N' / D' := by
    rw [Nat.le_div_iff_mul_le hD']
    refine Nat.le_of_mul_le_mul_right ?_ hD
    calc N / D * D' * D = (N / D * D) * D' := by rw [Nat.mul_right_comm]
      _ ≤ N * D' := Nat.mul_le_mul_right _ (Nat.div_mul_le_self N D)
      _ ≤ N' * D := h
  have hl := log2_mono hq
  obtain ⟨k1, k2⟩ := rn_kept f N D hD
  obtain ⟨k1', k2'⟩ := rn_kept f N' D' hD'
  rcases Nat.lt_or_ge ((N / D).log2 - f.fractionBits) ((N' / D').log2 - f.fractionBits) with g | g
  · unfold rn
    generalize (N / D).log2 - f.fractionBits = e at *
    generalize (N' / D').log2 - f.fractionBits = e' at *
    have : (e + 1) * f.binade ≤ e' * f.binade := Nat.mul_le_mul_right _ g
    rw [Nat.add_mul] at this
    omega
  · have e0 : (N / D).log2 - f.fractionBits = (N' / D').log2 - f.fractionBits := by omega
    unfold rn
    rw [← e0]
    apply Nat.add_le_add_left
    have hp := Nat.two_pow_pos ((N / D).log2 - f.fractionBits)
    refine rne_mono (Nat.mul_pos hD hp) (Nat.mul_pos hD' hp) ?_
    rw [← Nat.mul_assoc, ← Nat.mul_assoc]
    exact Nat.mul_le_mul_right _ h

theorem rn_congr {N D N' D' : Nat} (hD : 0 < D) (hD' : 0 < D') (h : N * D' = N' * D) : rn f N D = rn f N' D' :=
  Nat.le_antisymm (rn_mono f hD hD' (Nat.le_of_eq h)) (rn_mono f hD' hD (Nat.le_of_eq h.symm))

/-- what is a word's magnitude is kept -/
theorem rn_rv (r : Nat) : rn f (rv f r) 1 = r := by
  obtain ⟨e, k, hr, h, hk⟩ := rung_parts f r
  have hv : rv f r = k * 2 ^ e := by rw [hr]; exact rv_at f e k h (by omega)
  rw [hv]
  unfold rn
  rw [Nat.div_one]
  by_cases hk0 : k = 0
  · have he : e = 0 := by have := binade_pos f; omega
    subst hk0; subst he
    rw [hr]; simp [rne]
  · rw [log2_mul_pow k e hk0]
    have hB : f.binade = 2 ^ f.fractionBits := rfl
    have hlo : (e = 0 ∧ k.log2 ≤ f.fractionBits) ∨ k.log2 = f.fractionBits := by
      have hle : k.log2 ≤ f.fractionBits := by
        have : k.log2 < f.fractionBits + 1 := (Nat.log2_lt hk0).2 (by rw [Nat.pow_succ]; omega)
        omega
      rcases h with h | h
      · exact Or.inl ⟨h, hle⟩
      · right
        have := (Nat.le_log2 hk0).2 (by rw [← hB]; exact h)
        omega
    have he : k.log2 + e - f.fractionBits = e := by omega
    rw [he, Nat.one_mul]
    have h2 : rne (k * 2 ^ e) (2 ^ e) = k := by
      have := rne_scale k 1 (2 ^ e) (Nat.two_pow_pos e)
      rw [Nat.one_mul] at this
      rw [this, rne_one]
    rw [h2, hr]

theorem rn_exact (r D : Nat) (hD : 0 < D) : rn f (rv f r * D) D = r := by
  rw [← rn_congr f (N := rv f r) (D := 1) (by omega) hD (by omega), rn_rv]

theorem rn_le_of {N D r : Nat} (hD : 0 < D) (h : N ≤ rv f r * D) : rn f N D ≤ r := by
  have := rn_mono f (N := N) (D := D) (N' := rv f r) (D' := 1) hD (by omega) (by omega)
  rw [rn_rv] at this; exact this

theorem le_rn_of {N D r : Nat} (hD : 0 < D) (h : rv f r * D ≤ N) : r ≤ rn f N D := by
  have := rn_mono f (N := rv f r) (D := 1) (N' := N) (D' := D) (by omega) hD (by omega)
  rw [rn_rv] at this; exact this

/-- the error: at most half of the unit, 2 ^ e, where N / D < 2 ^ (fractionBits + 1 + e) -/
theorem rn_err {N D : Nat} (e : Nat) (hD : 0 < D) (h : N < D * 2 ^ (f.fractionBits + 1 + e)) :
    2 * (rv f (rn f N D) * D) ≤ 2 * N + D * 2 ^ e ∧ 2 * N ≤ 2 * (rv f (rn f N D) * D) + D * 2 ^ e := by
  rw [rv_rn f N D hD]
  have hle : (N / D).log2 - f.fractionBits ≤ e := by
    have hq : N / D < 2 ^ (f.fractionBits + 1 + e) := by
      rw [Nat.div_lt_iff_lt_mul hD, Nat.mul_comm]; exact h
    by_cases z : N / D = 0
    · rw [z]; simp [show Nat.log2 0 = 0 from rfl]
    · have := (Nat.log2_lt z).2 hq
      omega
  generalize (N / D).log2 - f.fractionBits = g at *
  obtain ⟨h1, h2⟩ := rne_err N (D * 2 ^ g) (Nat.mul_pos hD (Nat.two_pow_pos g))
  have h3 : D * 2 ^ g ≤ D * 2 ^ e := Nat.mul_le_mul_left _ (Nat.pow_le_pow_right (by omega) hle)
  have h4 : rne N (D * 2 ^ g) * 2 ^ g * D = rne N (D * 2 ^ g) * (D * 2 ^ g) := by
    rw [Nat.mul_assoc, Nat.mul_comm (2 ^ g) D]
  rw [h4]
  omega

end Fl
namespace Fl
open Ieee
variable (f : Format)

/-! words -/

theorem signWeight_pos : 0 < f.signWeight := Nat.two_pow_pos _
theorem rung_lt (w : Nat) : rung f w < f.signWeight := Nat.mod_lt _ (signWeight_pos f)
theorem inf_lt : f.infRung < f.signWeight := by
  have h : 0 < 2 ^ f.exponentBits := Nat.two_pow_pos _
  have hB := binade_pos f
  unfold Format.infRung Format.signWeight
  rw [Nat.pow_add]
  exact Nat.mul_lt_mul_of_pos_right (by omega) hB

theorem rung_word (s : Bool) {r : Nat} (h : r < f.signWeight) : rung f (f.word s r) = r := by
  unfold rung Format.word
  split
  · rw [Nat.add_mod_left, Nat.mod_eq_of_lt h]
  · exact Nat.mod_eq_of_lt h

theorem neg_word (s : Bool) {r : Nat} (h : r < f.signWeight) : neg f (f.word s r) = s := by
  unfold neg Format.word
  cases s
  · simp [Nat.div_eq_of_lt h]
  · simp [Nat.add_div_left _ (signWeight_pos f), Nat.div_eq_of_lt h]

theorem key_word (s : Bool) {r : Nat} (h : r < f.signWeight) : key f (f.word s r) = if s then -(r : Int) else (r : Int) := by
  unfold key; rw [rung_word f s h, neg_word f s h]

theorem nan_word (s : Bool) {r : Nat} (h : r < f.signWeight) : isNaN f (f.word s r) = decide (f.infRung < r) := by
  unfold isNaN; rw [rung_word f s h]

/-- a word is its sign and its rung -/
theorem word_eq {w : Nat} (h : w < 2 * f.signWeight) : f.word (neg f w) (rung f w) = w := by
  unfold Format.word neg rung
  have h1 := Nat.div_add_mod w f.signWeight
  have h2 : w / f.signWeight < 2 := by rw [Nat.div_lt_iff_lt_mul (signWeight_pos f)]; exact h
  generalize w / f.signWeight = q at *
  generalize w % f.signWeight = r at *
  have h3 : q = 0 ∨ q = 1 := by omega
  rcases h3 with e | e
  · subst e; simp at h1 ⊢; exact h1
  · subst e; simp at h1 ⊢; exact h1

/-! reading -/

/-- the magnitude of the datum of a number in units of the least place -/
theorem read_num {w : Nat} (h : rung f w < f.infRung) :
    ∃ m k, f.read w = .number (neg f w) m (f.leastPlace + (k : Nat)) ∧ m * 2 ^ k = rv f (rung f w) ∧ m < 2 * f.binade := by
  have hB := binade_pos f
  unfold Format.read
  dsimp only
  change ∃ m k, (if rung f w < f.binade then _ else _) = _ ∧ _ ∧ _
  by_cases h1 : rung f w < f.binade
  · rw [if_pos h1]
    exact ⟨rung f w, 0, by simp [neg, rung], by rw [rv_small f h1]; simp, by omega⟩
  · rw [if_neg h1]
    have h2 : w % f.signWeight < f.infRung := h
    rw [if_pos h2]
    refine ⟨f.binade + rung f w % f.binade, rung f w / f.binade - 1, by simp [neg, rung], ?_, ?_⟩
    · unfold rv; rw [if_neg h1]
    · have := Nat.mod_lt (rung f w) hB; omega

theorem read_inf (hf : f.binade ≤ f.infRung) {w : Nat} (h : rung f w = f.infRung) : f.read w = .infinity (neg f w) := by
  unfold Format.read
  dsimp only
  have h' : w % f.signWeight = f.infRung := h
  rw [if_neg (by omega), if_neg (by omega), if_pos h']; rfl

theorem read_nan (hf : f.binade ≤ f.infRung) {w : Nat} (h : f.infRung < rung f w) : f.read w = .nan (neg f w) (rung f w - f.infRung) := by
  unfold Format.read
  dsimp only
  have h' : f.infRung < w % f.signWeight := h
  rw [if_neg (by omega), if_neg (by omega), if_neg (by omega)]; rfl

/-! the order -/

def cmp (a b : Int) : Ordering := if a < b then .lt else if a = b then .eq else .gt

theorem compare_int (a b : Int) : compare a b = cmp a b := by
  unfold cmp
  show compareOfLessAndEq a b = _
  unfold compareOfLessAndEq
  rfl

theorem cmp_scale (a b : Int) (c : Int) (hc : 0 < c) : cmp (a * c) (b * c) = cmp a b := by
  unfold cmp
  have e1 : a * c < b * c ↔ a < b := Int.mul_lt_mul_right hc
  have e2 : a * c = b * c ↔ a = b := by
    constructor
    · intro h; exact Int.eq_of_mul_eq_mul_right (by omega) h
    · intro h; rw [h]
  simp only [e1, e2]

/-- with a sign -/
def sg (s : Bool) (n : Nat) : Int := if s then -(n : Int) else (n : Int)

theorem sg_mul (s : Bool) (n c : Nat) : sg s n * (c : Int) = sg s (n * c) := by
  unfold sg; cases s <;> simp [Int.neg_mul]

theorem key_eq (w : Nat) : key f w = sg (neg f w) (rung f w) := rfl

/-- order of signed magnitudes is that of signed rungs -/
theorem cmp_rv (s t : Bool) (a b : Nat) : cmp (sg s (rv f a)) (sg t (rv f b)) = cmp (sg s a) (sg t b) := by
  have h1 := @rv_lt_iff f a b
  have h2 := @rv_lt_iff f b a
  have h3 := @rv_inj f a b
  have h4 := @rv_inj f a 0
  have h5 := @rv_inj f b 0
  rw [rv_zero] at h4 h5
  unfold cmp sg
  cases s <;> cases t <;> simp only [Bool.false_eq_true, if_false, if_true]
  · have e1 : ((rv f a : Int) < rv f b) ↔ ((a : Int) < b) := by omega
    have e2 : ((rv f a : Int) = rv f b) ↔ ((a : Int) = b) := by omega
    simp only [e1, e2]
  · have e1 : ((rv f a : Int) < -(rv f b : Int)) ↔ ((a : Int) < -(b : Int)) := by omega
    have e2 : ((rv f a : Int) = -(rv f b : Int)) ↔ ((a : Int) = -(b : Int)) := by omega
    simp only [e1, e2]
  · have e1 : (-(rv f a : Int) < rv f b) ↔ (-(a : Int) < b) := by omega
    have e2 : (-(rv f a : Int) = rv f b) ↔ (-(a : Int) = b) := by omega
    simp only [e1, e2]
  · have e1 : (-(rv f a : Int) < -(rv f b : Int)) ↔ (-(a : Int) < -(b : Int)) := by omega
    have e2 : (-(rv f a : Int) = -(rv f b : Int)) ↔ (-(a : Int) = -(b : Int)) := by omega
    simp only [e1, e2]

theorem signed_eq (s : Bool) (m k : Nat) : signed s m k = sg s (m * 2 ^ k) := by
  unfold signed sg; rw [Nat.shiftLeft_eq]

theorem order_eq (hf : f.binade ≤ f.infRung) (x y : Nat) :
    f.order x y = if isNaN f x || isNaN f y then none else some (cmp (key f x) (key f y)) := by
  unfold Format.order
  by_cases nx : f.infRung < rung f x
  · rw [read_nan f hf nx]
    have : isNaN f x = true := decide_eq_true nx
    rw [this]; rfl
  by_cases ny : f.infRung < rung f y
  · rw [read_nan f hf ny]
    have : isNaN f y = true := decide_eq_true ny
    rw [this, Bool.or_true, if_pos rfl]
    cases f.read x <;> rfl
  have ex : isNaN f x = false := decide_eq_false nx
  have ey : isNaN f y = false := decide_eq_false ny
  rw [ex, ey]
  simp only [Bool.or_self, Bool.false_eq_true, if_false]
  rcases Nat.lt_or_ge (rung f x) f.infRung with hx | hx
  · obtain ⟨m, k, er, em, _⟩ := read_num f hx
    rw [er]
    rcases Nat.lt_or_ge (rung f y) f.infRung with hy | hy
    · obtain ⟨n, l, er', en, _⟩ := read_num f hy
      rw [er']
      show some (compare _ _) = _
      rw [compare_int]
      congr 1
      rw [signed_eq, signed_eq, key_eq, key_eq, ← cmp_rv f (neg f x) (neg f y) (rung f x) (rung f y)]
      have hmin : (min (f.leastPlace + (k : Nat)) (f.leastPlace + (l : Nat))) = f.leastPlace + ((min k l : Nat) : Int) := by omega
      rw [hmin]
      have h1 : (f.leastPlace + (k : Nat) - (f.leastPlace + ((min k l : Nat) : Int))).toNat = k - min k l := by omega
      have h2 : (f.leastPlace + (l : Nat) - (f.leastPlace + ((min k l : Nat) : Int))).toNat = l - min k l := by omega
      rw [h1, h2, ← em, ← en]
      have h3 := cmp_scale (sg (neg f x) (m * 2 ^ (k - min k l))) (sg (neg f y) (n * 2 ^ (l - min k l))) ((2 ^ min k l : Nat) : Int) (by have := Nat.two_pow_pos (min k l); omega)
      rw [sg_mul, sg_mul, Nat.mul_assoc, Nat.mul_assoc, ← Nat.pow_add, ← Nat.pow_add, Nat.sub_add_cancel (Nat.min_le_left k l), Nat.sub_add_cancel (Nat.min_le_right k l)] at h3
      exact h3.symm
    · have hy' : rung f y = f.infRung := by omega
      rw [read_inf f hf hy']
      show some (if neg f y then Ordering.gt else .lt) = _
      rw [key_eq, key_eq]
      unfold cmp sg
      cases neg f x <;> cases neg f y <;> simp only [Bool.false_eq_true, if_false, if_true]
      · rw [if_pos (by omega)]
      · rw [if_neg (by omega), if_neg (by omega)]
      · rw [if_pos (by omega)]
      · rw [if_neg (by omega), if_neg (by omega)]
  · have hx' : rung f x = f.infRung := by omega
    rw [read_inf f hf hx']
    rcases Nat.lt_or_ge (rung f y) f.infRung with hy | hy
    · obtain ⟨n, l, er', en, _⟩ := read_num f hy
      rw [er']
      show some (if neg f x then Ordering.lt else .gt) = _
      rw [key_eq, key_eq]
      unfold cmp sg
      cases neg f x <;> cases neg f y <;> simp only [Bool.false_eq_true, if_false, if_true]
      · rw [if_neg (by omega), if_neg (by omega)]
      · rw [if_neg (by omega), if_neg (by omega)]
      · rw [if_pos (by omega)]
      · rw [if_pos (by omega)]
    · have hy' : rung f y = f.infRung := by omega
      rw [read_inf f hf hy']
      show some (compare (neg f y).toNat (neg f x).toNat) = _
      rw [key_eq, key_eq, hx', hy']
      have hB := binade_pos f
      unfold cmp sg
      cases neg f x <;> cases neg f y <;> simp only [Bool.false_eq_true, if_false, if_true]
      · rw [if_neg (by omega)]; rfl
      · rw [if_neg (by omega), if_neg (by omega)]; rfl
      · rw [if_pos (by omega)]; rfl
      · rw [if_neg (by omega)]; rfl

/-! writing -/

/-- the word of a sign and a magnitude N / D in units of the least place -/
def mk (s : Bool) (N D : Nat) : Nat := f.word s (min (rn f N D) f.infRung)

theorem mk_lt (N D : Nat) : min (rn f N D) f.infRung < f.signWeight := by
  have := inf_lt f; omega

theorem key_mk (s : Bool) (N D : Nat) : key f (mk f s N D) = sg s (min (rn f N D) f.infRung) := by
  unfold mk; rw [key_word f s (mk_lt f N D)]; rfl

theorem neg_mk (s : Bool) (N D : Nat) : neg f (mk f s N D) = s := neg_word f s (mk_lt f N D)
theorem rung_mk (s : Bool) (N D : Nat) : rung f (mk f s N D) = min (rn f N D) f.infRung := rung_word f s (mk_lt f N D)

theorem nan_mk (s : Bool) (N D : Nat) : isNaN f (mk f s N D) = false := by
  unfold mk; rw [nan_word f s (mk_lt f N D)]; exact decide_eq_false (by omega)

theorem nearest_up (s : Bool) (m k : Nat) : f.nearest s m (f.leastPlace + (k : Nat)) = mk f s (m * 2 ^ k) 1 := by
  unfold Format.nearest mk
  by_cases hm : m = 0
  · rw [if_pos hm, hm, Nat.zero_mul]
    have : rn f 0 1 = 0 := by have := rn_rv f 0; rw [rv_zero] at this; exact this
    rw [this]; simp
  · rw [if_neg hm]
    dsimp only
    unfold rn
    rw [Nat.div_one, log2_mul_pow m k hm]
    generalize hL : m.log2 = L
    have h1 : (max (f.leastPlace + (k : Nat) + (L : Nat) - (f.fractionBits : Nat)) f.leastPlace) = f.leastPlace + ((L + k - f.fractionBits : Nat) : Int) := by omega
    rw [h1]
    generalize hg : L + k - f.fractionBits = e
    have h2 : (f.leastPlace + (e : Int) - f.leastPlace).toNat = e := by omega
    rw [h2, cut_even, Nat.shiftLeft_eq]
    congr 3
    rcases Nat.le_total e k with h | h
    · have h3 : (f.leastPlace + (k : Int) - (f.leastPlace + (e : Int))).toNat = k - e := by omega
      have h4 : (f.leastPlace + (e : Int) - (f.leastPlace + (k : Int))).toNat = 0 := by omega
      rw [h3, h4]
      have := rne_scale (m * 2 ^ (k - e)) (2 ^ 0) (2 ^ e) (Nat.two_pow_pos e)
      rw [Nat.mul_assoc, ← Nat.pow_add, Nat.sub_add_cancel h] at this
      rw [← this]
    · have h3 : (f.leastPlace + (k : Int) - (f.leastPlace + (e : Int))).toNat = 0 := by omega
      have h4 : (f.leastPlace + (e : Int) - (f.leastPlace + (k : Int))).toNat = e - k := by omega
      rw [h3, h4]
      have := rne_scale m (2 ^ (e - k)) (2 ^ k) (Nat.two_pow_pos k)
      rw [← Nat.pow_add, Nat.sub_add_cancel h] at this
      rw [Nat.one_mul, this, Nat.pow_zero, Nat.mul_one]

end Fl
namespace Fl
open Ieee
variable (f : Format)

theorem nearest_down (s : Bool) (m k : Nat) : f.nearest s m (f.leastPlace - (k : Nat)) = mk f s m (2 ^ k) := by
  unfold Format.nearest mk
  by_cases hm : m = 0
  · rw [if_pos hm, hm]
    have : rn f 0 (2 ^ k) = 0 := by
      have := rn_exact f 0 (2 ^ k) (Nat.two_pow_pos k); rw [rv_zero, Nat.zero_mul] at this; exact this
    rw [this]; simp
  · rw [if_neg hm]
    dsimp only
    unfold rn
    rw [log2_div_pow]
    generalize hL : m.log2 = L
    have h1 : (max (f.leastPlace - (k : Nat) + (L : Nat) - (f.fractionBits : Nat)) f.leastPlace) = f.leastPlace + ((L - k - f.fractionBits : Nat) : Int) := by omega
    rw [h1]
    generalize hg : L - k - f.fractionBits = e
    have h2 : (f.leastPlace + (e : Int) - f.leastPlace).toNat = e := by omega
    rw [h2, cut_even, Nat.shiftLeft_eq]
    have h3 : (f.leastPlace - (k : Int) - (f.leastPlace + (e : Int))).toNat = 0 := by omega
    have h4 : (f.leastPlace + (e : Int) - (f.leastPlace - (k : Int))).toNat = k + e := by omega
    rw [h3, h4, Nat.pow_add]; simp

/-- 'write' of a number at any place -/
theorem write_num (s : Bool) (m U W : Nat) (place : Int) (p : Int) (hp : place = f.leastPlace + p) (hU : U = 2 ^ p.toNat) (hW : W = 2 ^ (-p).toNat) :
    f.write (.number s m place) = mk f s (m * U) W := by
  show f.nearest s m place = _
  subst hp
  rcases Int.le_total 0 p with h | h
  · obtain ⟨k, rfl⟩ := Int.eq_ofNat_of_zero_le h
    rw [nearest_up, hU, hW]
    have : (-(k : Int)).toNat = 0 := by omega
    rw [this]; simp
  · obtain ⟨k, hk⟩ := Int.eq_ofNat_of_zero_le (show 0 ≤ -p by omega)
    have hp : p = -(k : Int) := by omega
    subst hp
    have e1 : f.leastPlace + -(k : Int) = f.leastPlace - (k : Int) := by omega
    rw [e1, nearest_down, hU, hW]
    have : (-(k : Int)).toNat = 0 := by omega
    rw [this]
    have : (- -(k : Int)).toNat = k := by omega
    rw [this]; simp

theorem log2_even_succ (q : Nat) : (2 * q + 1).log2 = (2 * q).log2 := by
  by_cases h : q = 0
  · subst h; rfl
  · have h1 : 2 * q + 1 ≠ 0 := by omega
    have h2 : 2 * q ≠ 0 := by omega
    rw [Nat.log2_eq_iff h1]
    have h3 := Nat.log2_self_le h2
    have h4 : 2 * q < 2 ^ ((2 * q).log2 + 1) := Nat.lt_log2_self
    refine ⟨by omega, ?_⟩
    rw [Nat.pow_succ] at h4 ⊢
    omega

theorem mk_sticky (s : Bool) (a n U W : Nat) (u w : Nat) (hU : U = 2 ^ u) (hW : W = 2 ^ w) (huw : u = 0 ∨ w = 0) (hn : 0 < n) (hq : 2 ^ (f.fractionBits + 1) ≤ a / n) :
    mk f s ((2 * (a / n) + (a % n != 0).toNat) * U) W = mk f s ((2 * a) * U) (n * W) := by
  unfold mk
  congr 2
  unfold rn
  subst hU; subst hW
  have hwp := Nat.two_pow_pos w
  have hup := Nat.two_pow_pos u
  have hf1 := Nat.two_pow_pos (f.fractionBits + 1)
  have hst : (a % n != 0).toNat ≤ 1 := by cases (a % n != 0) <;> simp
  generalize hS : (a % n != 0).toNat = st at *
  have hne : 2 * (a / n) + st ≠ 0 := by omega
  have hlog : (2 * (a / n) + st).log2 = (2 * (a / n)).log2 := by
    have : st = 0 ∨ st = 1 := by omega
    rcases this with rfl | rfl
    · rfl
    · exact log2_even_succ _
  have hbig : f.fractionBits + 2 ≤ (2 * (a / n)).log2 := by
    rw [Nat.le_log2 (by omega)]
    rw [show f.fractionBits + 2 = (f.fractionBits + 1) + 1 by omega, Nat.pow_succ]; omega
  -- the floors' logarithms
  have l1 : ((2 * (a / n) + st) * 2 ^ u / 2 ^ w).log2 = (2 * (a / n)).log2 + u - w := by
    rw [log2_div_pow, log2_mul_pow _ _ hne, hlog]
  have l2 : ((2 * a) * 2 ^ u / (n * 2 ^ w)).log2 = (2 * (a / n)).log2 + u - w := by
    rw [← Nat.div_div_eq_div_mul, log2_div_pow]
    congr 1
    -- floor of 2 a 2^u / n lies between
    have lo : (2 * (a / n)) * 2 ^ u ≤ (2 * a) * 2 ^ u / n := by
      rw [Nat.le_div_iff_mul_le hn]
      have : (2 * (a / n)) * 2 ^ u * n = (2 * (a / n * n)) * 2 ^ u := by
        rw [Nat.mul_right_comm, Nat.mul_assoc 2]
      rw [this]
      exact Nat.mul_le_mul_right _ (Nat.mul_le_mul_left 2 (Nat.div_mul_le_self a n))
    have hi : (2 * a) * 2 ^ u / n < (2 * (a / n) + 2) * 2 ^ u := by
      rw [Nat.div_lt_iff_lt_mul hn]
      have h1 : a < (a / n + 1) * n := Nat.lt_mul_of_div_lt (Nat.lt_succ_self _) hn
      have : (2 * (a / n) + 2) * 2 ^ u * n = (2 * ((a / n + 1) * n)) * 2 ^ u := by
        rw [show 2 * (a / n) + 2 = 2 * (a / n + 1) by omega, Nat.mul_right_comm, Nat.mul_assoc 2]
      rw [this]
      exact Nat.mul_lt_mul_of_pos_right (by omega) hup
    have h2 : (2 * (a / n)) ≠ 0 := by omega
    have hx : (2 * a) * 2 ^ u / n ≠ 0 := by
      have := Nat.mul_pos (Nat.pos_of_ne_zero h2) hup
      omega
    rw [Nat.log2_eq_iff hx]
    have t1 := Nat.log2_self_le h2
    have t2 : 2 * (a / n) < 2 ^ ((2 * (a / n)).log2 + 1) := Nat.lt_log2_self
    constructor
    · rw [Nat.pow_add]; exact Nat.le_trans (Nat.mul_le_mul_right _ t1) lo
    · refine Nat.lt_of_lt_of_le hi ?_
      rw [show (2 * (a / n)).log2 + u + 1 = ((2 * (a / n)).log2 + 1) + u by omega, Nat.pow_add]
      refine Nat.mul_le_mul_right _ ?_
      rw [Nat.pow_succ] at t2 ⊢; omega
  rw [l1, l2]
  generalize hL : (2 * (a / n)).log2 = L at *
  congr 1
  generalize hg : L + u - w - f.fractionBits = e
  -- the digits that are dropped: at least two
  have hd : ∃ d, w + e = u + d ∧ 2 ≤ d := by
    rcases huw with h | h
    · exact ⟨w + e - u, by omega, by omega⟩
    · exact ⟨w + e - u, by omega, by omega⟩
  obtain ⟨d, hd, h2d⟩ := hd
  obtain ⟨g, rfl⟩ : ∃ g, d = g + 1 + 1 := ⟨d - 2, by omega⟩
  have e1 : 2 ^ w * 2 ^ e = 2 ^ (g + 1 + 1) * 2 ^ u := by rw [← Nat.pow_add, ← Nat.pow_add, hd, Nat.add_comm]
  rw [e1, rne_scale _ _ _ hup, Nat.mul_assoc n, e1, ← Nat.mul_assoc n, rne_scale _ _ _ hup]
  have e2 : 2 ^ (g + 1 + 1) = 2 * (2 * 2 ^ g) := by rw [Nat.pow_succ, Nat.pow_succ]; omega
  rw [e2]
  have := rne_sticky a n (2 ^ g) hn (Nat.two_pow_pos g)
  rw [hS] at this
  exact this

end Fl
namespace Fl
open Ieee
variable (f : Format)

/-! arithmetic of words -/

/-- the unit: one is 2 ^ K units -/
def K : Nat := (-f.leastPlace).toNat

/-- the signed magnitude of a finite word -/
def sv (w : Nat) : Int := sg (neg f w) (rv f (rung f w))

/-- what a sum writes: an integer number of units; the zero's sign -/
def enc (z : Bool) (T : Int) : Nat := mk f (if T = 0 then z else decide (T < 0)) T.natAbs 1

def fin (w : Nat) : Prop := rung f w < f.infRung

theorem sum_write (s t : Bool) (m n i j : Nat) :
    (Datum.sum (.number s m (f.leastPlace + (i : Nat))) (.number t n (f.leastPlace + (j : Nat)))).map f.write =
      some (enc f (s && t) (sg s (m * 2 ^ i) + sg t (n * 2 ^ j))) := by
  unfold Datum.sum
  dsimp only
  have hmin : (min (f.leastPlace + (i : Nat)) (f.leastPlace + (j : Nat))) = f.leastPlace + ((min i j : Nat) : Int) := by omega
  rw [hmin]
  have h1 : (f.leastPlace + (i : Nat) - (f.leastPlace + ((min i j : Nat) : Int))).toNat = i - min i j := by omega
  have h2 : (f.leastPlace + (j : Nat) - (f.leastPlace + ((min i j : Nat) : Int))).toNat = j - min i j := by omega
  rw [h1, h2, signed_eq, signed_eq]
  generalize hT : sg s (m * 2 ^ (i - min i j)) + sg t (n * 2 ^ (j - min i j)) = T
  have hp := Nat.two_pow_pos (min i j)
  have e : sg s (m * 2 ^ i) + sg t (n * 2 ^ j) = T * ((2 ^ min i j : Nat) : Int) := by
    rw [← hT, Int.add_mul, sg_mul, sg_mul, Nat.mul_assoc, Nat.mul_assoc, ← Nat.pow_add, ← Nat.pow_add, Nat.sub_add_cancel (Nat.min_le_left i j), Nat.sub_add_cancel (Nat.min_le_right i j)]
  show some (f.nearest _ _ _) = _
  rw [nearest_up, e]
  unfold enc
  have hz : T * ((2 ^ min i j : Nat) : Int) = 0 ↔ T = 0 := by
    constructor
    · intro h; rcases Int.mul_eq_zero.1 h with h | h
      · exact h
      · omega
    · intro h; rw [h, Int.zero_mul]
  have hlt : T * ((2 ^ min i j : Nat) : Int) < 0 ↔ T < 0 := by
    have := Int.mul_lt_mul_right (a := ((2 ^ min i j : Nat) : Int)) (b := T) (c := 0) (by omega)
    rw [Int.zero_mul] at this; exact this
  have ha : (T * ((2 ^ min i j : Nat) : Int)).natAbs = T.natAbs * 2 ^ min i j := by
    rw [Int.natAbs_mul, Int.natAbs_natCast]
  rw [ha]
  simp only [hz, hlt]

theorem add_fin {x y : Nat} (hx : fin f x) (hy : fin f y) : f.add x y = some (enc f (neg f x && neg f y) (sv f x + sv f y)) := by
  obtain ⟨m, i, ex, em, _⟩ := read_num f hx
  obtain ⟨n, j, ey, en, _⟩ := read_num f hy
  unfold Format.add
  rw [ex, ey, sum_write, em, en]
  rfl

theorem sub_fin {x y : Nat} (hx : fin f x) (hy : fin f y) : f.sub x y = some (enc f (neg f x && !neg f y) (sv f x - sv f y)) := by
  obtain ⟨m, i, ex, em, _⟩ := read_num f hx
  obtain ⟨n, j, ey, en, _⟩ := read_num f hy
  unfold Format.sub
  rw [ex, ey]
  show (Datum.sum (.number _ m _) (.number (!neg f y) n _)).map f.write = _
  rw [sum_write, em, en]
  have : sg (!neg f y) (rv f (rung f y)) = - sv f y := by
    unfold sv sg; cases neg f y <;> simp
  rw [this]
  rfl

theorem key_enc (z : Bool) (T : Int) : key f (enc f z T) = if T < 0 then -((min (rn f T.natAbs 1) f.infRung : Nat) : Int) else ((min (rn f T.natAbs 1) f.infRung : Nat) : Int) := by
  unfold enc
  rw [key_mk]
  by_cases h0 : T = 0
  · have : rn f 0 1 = 0 := by have := rn_rv f 0; rw [rv_zero] at this; exact this
    subst h0
    simp only [if_true, Int.natAbs_zero, this, Nat.zero_min]
    unfold sg; cases z <;> simp
  · rw [if_neg h0]
    unfold sg
    by_cases h : T < 0 <;> simp [h]

theorem nan_enc (z : Bool) (T : Int) : isNaN f (enc f z T) = false := nan_mk ..
theorem neg_enc (z : Bool) (T : Int) (h : T ≠ 0) : neg f (enc f z T) = decide (T < 0) := by unfold enc; rw [neg_mk, if_neg h]
theorem neg_enc_zero (z : Bool) : neg f (enc f z 0) = z := by unfold enc; rw [neg_mk, if_pos rfl]
theorem rung_enc (z : Bool) (T : Int) : rung f (enc f z T) = min (rn f T.natAbs 1) f.infRung := by unfold enc; rw [rung_mk]

/-- the quotient of two numbers, the second not nought -/
theorem quotient_write (hK : f.leastPlace ≤ 0) (s t : Bool) (m n i j d : Nat) (hd : d = f.fractionBits + 2) (hn : n ≠ 0) (hm : m.log2 ≤ f.fractionBits) :
    ∃ q, Datum.quotient d (.number s m (f.leastPlace + (i : Nat))) (.number t n (f.leastPlace + (j : Nat))) = some q ∧
      f.write q = mk f (s ^^ t) (m * 2 ^ i * 2 ^ K f) (n * 2 ^ j) := by
  unfold Datum.quotient
  dsimp only
  rw [if_neg hn]
  refine ⟨_, rfl, ?_⟩
  have hn0 : 0 < n := Nat.pos_of_ne_zero hn
  have hmore : d + n.log2 - m.log2 = (f.fractionBits + 2 + n.log2) - m.log2 := by rw [hd]
  rw [hmore]
  generalize hM : f.fractionBits + 2 + n.log2 - m.log2 = more
  rw [Nat.shiftLeft_eq]
  by_cases hm0 : m = 0
  · subst hm0
    have e : 2 * (0 * 2 ^ more / n) + (0 * 2 ^ more % n != 0).toNat = 0 := by simp
    rw [e]
    show f.nearest _ 0 _ = _
    unfold Format.nearest mk
    rw [if_pos rfl]
    have : rn f (0 * 2 ^ i * 2 ^ K f) (n * 2 ^ j) = 0 := by
      have := rn_exact f 0 (n * 2 ^ j) (Nat.mul_pos hn0 (Nat.two_pow_pos j)); rw [rv_zero, Nat.zero_mul] at this
      simpa using this
    rw [this]; simp
  · -- the place, against the least one
    generalize hP : ((f.leastPlace + (i : Nat) - (f.leastPlace + (j : Nat)) - (more : Int) - 1) - f.leastPlace) = p
    rw [write_num f _ _ _ _ _ p (by omega) rfl rfl]
    have huw : p.toNat = 0 ∨ (-p).toNat = 0 := by omega
    have hbig : 2 ^ (f.fractionBits + 1) ≤ m * 2 ^ more / n := by
      rw [Nat.le_div_iff_mul_le hn0]
      have t1 := Nat.log2_self_le hm0
      have t2 : n < 2 ^ (n.log2 + 1) := Nat.lt_log2_self
      have t3 : 2 ^ (f.fractionBits + 1) * n ≤ 2 ^ (f.fractionBits + 1) * 2 ^ (n.log2 + 1) := Nat.mul_le_mul_left _ (by omega)
      have t4 : 2 ^ m.log2 * 2 ^ more ≤ m * 2 ^ more := Nat.mul_le_mul_right _ t1
      rw [← Nat.pow_add] at t3 t4
      have t5 : 2 ^ (f.fractionBits + 1 + (n.log2 + 1)) ≤ 2 ^ (m.log2 + more) := Nat.pow_le_pow_right (by omega) (by omega)
      omega
    rw [mk_sticky f _ _ _ _ _ p.toNat (-p).toNat rfl rfl huw hn0 hbig]
    unfold mk
    congr 2
    refine rn_congr f (Nat.mul_pos hn0 (Nat.two_pow_pos _)) (Nat.mul_pos hn0 (Nat.two_pow_pos _)) ?_
    -- 2 m 2^more 2^u * (n 2^j) = m 2^i 2^K * (n 2^w)
    have hKK : ((K f : Nat) : Int) = -f.leastPlace := by unfold K; omega
    have hexp : 1 + more + p.toNat + j = i + K f + (-p).toNat := by omega
    have e1 : 2 * (m * 2 ^ more) * 2 ^ p.toNat * (n * 2 ^ j) = (m * n) * 2 ^ (1 + more + p.toNat + j) := by
      rw [Nat.pow_add, Nat.pow_add, Nat.pow_add, Nat.pow_one]
      simp only [Nat.mul_comm, Nat.mul_left_comm, Nat.mul_assoc]
    have e2 : m * 2 ^ i * 2 ^ K f * (n * 2 ^ (-p).toNat) = (m * n) * 2 ^ (i + K f + (-p).toNat) := by
      rw [Nat.pow_add, Nat.pow_add]
      simp only [Nat.mul_left_comm, Nat.mul_assoc]
    rw [e1, e2, hexp]

end Fl
namespace Fl
open Ieee
variable (f : Format)

theorem fin_log2 {m : Nat} (h : m < 2 * f.binade) : m.log2 ≤ f.fractionBits := by
  by_cases z : m = 0
  · subst z; exact Nat.zero_le _
  · have : m.log2 < f.fractionBits + 1 := (Nat.log2_lt z).2 (by rw [Nat.pow_succ]; unfold Format.binade at h; omega)
    omega

theorem rv_pos {r : Nat} (h : r ≠ 0) : 0 < rv f r := by
  have := rv_lt f (Nat.pos_of_ne_zero h); rw [rv_zero] at this; exact this

theorem div_fin (hK : f.leastPlace ≤ 0) {x y : Nat} (hx : fin f x) (hy : fin f y) (hy0 : rung f y ≠ 0) :
    f.div x y = some (mk f (neg f x ^^ neg f y) (rv f (rung f x) * 2 ^ K f) (rv f (rung f y))) := by
  obtain ⟨m, i, ex, em, mb⟩ := read_num f hx
  obtain ⟨n, j, ey, en, _⟩ := read_num f hy
  have hn : n ≠ 0 := by
    intro z; subst z
    have := rv_pos f hy0; omega
  unfold Format.div
  rw [ex, ey]
  obtain ⟨q, hq, hw⟩ := quotient_write f hK (neg f x) (neg f y) m n i j _ rfl hn (fin_log2 f mb)
  rw [hq]
  show some _ = _
  rw [hw, em, en]

theorem div_zero {x y : Nat} (hx : fin f x) (hx0 : rung f x ≠ 0) (hy0 : rung f y = 0) (hI : 0 < f.infRung) :
    f.div x y = some (f.word (neg f x ^^ neg f y) f.infRung) := by
  have hy : fin f y := by unfold fin; omega
  obtain ⟨m, i, ex, em, _⟩ := read_num f hx
  obtain ⟨n, j, ey, en, _⟩ := read_num f hy
  have hn : n = 0 := by
    rw [hy0, rv_zero] at en
    have := Nat.two_pow_pos j
    rcases Nat.mul_eq_zero.1 en with h | h <;> omega
  have hm : m ≠ 0 := by
    intro z; subst z
    have := rv_pos f hx0; omega
  unfold Format.div Datum.quotient
  rw [ex, ey]
  dsimp only
  rw [if_pos hn, if_neg hm]
  rfl

theorem div_zero_zero {x y : Nat} (hx0 : rung f x = 0) (hy0 : rung f y = 0) (hI : 0 < f.infRung) : f.div x y = none := by
  have hx : fin f x := by unfold fin; omega
  have hy : fin f y := by unfold fin; omega
  obtain ⟨m, i, ex, em, _⟩ := read_num f hx
  obtain ⟨n, j, ey, en, _⟩ := read_num f hy
  have hn : n = 0 := by
    rw [hy0, rv_zero] at en
    have := Nat.two_pow_pos j
    rcases Nat.mul_eq_zero.1 en with h | h <;> omega
  have hm : m = 0 := by
    rw [hx0, rv_zero] at em
    have := Nat.two_pow_pos i
    rcases Nat.mul_eq_zero.1 em with h | h <;> omega
  unfold Format.div Datum.quotient
  rw [ex, ey]
  dsimp only
  rw [if_pos hn, if_pos hm]
  rfl

/-- of an infinity -/
theorem div_inf (hf : f.binade ≤ f.infRung) {x y : Nat} (hx : rung f x = f.infRung) (hy : fin f y) : f.div x y = some (f.word (neg f x ^^ neg f y) f.infRung) := by
  obtain ⟨n, j, ey, en, _⟩ := read_num f hy
  unfold Format.div Datum.quotient
  rw [ey, read_inf f hf hx]
  rfl

theorem div_by_inf (hf : f.binade ≤ f.infRung) {x y : Nat} (hx : fin f x) (hy : rung f y = f.infRung) : f.div x y = some (f.word (neg f x ^^ neg f y) 0) := by
  obtain ⟨n, j, ex, en, _⟩ := read_num f hx
  unfold Format.div Datum.quotient
  rw [ex, read_inf f hf hy]
  rfl

theorem nan_inf (s : Bool) : isNaN f (f.word s f.infRung) = false := by
  rw [nan_word f s (inf_lt f)]; simp

/-- what is written of no NaN is none -/
theorem nan_write {d : Datum} (h : d.isNaN = false) : isNaN f (f.write d) = false := by
  cases d with
  | number s m e =>
    show isNaN f (f.nearest s m e) = false
    rcases Int.le_total 0 (e - f.leastPlace) with g | g
    · obtain ⟨k, hk⟩ := Int.eq_ofNat_of_zero_le g
      rw [show e = f.leastPlace + (k : Nat) by omega, nearest_up]; exact nan_mk ..
    · obtain ⟨k, hk⟩ := Int.eq_ofNat_of_zero_le (show 0 ≤ -(e - f.leastPlace) by omega)
      rw [show e = f.leastPlace - (k : Nat) by omega, nearest_down]; exact nan_mk ..
  | infinity s => exact nan_inf f s
  | nan s t => cases h

theorem sum_nan {a b d : Datum} (h : Datum.sum a b = some d) : d.isNaN = false := by
  unfold Datum.sum at h
  split at h <;> first | (cases h; done) | skip
  · split at h
    · cases h; rfl
    · cases h
  · cases h; rfl
  · cases h; rfl
  · cases h; rfl

theorem quotient_nan {p : Nat} {a b d : Datum} (h : Datum.quotient p a b = some d) : d.isNaN = false := by
  unfold Datum.quotient at h
  split at h <;> first | (cases h; done) | skip
  · cases h; rfl
  · cases h; rfl
  · split at h
    · split at h
      · cases h
      · cases h; rfl
    · cases h; rfl

theorem nan_map {o : Option Datum} {r : Nat} (ho : ∀ d, o = some d → d.isNaN = false) (h : o.map f.write = some r) : isNaN f r = false := by
  cases o with
  | none => cases h
  | some d => cases h; exact nan_write f (ho d rfl)

theorem nan_add {x y r : Nat} (h : f.add x y = some r) : isNaN f r = false := nan_map f (fun _ => sum_nan) h
theorem nan_sub {x y r : Nat} (h : f.sub x y = some r) : isNaN f r = false := nan_map f (fun _ => sum_nan) h
theorem nan_div {x y r : Nat} (h : f.div x y = some r) : isNaN f r = false := nan_map f (fun _ => quotient_nan) h

theorem add_nan_left (hf : f.binade ≤ f.infRung) {x y : Nat} (h : isNaN f x = true) : f.add x y = none := by
  unfold Format.add; rw [read_nan f hf (of_decide_eq_true h)]; rfl
theorem add_nan_right (hf : f.binade ≤ f.infRung) {x y : Nat} (h : isNaN f y = true) : f.add x y = none := by
  unfold Format.add; rw [read_nan f hf (of_decide_eq_true h)]; cases f.read x <;> rfl
theorem div_nan_left (hf : f.binade ≤ f.infRung) {x y : Nat} (h : isNaN f x = true) : f.div x y = none := by
  unfold Format.div; rw [read_nan f hf (of_decide_eq_true h)]; rfl

/-- a difference the other way round -/
theorem sub_swap (hf : f.binade ≤ f.infRung) (x y : Nat) : (f.sub x y = none ∧ f.sub y x = none) ∨ ∃ r s, f.sub x y = some r ∧ f.sub y x = some s ∧ key f s = - key f r ∧ rung f s = rung f r := by
  by_cases nx : f.infRung < rung f x
  · left; unfold Format.sub; rw [read_nan f hf nx]; exact ⟨rfl, by cases f.read y <;> rfl⟩
  by_cases ny : f.infRung < rung f y
  · left; unfold Format.sub; rw [read_nan f hf ny]; exact ⟨by cases f.read x <;> rfl, rfl⟩
  rcases Nat.lt_or_ge (rung f x) f.infRung with hx | hx
  · rcases Nat.lt_or_ge (rung f y) f.infRung with hy | hy
    · right
      refine ⟨_, _, sub_fin f hx hy, sub_fin f hy hx, ?_, ?_⟩
      · rw [key_enc, key_enc, show (sv f y - sv f x).natAbs = (sv f x - sv f y).natAbs by omega]
        by_cases e : sv f x = sv f y
        · rw [if_neg (by omega), if_neg (by omega), e, Int.sub_self]
          have : rn f (Int.natAbs 0) 1 = 0 := by have := rn_rv f 0; rw [rv_zero] at this; exact this
          rw [this]; simp
        · by_cases h : sv f x < sv f y
          · rw [if_neg (by omega), if_pos (by omega)]; omega
          · rw [if_pos (by omega), if_neg (by omega)]
      · rw [rung_enc, rung_enc, show (sv f y - sv f x).natAbs = (sv f x - sv f y).natAbs by omega]
    · right
      have hy' : rung f y = f.infRung := by omega
      obtain ⟨m, i, ex, em, _⟩ := read_num f hx
      refine ⟨f.word (!neg f y) f.infRung, f.word (neg f y) f.infRung, ?_, ?_, ?_, ?_⟩
      · unfold Format.sub; rw [ex, read_inf f hf hy']; rfl
      · unfold Format.sub; rw [ex, read_inf f hf hy']; rfl
      · rw [key_word f _ (inf_lt f), key_word f _ (inf_lt f)]; cases neg f y <;> simp
      · rw [rung_word f _ (inf_lt f), rung_word f _ (inf_lt f)]
  · have hx' : rung f x = f.infRung := by omega
    rcases Nat.lt_or_ge (rung f y) f.infRung with hy | hy
    · right
      obtain ⟨m, i, ey, em, _⟩ := read_num f hy
      refine ⟨f.word (neg f x) f.infRung, f.word (!neg f x) f.infRung, ?_, ?_, ?_, ?_⟩
      · unfold Format.sub; rw [ey, read_inf f hf hx']; rfl
      · unfold Format.sub; rw [ey, read_inf f hf hx']; rfl
      · rw [key_word f _ (inf_lt f), key_word f _ (inf_lt f)]; cases neg f x <;> simp
      · rw [rung_word f _ (inf_lt f), rung_word f _ (inf_lt f)]
    · have hy' : rung f y = f.infRung := by omega
      unfold Format.sub
      rw [read_inf f hf hx', read_inf f hf hy']
      by_cases e : neg f x = neg f y
      · left
        rw [e]
        constructor <;> cases neg f y <;> rfl
      · right
        have e' : neg f y = !neg f x := by cases h1 : neg f x <;> cases h2 : neg f y <;> simp_all
        rw [e']
        refine ⟨f.word (neg f x) f.infRung, f.word (!neg f x) f.infRung, ?_, ?_, ?_, ?_⟩
        · cases neg f x <;> rfl
        · cases neg f x <;> rfl
        · rw [key_word f _ (inf_lt f), key_word f _ (inf_lt f)]; cases neg f x <;> simp
        · rw [rung_word f _ (inf_lt f), rung_word f _ (inf_lt f)]

end Fl
namespace Fl
open Ieee

/-! the double, and the floats of the model -/

/-- the format of the floats of the model (its numbers stay hidden) -/
def D : Format := double

theorem D_eq : Go.FloatKind.f64.format = D := rfl
theorem D_hf : D.binade ≤ D.infRung := by decide
theorem D_hK : D.leastPlace ≤ 0 := by decide
theorem D_inf : 0 < D.infRung := by decide
theorem D_K : K D = 1074 := by decide
theorem D_frac : D.fractionBits = 52 := rfl
theorem D_binade : D.binade = 4503599627370496 := rfl
theorem D_sign : D.signWeight = 9223372036854775808 := rfl
theorem D_infRung : D.infRung = 9218868437227405312 := rfl

/-- a whole number as a float -/
theorem ofInt_eq (n : Int) : Go.FloatKind.f64.nearest n = enc D false (n * ((2 ^ K D : Nat) : Int)) := by
  show D.write (.number (n < 0) n.natAbs 0) = _
  show D.nearest (n < 0) n.natAbs 0 = _
  have h : (0 : Int) = D.leastPlace + ((K D : Nat) : Int) := by unfold K; have := D_hK; omega
  have h' : D.nearest (decide (n < 0)) n.natAbs 0 = D.nearest (decide (n < 0)) n.natAbs (D.leastPlace + ((K D : Nat) : Int)) := congrArg _ h
  rw [h', nearest_up]
  clear h h'
  have hp := Nat.two_pow_pos (K D)
  generalize 2 ^ K D = c at *
  have hz : n * (c : Int) = 0 ↔ n = 0 := by
    constructor
    · intro h; rcases Int.mul_eq_zero.1 h with h | h
      · exact h
      · omega
    · intro h; rw [h, Int.zero_mul]
  have hlt : n * (c : Int) < 0 ↔ n < 0 := by
    have := Int.mul_lt_mul_right (a := (c : Int)) (b := n) (c := 0) (by omega)
    rw [Int.zero_mul] at this; exact this
  have ha : (n * (c : Int)).natAbs = n.natAbs * c := by
    rw [Int.natAbs_mul, Int.natAbs_natCast]
  unfold enc
  rw [ha]
  simp only [hz, hlt]
  by_cases h0 : n = 0 <;> simp [h0]

/-- the rung of one -/
def one : Nat := 1023 * D.binade
theorem rv_one : rv D one = 2 ^ K D := by
  have h := rv_at D (K D - 52) D.binade (Or.inr (Nat.le_refl _)) (by omega)
  have e : one = (K D - 52) * D.binade + D.binade := by unfold one; rw [D_K]; omega
  rw [e, h, show D.binade = 2 ^ 52 from rfl, ← Nat.pow_add, show 52 + (K D - 52) = K D by rw [D_K]]

/-- every whole number up to 2 ^ 53 is a rung -/
theorem rung_nat {n : Nat} (h : n ≤ 2 * D.binade) : ∃ r, rv D r = n * 2 ^ K D ∧ r < D.infRung := by
  by_cases z : n = 0
  · subst z; exact ⟨0, by rw [rv_zero]; simp, D_inf⟩
  · have h1 := Nat.log2_self_le z
    have h2 : n < 2 ^ (n.log2 + 1) := Nat.lt_log2_self
    have hl : n.log2 ≤ 53 := by
      have : n.log2 < 54 := (Nat.log2_lt z).2 (by
        have : 2 * D.binade < 2 ^ 54 := by decide
        omega)
      omega
    rcases Nat.lt_or_ge n.log2 53 with h3 | h3
    · -- n = k / 2 ^ (52 - log2)
      refine ⟨(K D + n.log2 - 52) * D.binade + n * 2 ^ (52 - n.log2), ?_, ?_⟩
      · rw [rv_at D]
        · rw [Nat.mul_assoc, ← Nat.pow_add]; congr 2; rw [D_K]; omega
        · right
          show 2 ^ 52 ≤ _
          have : 2 ^ n.log2 * 2 ^ (52 - n.log2) ≤ n * 2 ^ (52 - n.log2) := Nat.mul_le_mul_right _ h1
          rw [← Nat.pow_add, show n.log2 + (52 - n.log2) = 52 by omega] at this
          exact this
        · show _ ≤ 2 * 2 ^ 52
          have : n * 2 ^ (52 - n.log2) ≤ 2 ^ (n.log2 + 1) * 2 ^ (52 - n.log2) := Nat.mul_le_mul_right _ (by omega)
          rw [← Nat.pow_add, show n.log2 + 1 + (52 - n.log2) = 53 by omega] at this
          exact this
      · have : n * 2 ^ (52 - n.log2) ≤ 2 ^ (n.log2 + 1) * 2 ^ (52 - n.log2) := Nat.mul_le_mul_right _ (by omega)
        rw [← Nat.pow_add, show n.log2 + 1 + (52 - n.log2) = 53 by omega] at this
        have e1 : (K D + n.log2 - 52) * D.binade ≤ 1074 * D.binade := Nat.mul_le_mul_right _ (by rw [D_K]; omega)
        have e2 : 1074 * D.binade + 2 ^ 53 < D.infRung := by decide
        omega
    · have e : n = 2 * D.binade := by
        have : n.log2 = 53 := by omega
        rw [this] at h1
        have : 2 * D.binade = 2 ^ 53 := rfl
        omega
      refine ⟨(K D) * D.binade + 2 * D.binade, ?_, ?_⟩
      · rw [rv_at D _ _ (Or.inr (by omega)) (Nat.le_refl _), e]
      · rw [D_K]; decide

end Fl
