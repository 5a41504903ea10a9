/- Bitmaps: a pixel is written: what the others are then. Conditions: the bounds that each theorem names. -/
import Derived.Test.YtfniekdohidbiaaBi
namespace Go.Bm
theorem px_far {W H : Nat} {B : Nat → Nat} {x y : Int} (h : ¬ (0 ≤ x ∧ x < W ∧ 0 ≤ y ∧ y < H)) : px W H B x y = 0 := by unfold px; exact if_neg h
/-- bit e of a word is written -/
def putw (v e b : Nat) : Nat := if b = 1 then (v &&& (18446744073709551615 - 2 ^ e)) ||| 2 ^ e else v &&& (18446744073709551615 - 2 ^ e)
theorem bit_of (v f : Nat) : v / 2 ^ f % 2 = (v.testBit f).toNat := by
  rw [Nat.testBit_eq_decide_div_mod_eq]
  have := Nat.mod_lt (v / 2 ^ f) (show 0 < 2 by decide)
  by_cases h : v / 2 ^ f % 2 = 1
  · rw [h]; rfl
  · rw [decide_eq_false h]; show _ = 0; omega
theorem mask_bit (e f : Nat) (he : e < 64) (hf : f < 64) : (18446744073709551615 - 2 ^ e).testBit f = !decide (e = f) := by
  have h1 : 2 ^ e < 2 ^ 64 := Nat.pow_lt_pow_right (by decide) he
  have h2 : 18446744073709551615 - 2 ^ e = 2 ^ 64 - (2 ^ e + 1) := by omega
  rw [h2, Nat.testBit_two_pow_sub_succ h1, Nat.testBit_two_pow]
  simp [hf]
theorem putw_bit (v e b f : Nat) (he : e < 64) (hf : f < 64) (hb : b ≤ 1) : putw v e b / 2 ^ f % 2 = if f = e then b else v / 2 ^ f % 2 := by
  rw [bit_of, bit_of]
  unfold putw
  by_cases h1 : b = 1
  · rw [if_pos h1, Nat.testBit_or, Nat.testBit_and, mask_bit e f he hf, Nat.testBit_two_pow]
    by_cases h : f = e
    · subst h; simp [h1]
    · have h' : ¬ e = f := fun g => h g.symm
      simp [h, h']
  · rw [if_neg h1, Nat.testBit_and, mask_bit e f he hf]
    by_cases h : f = e
    · subst h; simp; omega
    · have h' : ¬ e = f := fun g => h g.symm
      simp [h, h']
theorem putw_lt (v e b : Nat) (he : e < 64) : putw v e b < 2 ^ 64 := by
  have h1 : 2 ^ e < 2 ^ 64 := Nat.pow_lt_pow_right (by decide) he
  have h2 : v &&& (18446744073709551615 - 2 ^ e) < 2 ^ 64 := Nat.and_lt_two_pow _ (Nat.lt_of_le_of_lt (Nat.sub_le _ _) (by decide))
  unfold putw
  split
  · exact Nat.or_lt_two_pow h2 h1
  · exact h2
theorem putw_mod (v e b k : Nat) (hv : v % 2 ^ k = 0) (he : k ≤ e) : putw v e b % 2 ^ k = 0 := by
  have h1 : 2 ^ e % 2 ^ k = 0 := Nat.mod_eq_zero_of_dvd (Nat.pow_dvd_pow 2 he)
  unfold putw
  split
  · rw [Nat.or_mod_two_pow, Nat.and_mod_two_pow, hv, h1]; simp
  · rw [Nat.and_mod_two_pow, hv]; simp
/-- the words behind a pixel that is written -/
def setB (B : Nat → Nat) (W x y b : Nat) : Nat → Nat := fun i => if i = y * wd W + x / 64 then putw (B i) (63 - x % 64) b else B i
theorem at_inj {W x y x' y' : Nat} (hx : x < W) (hx' : x' < W) (h : y * wd W + x / 64 = y' * wd W + x' / 64) : y = y' ∧ x / 64 = x' / 64 := by
  have h1 : x / 64 < wd W := by unfold wd; omega
  have h2 : x' / 64 < wd W := by unfold wd; omega
  have e1 : (y * wd W + x / 64) / wd W = y := by rw [Nat.mul_comm, Nat.mul_add_div (by omega), Nat.div_eq_of_lt h1, Nat.add_zero]
  have e2 : (y' * wd W + x' / 64) / wd W = y' := by rw [Nat.mul_comm, Nat.mul_add_div (by omega), Nat.div_eq_of_lt h2, Nat.add_zero]
  have hy : y = y' := by rw [← e1, h, e2]
  subst hy
  exact ⟨rfl, by omega⟩
theorem px_setB (W H : Nat) (B : Nat → Nat) (x y b : Nat) (hx : x < W) (hb : b ≤ 1) (x' y' : Int) (hin : 0 ≤ x' ∧ x' < W ∧ 0 ≤ y' ∧ y' < H) :
    px W H (setB B W x y b) x' y' = if x' = x ∧ y' = y then b else px W H B x' y' := by
  unfold px
  rw [if_pos hin, if_pos hin]
  obtain ⟨i, rfl⟩ : ∃ i : Nat, x' = i := ⟨x'.toNat, by omega⟩
  obtain ⟨j, rfl⟩ : ∃ j : Nat, y' = j := ⟨y'.toNat, by omega⟩
  simp only [Int.toNat_natCast, Int.ofNat_inj]
  unfold setB
  by_cases e : j * wd W + i / 64 = y * wd W + x / 64
  · rw [if_pos e, putw_bit _ _ _ _ (by omega) (by omega) hb]
    obtain ⟨e1, e2⟩ := at_inj (W := W) (by omega) hx e
    by_cases h : i % 64 = x % 64
    · rw [if_pos (by omega), if_pos ⟨by omega, e1⟩]
    · rw [if_neg (by omega), if_neg (by omega)]
  · rw [if_neg e, if_neg (fun h => e (by rw [h.1, h.2]))]
theorem px_setB_out (W H : Nat) (B : Nat → Nat) (x y b : Nat) (x' y' : Int) (hin : ¬ (0 ≤ x' ∧ x' < W ∧ 0 ≤ y' ∧ y' < H)) :
    px W H (setB B W x y b) x' y' = px W H B x' y' := by rw [px_far hin, px_far hin]
theorem clean_mod (W v : Nat) : clean W v ↔ v % 2 ^ ((64 - W % 64) % 64) = 0 := clean_iff W v
theorem okB_setB {W H n : Nat} {B : Nat → Nat} {x y b : Nat} (h : okB W H n B) (hx : x < W) : okB W H n (setB B W x y b) := by
  refine ⟨h.1, h.2.1, fun j hj => ?_⟩
  have hc := h.2.2 j hj
  simp only [Int.toNat_natCast] at hc ⊢
  unfold setB
  by_cases e : (j + 1) * wd W - 1 = y * wd W + x / 64
  · rw [if_pos e]
    rw [clean_mod] at hc ⊢
    refine putw_mod _ _ _ _ hc ?_
    have hwp : 1 ≤ wd W := by unfold wd; omega
    have hp : (j + 1) * wd W = j * wd W + wd W := by rw [Nat.add_mul, Nat.one_mul]
    have e1 : j * wd W + (W - 1) / 64 = y * wd W + x / 64 := by
      have : wd W - 1 = (W - 1) / 64 := by unfold wd; omega
      omega
    obtain ⟨_, e2⟩ := at_inj (W := W) (by omega) hx e1
    omega
  · rw [if_neg e]; exact hc
theorem andNot_val (v e : Nat) (hv : v < 2 ^ 64) (he : e < 64) : bits .andNot .u64 (v : Int) (2 ^ e) = ((v &&& (18446744073709551615 - 2 ^ e) : Nat) : Int) := by
  have h1 : 2 ^ e < 2 ^ 64 := Nat.pow_lt_pow_right (by decide) he
  have h2 : (2 : Int) ^ e = ((2 ^ e : Nat) : Int) := by simp
  rw [h2]
  exact u64_andNot_nat _ _ hv h1
theorem or_val (v e : Nat) (hv : v < 2 ^ 64) (he : e < 64) : bits .or .u64 (v : Int) (2 ^ e) = ((v ||| 2 ^ e : Nat) : Int) := by
  have h1 : 2 ^ e < 2 ^ 64 := Nat.pow_lt_pow_right (by decide) he
  have h2 : (2 : Int) ^ e = ((2 ^ e : Nat) : Int) := by simp
  rw [h2]
  exact u64_or_nat _ _ hv h1
end Go.Bm
