/- Plain facts on bitmaps' sums: over the pixels and over the words' bits; the lowest bit struck; the pixels that are unlike. No condition but the bounds that each theorem names. -/
import Derived.Test.YtfniekdohidbiaaPc
namespace Go.Bm
theorem low_bits (k m e : Nat) : (2 ^ k * (2 * m + 1)) / 2 ^ e % 2 = (if e < k then 0 else if e = k then 1 else m / 2 ^ (e - k - 1) % 2) ∧ (2 ^ (k + 1) * m) / 2 ^ e % 2 = (if e ≤ k then 0 else m / 2 ^ (e - k - 1) % 2) := by
  constructor
  · by_cases h : e < k
    · rw [if_pos h]
      obtain ⟨d, rfl⟩ : ∃ d, k = e + (d + 1) := ⟨k - e - 1, by omega⟩
      rw [Nat.pow_add, Nat.mul_assoc, Nat.mul_div_cancel_left _ (Nat.two_pow_pos e), Nat.pow_succ, Nat.mul_assoc, Nat.mul_left_comm]; omega
    · rw [if_neg h]
      by_cases h2 : e = k
      · subst h2; rw [if_pos rfl, Nat.mul_div_cancel_left _ (Nat.two_pow_pos e)]; omega
      · rw [if_neg h2]
        obtain ⟨d, rfl⟩ : ∃ d, e = k + (1 + d) := ⟨e - k - 1, by omega⟩
        rw [Nat.pow_add, ← Nat.div_div_eq_div_mul, Nat.mul_div_cancel_left _ (Nat.two_pow_pos k), Nat.pow_add, ← Nat.div_div_eq_div_mul, show (2 * m + 1) / 2 ^ 1 = m by omega, show k + (1 + d) - k - 1 = d by omega]
  · by_cases h : e ≤ k
    · rw [if_pos h]
      obtain ⟨d, rfl⟩ : ∃ d, k = e + d := ⟨k - e, by omega⟩
      rw [show e + d + 1 = e + (d + 1) by omega, Nat.pow_add, Nat.mul_assoc, Nat.mul_div_cancel_left _ (Nat.two_pow_pos e), Nat.pow_succ, Nat.mul_assoc, Nat.mul_left_comm]; omega
    · rw [if_neg h]
      obtain ⟨d, rfl⟩ : ∃ d, e = k + 1 + d := ⟨e - k - 1, by omega⟩
      rw [Nat.pow_add (m := k + 1), ← Nat.div_div_eq_div_mul, Nat.mul_div_cancel_left _ (Nat.two_pow_pos _), show k + 1 + d - k - 1 = d by omega]
theorem and_pred (k m : Nat) : (2 ^ k * (2 * m + 1)) &&& (2 ^ k * (2 * m + 1) - 1) = 2 ^ (k + 1) * m := by
  have hp := Nat.two_pow_pos k
  have e1 : 2 ^ k * (2 * m + 1) - 1 = 2 ^ (k + 1) * m + (2 ^ k - 1) := by
    rw [Nat.mul_add, Nat.mul_one, Nat.pow_succ, Nat.mul_assoc]; omega
  have e2 : 2 ^ k * (2 * m + 1) = 2 ^ (k + 1) * m + 2 ^ k := by rw [Nat.mul_add, Nat.mul_one, Nat.pow_succ, Nat.mul_assoc]
  rw [e1, e2]
  have h2 : 2 ^ (k + 1) = 2 * 2 ^ k := by rw [Nat.pow_succ, Nat.mul_comm]
  apply Nat.eq_of_testBit_eq
  intro i
  rw [Nat.testBit_and, Nat.testBit_two_pow_mul_add _ (by omega), Nat.testBit_two_pow_mul_add _ (by omega), ← Nat.add_zero (2 ^ (k + 1) * m), Nat.testBit_two_pow_mul_add _ (by omega)]
  by_cases h : i < k + 1
  · rw [if_pos h, if_pos h, if_pos h, Nat.testBit_two_pow, Nat.testBit_two_pow_sub_one]
    by_cases g : k = i
    · subst g; simp
    · simp [g]
  · rw [if_neg h, if_neg h, if_neg h, Bool.and_self]
/-- the lowest bit is struck -/
theorem strike (w : Nat) (h0 : w ≠ 0) (h : w < 2 ^ 64) : Lib.ctz 64 w < 64 ∧ pop w = pop (w &&& (w - 1)) + 1 ∧ wsum w = wsum (w &&& (w - 1)) + (63 - Lib.ctz 64 w) ∧ w &&& (w - 1) < w := by
  obtain ⟨m, hm, hk⟩ := Lib.ctzFrom_spec 64 w (by omega) h
  have hc : Lib.ctz 64 w = Lib.ctzFrom 64 w := by unfold Lib.ctz; rw [if_neg h0]
  rw [hc]
  generalize Lib.ctzFrom 64 w = k at *
  have ha : w &&& (w - 1) = 2 ^ (k + 1) * m := by rw [hm]; exact and_pred k m
  have hb := low_bits k m
  rw [ha]
  refine ⟨hk, ?_, ?_, ?_⟩
  · unfold pop
    refine sumTo_except (a := 63 - k) (by omega) (fun j hj hne => ?_) ?_
    · show w / 2 ^ (63 - j) % 2 = _
      rw [hm, (hb _).1, (hb _).2]
      by_cases g : 63 - j < k
      · rw [if_pos g, if_pos (by omega)]
      · rw [if_neg g, if_neg (by omega), if_neg (by omega)]
    · show w / 2 ^ (63 - (63 - k)) % 2 = _
      rw [show 63 - (63 - k) = k by omega, hm, (hb _).1, (hb _).2, if_neg (by omega), if_pos rfl, if_pos (by omega)]
  · unfold wsum
    refine sumTo_except (a := 63 - k) (by omega) (fun j hj hne => ?_) ?_
    · show j * (w / 2 ^ (63 - j) % 2) = _
      rw [hm, (hb _).1, (hb _).2]
      by_cases g : 63 - j < k
      · rw [if_pos g, if_pos (by omega)]
      · rw [if_neg g, if_neg (by omega), if_neg (by omega)]
    · show (63 - k) * (w / 2 ^ (63 - (63 - k)) % 2) = _
      rw [show 63 - (63 - k) = k by omega, hm, (hb _).1, (hb _).2, if_neg (by omega), if_pos rfl, if_pos (by omega)]; omega
  · have hp := Nat.two_pow_pos k
    have e2 : 2 ^ k * (2 * m + 1) = 2 ^ (k + 1) * m + 2 ^ k := by rw [Nat.mul_add, Nat.mul_one, Nat.pow_succ, Nat.mul_assoc]
    rw [hm, e2]; omega
theorem pop_zero : pop 0 = 0 ∧ wsum 0 = 0 := by decide
theorem px_in {W H : Nat} (B : Nat → Nat) {x y : Nat} (hx : x < W) (hy : y < H) : px W H B x y = B (y * wd W + x / 64) / 2 ^ (63 - x % 64) % 2 := by
  unfold px; rw [if_pos (by omega)]; simp
theorem mod_bit {v d e : Nat} (h : v % 2 ^ d = 0) (he : e < d) : v / 2 ^ e % 2 = 0 := by
  obtain ⟨q, hq⟩ := Nat.dvd_of_mod_eq_zero h
  obtain ⟨c, rfl⟩ : ∃ c, d = e + (c + 1) := ⟨d - e - 1, by omega⟩
  rw [hq, Nat.pow_add, Nat.mul_assoc, Nat.mul_div_cancel_left _ (Nat.two_pow_pos e), Nat.pow_succ, Nat.mul_assoc, Nat.mul_left_comm]; omega
/-- a row's pixels are its words' bits -/
theorem row_sum {W H n : Nat} {B : Nat → Nat} (ho : okB W H n B) {y : Nat} (hy : y < H) (f : Nat → Nat) :
    sumTo (fun x => f x * px W H B (x : Int) (y : Int)) W = sumTo (fun k => sumTo (fun j => f (k * 64 + j) * (B (y * wd W + k) / 2 ^ (63 - j) % 2)) 64) (wd W) := by
  have h1 : sumTo (fun k => sumTo (fun j => f (k * 64 + j) * (B (y * wd W + k) / 2 ^ (63 - j) % 2)) 64) (wd W) = sumTo (fun x => f x * (B (y * wd W + x / 64) / 2 ^ (63 - x % 64) % 2)) (wd W * 64) := by
    rw [← sumTo_rows (fun x => f x * (B (y * wd W + x / 64) / 2 ^ (63 - x % 64) % 2)) 64 (wd W)]
    refine sumTo_congr _ fun k _ => sumTo_congr _ fun j hj => ?_
    show _ = f (k * 64 + j) * (B (y * wd W + (k * 64 + j) / 64) / 2 ^ (63 - (k * 64 + j) % 64) % 2)
    rw [show (k * 64 + j) / 64 = k by omega, show (k * 64 + j) % 64 = j by omega]
  have hw1 : 1 ≤ W := by have := ho.1.1; omega
  have hd : wd W * 64 = W + (wd W * 64 - W) := by unfold wd; omega
  rw [h1, hd, sumTo_split]
  rw [sumTo_zero (f := fun i => f (W + i) * (B (y * wd W + (W + i) / 64) / 2 ^ (63 - (W + i) % 64) % 2)) _ (fun i hi => ?_), Nat.add_zero]
  · exact sumTo_congr _ fun x hx => by rw [px_in B hx hy]
  · have hc := ho.2.2 y (by simpa using hy)
    rw [clean_mod] at hc
    have hi2 : W + i < wd W * 64 := by omega
    have e1 : (W + i) / 64 = wd W - 1 := by unfold wd at hi2 ⊢; omega
    have e2 : y * wd (W : Int).toNat + wd (W : Int).toNat = (y + 1) * wd (W : Int).toNat := by rw [Nat.add_mul, Nat.one_mul]
    simp only [Int.toNat_natCast] at hc e2
    have hwp : 1 ≤ wd W := by unfold wd; omega
    have e3 : y * wd W + (wd W - 1) = (y + 1) * wd W - 1 := by omega
    have hm : 63 - (W + i) % 64 < (64 - W % 64) % 64 := by unfold wd at hi2; omega
    rw [e1, e3, mod_bit hc hm, Nat.mul_zero]
theorem sumTo_mul' (c : Nat) (f : Nat → Nat) (n : Nat) : sumTo (fun i => f i * c) n = sumTo f n * c := by
  rw [Nat.mul_comm, ← sumTo_mul]; exact sumTo_congr n fun i _ => Nat.mul_comm _ _
/-- the black pixels -/
def blackN (W H : Nat) (B : Nat → Nat) : Nat := sumTo (fun y => sumTo (fun x => px W H B (x : Int) (y : Int)) W) H
def sumX (W H : Nat) (B : Nat → Nat) : Nat := sumTo (fun y => sumTo (fun x => x * px W H B (x : Int) (y : Int)) W) H
def sumY (W H : Nat) (B : Nat → Nat) : Nat := sumTo (fun y => sumTo (fun x => y * px W H B (x : Int) (y : Int)) W) H
def diffN (W H : Nat) (A B : Nat → Nat) : Nat := sumTo (fun y => sumTo (fun x => if px W H A (x : Int) (y : Int) = px W H B (x : Int) (y : Int) then 0 else 1) W) H
theorem wd_pos {W : Nat} (h : 1 ≤ W) : 1 ≤ wd W := by unfold wd; omega
theorem black_words {W H n : Nat} {B : Nat → Nat} (ho : okB W H n B) : blackN W H B = sumTo (fun i => pop (B i)) n := by
  have hn := ho.2.1
  simp only [Int.toNat_natCast] at hn
  rw [hn, ← sumTo_rows]
  refine sumTo_congr H fun y hy => ?_
  have h := row_sum ho hy (fun _ => 1)
  simp only [Nat.one_mul] at h
  rw [h]; rfl
theorem sumX_words {W H n : Nat} {B : Nat → Nat} (ho : okB W H n B) : sumX W H B = sumTo (fun i => i % wd W * 64 * pop (B i) + wsum (B i)) n := by
  have hn := ho.2.1
  simp only [Int.toNat_natCast] at hn
  rw [hn, ← sumTo_rows]
  refine sumTo_congr H fun y hy => ?_
  rw [row_sum ho hy (fun x => x)]
  refine sumTo_congr _ fun k hk => ?_
  show _ = (y * wd W + k) % wd W * 64 * pop (B (y * wd W + k)) + wsum (B (y * wd W + k))
  rw [show (y * wd W + k) % wd W = k by rw [Nat.mul_comm, Nat.mul_add_mod, Nat.mod_eq_of_lt hk]]
  unfold pop wsum
  rw [← sumTo_mul, ← sumTo_add]
  exact sumTo_congr _ fun j _ => Nat.add_mul _ _ _
theorem sumY_words {W H n : Nat} {B : Nat → Nat} (ho : okB W H n B) : sumY W H B = sumTo (fun i => i / wd W * pop (B i)) n := by
  have hn := ho.2.1
  have hw1 : 1 ≤ W := by have := ho.1.1; omega
  have hwp := wd_pos hw1
  simp only [Int.toNat_natCast] at hn
  rw [hn, ← sumTo_rows]
  refine sumTo_congr H fun y hy => ?_
  have h := row_sum ho hy (fun _ => 1)
  simp only [Nat.one_mul] at h
  rw [sumTo_mul, h, ← sumTo_mul]
  refine sumTo_congr _ fun k hk => ?_
  show _ = (y * wd W + k) / wd W * pop (B (y * wd W + k))
  rw [show (y * wd W + k) / wd W = y by rw [Nat.mul_comm, Nat.mul_add_div (by omega), Nat.div_eq_of_lt hk, Nat.add_zero]]
  rfl
theorem okB_xor {W H n : Nat} {A B : Nat → Nat} (ha : okB W H n A) (hb : okB W H n B) : okB W H n (fun i => A i ^^^ B i) := by
  refine ⟨ha.1, ha.2.1, fun j hj => ?_⟩
  have h1 := ha.2.2 j hj
  have h2 := hb.2.2 j hj
  rw [clean_mod] at h1 h2 ⊢
  rw [Nat.xor_mod_two_pow, h1, h2, Nat.xor_self]
theorem xor_bit (a b e : Nat) : (a ^^^ b) / 2 ^ e % 2 = if a / 2 ^ e % 2 = b / 2 ^ e % 2 then 0 else 1 := by
  rw [bit_of, bit_of, bit_of, Nat.testBit_xor]
  cases a.testBit e <;> cases b.testBit e <;> rfl
theorem diff_words {W H n : Nat} {A B : Nat → Nat} (ha : okB W H n A) (hb : okB W H n B) : diffN W H A B = sumTo (fun i => pop (A i ^^^ B i)) n := by
  rw [← black_words (okB_xor ha hb)]
  refine sumTo_congr H fun y hy => sumTo_congr W fun x hx => ?_
  show (if px W H A (x : Int) (y : Int) = px W H B (x : Int) (y : Int) then 0 else 1) = _
  rw [px_in _ hx hy, px_in _ hx hy, px_in _ hx hy]
  exact (xor_bit _ _ _).symm
theorem black_le (W H : Nat) (B : Nat → Nat) : blackN W H B ≤ H * W := by
  refine sumTo_le H fun y _ => ?_
  have := sumTo_le (f := fun x => px W H B (x : Int) (y : Int)) (c := 1) W fun x _ => px_le W H B x y
  omega
end Go.Bm
