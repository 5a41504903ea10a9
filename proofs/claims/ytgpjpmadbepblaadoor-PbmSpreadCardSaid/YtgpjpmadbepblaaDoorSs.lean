/- The words of a bitmap by its pixels. No condition but the bounds that each theorem names. -/
import Derived.Test.YtgpjpmadbepblaaDoorSr
namespace Go.Bm
theorem sumTo_eq_zero {f : Nat → Nat} : ∀ n, sumTo f n = 0 → ∀ i, i < n → f i = 0
  | 0, _, i, hi => by omega
  | n + 1, h, i, hi => by
    rw [sumTo] at h
    by_cases e : i = n
    · subst e; omega
    · exact sumTo_eq_zero n (by omega) i (by omega)
theorem pop_eq_zero {v : Nat} (hv : v < 2 ^ 64) (h : pop v = 0) : v = 0 := by
  apply Nat.eq_of_testBit_eq
  intro e
  rw [Nat.zero_testBit]
  by_cases he : e < 64
  · have := sumTo_eq_zero 64 h (63 - e) (by omega)
    rw [show 63 - (63 - e) = e by omega, bit_of] at this
    cases hb : v.testBit e
    · rfl
    · rw [hb] at this; cases this
  · exact Nat.testBit_lt_two_pow (Nat.lt_of_lt_of_le hv (Nat.pow_le_pow_right (by decide) (by omega)))
theorem diff_zero {W H n : Nat} {A B : Nat → Nat} (ha : okB W H n A) (hb : okB W H n B) (hA : ∀ i, i < n → A i < 2 ^ 64) (hB : ∀ i, i < n → B i < 2 ^ 64) : diffN W H A B = 0 ↔ ∀ i, i < n → A i = B i := by
  rw [diff_words ha hb]
  constructor
  · intro h i hi
    have h1 := pop_eq_zero (Nat.xor_lt_two_pow (hA i hi) (hB i hi)) (sumTo_eq_zero n h i hi)
    have h2 : A i ^^^ B i ^^^ B i = B i := by rw [h1, Nat.zero_xor]
    rwa [Nat.xor_assoc, Nat.xor_self, Nat.xor_zero] at h2
  · intro h
    refine sumTo_zero n fun i hi => ?_
    show pop (A i ^^^ B i) = 0
    rw [h i hi, Nat.xor_self]
    exact pop_zero.1
/-- bitmaps with the same pixels have the same words -/
theorem px_ext {W H n : Nat} {A B : Nat → Nat} (ha : okB W H n A) (hb : okB W H n B) (hA : ∀ i, i < n → A i < 2 ^ 64) (hB : ∀ i, i < n → B i < 2 ^ 64)
    (h : ∀ x y : Nat, x < W → y < H → px W H A x y = px W H B x y) : ∀ i, i < n → A i = B i := by
  refine (diff_zero ha hb hA hB).1 (sumTo_zero H fun y hy => sumTo_zero W fun x hx => ?_)
  show (if _ then _ else _) = _
  rw [if_pos (h x y hx hy)]
end Go.Bm
namespace Go.Pbm
open Go.Bm
theorem pix_ext {W H n : Nat} {ps : List Bool} {A B : Nat → Nat} (ha : PixOk W H n ps A) (hb : PixOk W H n ps B) (hA : ∀ i, i < n → A i < 2 ^ 64) (hB : ∀ i, i < n → B i < 2 ^ 64) : ∀ i, i < n → A i = B i :=
  px_ext ha.1 hb.1 hA hB fun x y hx hy => (ha.2 x y hx hy).trans (hb.2 x y hx hy).symm
end Go.Pbm
