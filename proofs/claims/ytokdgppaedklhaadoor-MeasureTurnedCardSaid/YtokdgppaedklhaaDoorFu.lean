/- Plain facts on the sums of bitmaps that are turned and mirrored; pixels that are unlike. No condition but the bounds that each theorem names. -/
import Derived.Test.YtokdgppaedklhaaDoorWl
namespace Go.Bm
theorem sumTo_swap (f : Nat → Nat → Nat) (m : Nat) : ∀ n, sumTo (fun y => sumTo (fun x => f x y) m) n = sumTo (fun x => sumTo (fun y => f x y) n) m
  | 0 => by show 0 = _; exact (sumTo_zero m fun _ _ => rfl).symm
  | n + 1 => by
    rw [sumTo, sumTo_swap f m n, ← sumTo_add]
    exact sumTo_congr m fun _ _ => rfl
theorem laid_px {W H n : Nat} {S : Int → Int → Nat} {C : Nat → Nat} (h : Laid W H n (fun _ _ => 0) S 0 0 W H 0 C) {x y : Nat} (hx : x < W) (hy : y < H) : px W H C x y = S x y := by
  rw [h.2, if_pos (by omega)]
  congr 1 <;> omega
theorem turn_black {W H n : Nat} {A C : Nat → Nat} (h : Laid H W n (fun _ _ => 0) (fun i j => px W H A j (H - 1 - i)) 0 0 H W 0 C) : blackN H W C = blackN W H A := by
  unfold blackN
  rw [sumTo_swap (fun x y => px W H A (x : Int) (y : Int)) W H]
  refine sumTo_congr W fun y hy => ?_
  rw [← sumTo_rev (fun x => px W H A (y : Int) (x : Int)) H]
  refine sumTo_congr H fun x hx => ?_
  rw [laid_px h hx hy]
  show px W H A (y : Int) ((H : Int) - 1 - (x : Int)) = px W H A (y : Int) ((H - 1 - x : Nat) : Int)
  congr 1; omega
theorem mirror_black {W H n : Nat} {A C : Nat → Nat} (h : Laid W H n (fun _ _ => 0) (fun i j => px W H A (W - 1 - i) j) 0 0 W H 0 C) : blackN W H C = blackN W H A := by
  refine sumTo_congr H fun y hy => ?_
  rw [← sumTo_rev (fun x => px W H A (x : Int) (y : Int)) W]
  refine sumTo_congr W fun x hx => ?_
  rw [laid_px h hx hy]
  show px W H A ((W : Int) - 1 - (x : Int)) (y : Int) = px W H A ((W - 1 - x : Nat) : Int) (y : Int)
  congr 1; omega
theorem mirror_sumY {W H n : Nat} {A C : Nat → Nat} (h : Laid W H n (fun _ _ => 0) (fun i j => px W H A (W - 1 - i) j) 0 0 W H 0 C) : sumY W H C = sumY W H A := by
  refine sumTo_congr H fun y hy => ?_
  rw [← sumTo_rev (fun x => y * px W H A (x : Int) (y : Int)) W]
  refine sumTo_congr W fun x hx => ?_
  rw [laid_px h hx hy]
  show y * px W H A ((W : Int) - 1 - (x : Int)) (y : Int) = y * px W H A ((W - 1 - x : Nat) : Int) (y : Int)
  congr 2; omega
theorem mirror_sumX {W H n : Nat} {A C : Nat → Nat} (h : Laid W H n (fun _ _ => 0) (fun i j => px W H A (W - 1 - i) j) 0 0 W H 0 C) : sumX W H A + sumX W H C = (W - 1) * blackN W H A := by
  unfold sumX blackN
  rw [← sumTo_add, ← sumTo_mul]
  refine sumTo_congr H fun y hy => ?_
  have e : sumTo (fun x => x * px W H C (x : Int) (y : Int)) W = sumTo (fun x => (W - 1 - x) * px W H A (x : Int) (y : Int)) W := by
    rw [← sumTo_rev (fun x => (W - 1 - x) * px W H A (x : Int) (y : Int)) W]
    refine sumTo_congr W fun x hx => ?_
    rw [laid_px h hx hy]
    show x * px W H A ((W : Int) - 1 - (x : Int)) (y : Int) = (W - 1 - (W - 1 - x)) * px W H A ((W - 1 - x : Nat) : Int) (y : Int)
    rw [show W - 1 - (W - 1 - x) = x by omega]
    congr 2; omega
  rw [e, ← sumTo_add, ← sumTo_mul]
  refine sumTo_congr W fun x hx => ?_
  rw [← Nat.add_mul, show x + (W - 1 - x) = W - 1 by omega]
theorem sumX_le (W H : Nat) (A : Nat → Nat) : sumX W H A ≤ (W - 1) * blackN W H A := by
  unfold sumX blackN
  rw [← sumTo_mul]
  refine sumTo_leq H fun y _ => ?_
  rw [← sumTo_mul]
  exact sumTo_leq W fun x hx => Nat.mul_le_mul_right _ (by omega)
theorem diff_comm (W H : Nat) (A B : Nat → Nat) : diffN W H A B = diffN W H B A := by
  refine sumTo_congr H fun y _ => sumTo_congr W fun x _ => ?_
  by_cases h : px W H A (x : Int) (y : Int) = px W H B (x : Int) (y : Int)
  · rw [if_pos h, if_pos h.symm]
  · rw [if_neg h, if_neg (Ne.symm h)]
theorem diff_le (W H : Nat) (A B : Nat → Nat) : diffN W H A B ≤ W * H := by
  have := sumTo_le (f := fun y => sumTo (fun x => if px W H A (x : Int) (y : Int) = px W H B (x : Int) (y : Int) then 0 else 1) W) (c := W * 1) H fun y _ => sumTo_le W fun x _ => by split <;> omega
  rw [Nat.mul_one, Nat.mul_comm] at this
  exact this
theorem sumTo_eq_zero {f : Nat → Nat} : ∀ n, sumTo f n = 0 → ∀ i, i < n → f i = 0
  | 0, _, i, hi => by omega
  | n + 1, h, i, hi => by
    rw [sumTo] at h
    by_cases e : i = n
    · subst e; omega
    · exact sumTo_eq_zero n (by omega) i (by omega)
theorem pop_eq_zero {v : Nat} (hv : v < 2 ^ 64) (h : pop v = 0) : v = 0 := by
  apply Nat.eq_of_testBit_eq
  intro e
  rw [Nat.zero_testBit]
  by_cases he : e < 64
  · have := sumTo_eq_zero 64 h (63 - e) (by omega)
    rw [show 63 - (63 - e) = e by omega, bit_of] at this
    cases hb : v.testBit e
    · rfl
    · rw [hb] at this; cases this
  · exact Nat.testBit_lt_two_pow (Nat.lt_of_lt_of_le hv (Nat.pow_le_pow_right (by decide) (by omega)))
theorem diff_zero {W H n : Nat} {A B : Nat → Nat} (ha : okB W H n A) (hb : okB W H n B) (hA : ∀ i, i < n → A i < 2 ^ 64) (hB : ∀ i, i < n → B i < 2 ^ 64) : diffN W H A B = 0 ↔ ∀ i, i < n → A i = B i := by
  rw [diff_words ha hb]
  constructor
  · intro h i hi
    have h1 := pop_eq_zero (Nat.xor_lt_two_pow (hA i hi) (hB i hi)) (sumTo_eq_zero n h i hi)
    have h2 : A i ^^^ B i ^^^ B i = B i := by rw [h1, Nat.zero_xor]
    rwa [Nat.xor_assoc, Nat.xor_self, Nat.xor_zero] at h2
  · intro h
    refine sumTo_zero n fun i hi => ?_
    show pop (A i ^^^ B i) = 0
    rw [h i hi, Nat.xor_self]
    exact pop_zero.1
end Go.Bm
