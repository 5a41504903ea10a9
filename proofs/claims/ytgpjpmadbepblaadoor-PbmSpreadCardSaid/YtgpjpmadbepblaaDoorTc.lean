/- What is read of a file of bytes that was written: plain lists. Conditions: the bounds that each theorem names. -/
import Derived.Test.YtgpjpmadbepblaaDoorTb
namespace Go.Proofs.YtgpjpmadbepblaaDoor
open Go.RowKit Go.Bm Go.Pbm Go.Sort

theorem fullB_eq (p : Nat → Nat) (k : Nat) : fullB p k = p (8 * k) * 128 + p (8 * k + 1) * 64 + p (8 * k + 2) * 32 + p (8 * k + 3) * 16 + p (8 * k + 4) * 8 + p (8 * k + 5) * 4 + p (8 * k + 6) * 2 + p (8 * k + 7) * 1 := by
  unfold fullB
  simp only [sumTo]
  simp
theorem fullB_lt {p : Nat → Nat} (hp : ∀ x, p x ≤ 1) (k : Nat) : fullB p k < 256 := by
  rw [fullB_eq]
  have h0 := hp (8 * k); have h1 := hp (8 * k + 1); have h2 := hp (8 * k + 2); have h3 := hp (8 * k + 3)
  have h4 := hp (8 * k + 4); have h5 := hp (8 * k + 5); have h6 := hp (8 * k + 6); have h7 := hp (8 * k + 7)
  omega
theorem fullB_bit {p : Nat → Nat} (hp : ∀ x, p x ≤ 1) (k r : Nat) (hr : r < 8) : fullB p k / 2 ^ (7 - r) % 2 = p (8 * k + r) := by
  rw [fullB_eq]
  have h0 := hp (8 * k); have h1 := hp (8 * k + 1); have h2 := hp (8 * k + 2); have h3 := hp (8 * k + 3)
  have h4 := hp (8 * k + 4); have h5 := hp (8 * k + 5); have h6 := hp (8 * k + 6); have h7 := hp (8 * k + 7)
  rcases (show r = 0 ∨ r = 1 ∨ r = 2 ∨ r = 3 ∨ r = 4 ∨ r = 5 ∨ r = 6 ∨ r = 7 by omega) with rfl | rfl | rfl | rfl | rfl | rfl | rfl | rfl
  all_goals
    simp only [Nat.sub_zero, Nat.add_zero, Nat.reduceSub, Nat.reducePow]
    omega
theorem row_full (W H : Nat) (B : Nat → Nat) (y : Nat) : rowF 1 W H B y = fullL (fun x => px W H B x y) ((W + 7) / 8) := by
  unfold rowF
  rw [if_neg (by decide)]
  exact (fullL_row (fun x hx => px_far (by omega))).symm
theorem rowsB_len (W H : Nat) (B : Nat → Nat) : ∀ y, (rowsF 1 W H B y).length = y * ((W + 7) / 8)
  | 0 => by rw [Nat.zero_mul]; rfl
  | y + 1 => by
    rw [rowsF, List.length_append, rowsB_len W H B y, row_full]
    unfold fullL
    rw [List.length_map, List.length_range, Nat.add_mul, Nat.one_mul]
theorem rowsB_get (W H : Nat) (B : Nat → Nat) : ∀ (Y y j : Nat), y < Y → j < (W + 7) / 8 → (rowsF 1 W H B Y)[y * ((W + 7) / 8) + j]? = some (UInt8.ofNat (fullB (fun x => px W H B x y) j))
  | 0, y, j, h, _ => by omega
  | Y + 1, y, j, h, hj => by
    have hl := rowsB_len W H B Y
    rw [rowsF]
    by_cases e : y < Y
    · have hlt : y * ((W + 7) / 8) + j < Y * ((W + 7) / 8) := by
        have := Nat.mul_le_mul_right ((W + 7) / 8) (show y + 1 ≤ Y from e)
        rw [Nat.add_mul, Nat.one_mul] at this
        generalize (W + 7) / 8 = q at *
        omega
      rw [List.getElem?_append_left (by rw [hl]; exact hlt)]
      exact rowsB_get W H B Y y j e hj
    · obtain rfl : y = Y := by omega
      rw [List.getElem?_append_right (by rw [hl]; exact Nat.le_add_right _ _), hl, Nat.add_sub_cancel_left, row_full]
      unfold fullL
      rw [List.getElem?_map, List.getElem?_range hj]
      rfl
theorem bytes_pix {W H n : Nat} {B : Nat → Nat} (ho : okB W H n B) : PixOk W H n (bitsP (rowsF 1 W H B H) W (W * H)) B := by
  refine ⟨ho, fun x y hx hy => ?_⟩
  have hlt : y * W + x < W * H := by
    have := Nat.mul_le_mul_right W (show y + 1 ≤ H from hy)
    rw [Nat.add_mul, Nat.one_mul, Nat.mul_comm H W] at this
    omega
  have a1 : (y * W + x) / W = y := by rw [Nat.mul_comm, Nat.mul_add_div (by omega), Nat.div_eq_of_lt hx, Nat.add_zero]
  have a2 : (y * W + x) % W = x := by rw [Nat.mul_comm, Nat.mul_add_mod, Nat.mod_eq_of_lt hx]
  have hb : (bitsP (rowsF 1 W H B H) W (W * H))[y * W + x]? = some (bitP (rowsF 1 W H B H) W (y * W + x)) := by
    unfold bitsP
    rw [List.getElem?_map, List.getElem?_range hlt]
    rfl
  have hp : ∀ z : Nat, px W H B z y ≤ 1 := fun z => px_le W H B z y
  have hv : bitP (rowsF 1 W H B H) W (y * W + x) = decide (px W H B x y = 1) := by
    unfold bitP
    rw [a1, a2, List.getD_eq_getElem?_getD, rowsB_get W H B H y (x / 8) hy (by omega)]
    show decide ((UInt8.ofNat (fullB (fun z : Nat => px W H B z y) (x / 8))).toNat / 2 ^ (7 - x % 8) % 2 = 1) = _
    rw [UInt8.toNat_ofNat_of_lt' (fullB_lt hp _), fullB_bit hp _ _ (Nat.mod_lt _ (by decide)), Nat.div_add_mod]
  unfold bitAt
  rw [hb, hv]
  have h := hp x
  generalize px W H B x y = b at *
  rcases (show b = 0 ∨ b = 1 by omega) with rfl | rfl <;> rfl
theorem bytes_read {W H n : Nat} {B : Nat → Nat} (ho : okB W H n B) : ∃ ps, readS (fileF 1 W H B) = .inr (W, H, ps) ∧ PixOk W H n ps B := by
  refine ⟨_, ?_, bytes_pix ho⟩
  unfold fileF
  have hl := rowsB_len W H B H
  rw [Nat.mul_comm] at hl
  rw [read_bytes W H _ ho.1, if_neg (by rw [hl]; exact Nat.lt_irrefl _), if_neg (by rw [hl]; exact Nat.lt_irrefl _)]
  rfl
theorem bytes_more {W H n : Nat} {B : Nat → Nat} (ho : okB W H n B) : readS (fileF 1 W H B ++ [49]) = .inl 33 := by
  unfold fileF
  have hl := rowsB_len W H B H
  rw [Nat.mul_comm] at hl
  rw [List.append_assoc, read_bytes W H _ ho.1, if_neg (by rw [List.length_append, hl]; omega), if_pos (by rw [List.length_append, hl]; exact Nat.lt_succ_self _)]
  rfl
theorem bytes_less {W H n : Nat} {B : Nat → Nat} (ho : okB W H n B) : ∃ f, (fileF 1 W H B).take ((fileF 1 W H B).length - 2) = f ∧ (readS f = .inl 32 ∨ readS f = .inl 30) := by
  have hW : 1 ≤ W := by have := ho.1.1; omega
  have hH : 1 ≤ H := by have := ho.1.2.1; omega
  have hl := rowsB_len W H B H
  have hrow : 1 ≤ (W + 7) / 8 := by omega
  have hpos : 1 ≤ H * ((W + 7) / 8) := Nat.mul_pos hH hrow
  refine ⟨_, rfl, ?_⟩
  unfold fileF
  generalize hrows : rowsF 1 W H B H = rows at *
  by_cases h2 : 2 ≤ rows.length
  · left
    rw [List.length_append, show (headF 1 W H).length + rows.length - 2 = (headF 1 W H).length + (rows.length - 2) by omega, List.take_length_add_append, read_bytes W H _ ho.1, if_pos]
    · rfl
    · rw [List.length_take, Nat.mul_comm ((W + 7) / 8) H, ← hl]
      omega
  · right
    have h1 : rows.length = 1 := by omega
    obtain ⟨c, rfl⟩ : ∃ c, rows = [c] := List.length_eq_one_iff.1 h1
    have e : headF 1 W H ++ [c] = (80 :: 52 :: 10 :: (Lib.decDigits W ++ 32 :: (Lib.decDigits H ++ []))) ++ [10, c] := by
      rw [headF_eq, if_neg (by decide)]
      simp
    rw [e, List.length_append, show ([10, c] : List UInt8).length = 2 from rfl, Nat.add_sub_cancel, List.take_left]
    exact read_bare W H ho.1
theorem file_len (k W H : Nat) (B : Nat → Nat) : 7 ≤ (fileF k W H B).length := by
  have h1 : 0 < (Lib.decDigits W).length := List.length_pos_iff.2 (decD W).2.1
  have h2 : 0 < (Lib.decDigits H).length := List.length_pos_iff.2 (decD H).2.1
  unfold fileF
  rw [headF_eq]
  simp only [List.length_cons, List.length_append]
  omega
end Go.Proofs.YtgpjpmadbepblaaDoor
