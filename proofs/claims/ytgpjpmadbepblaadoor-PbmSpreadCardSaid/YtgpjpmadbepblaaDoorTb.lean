/- What is read of a file that was written: plain lists. Conditions: the bounds that each theorem names. -/
import Derived.Test.YtgpjpmadbepblaaDoorTa
namespace Go.Proofs.YtgpjpmadbepblaaDoor
open Go.RowKit Go.Bm Go.Pbm Go.Sort

def mapS (W H : Nat) : Nat ⊕ List Bool → Nat ⊕ (Nat × Nat × List Bool)
  | .inl e => .inl e
  | .inr ps => .inr (W, H, ps)
theorem notD10 : ¬ isD 10 := by unfold isD; decide
theorem notD32 : ¬ isD 32 := by unfold isD; decide
theorem trans10 : Trans [10] := Trans.white (by decide)
theorem trans32 : Trans [32] := Trans.white (by decide)
/-- a head read: both numbers, what stands behind -/
theorem head_any (y : UInt8) (W H : Nat) (rest : List UInt8) (hW : W ≤ 2147483648) (hH : H ≤ 2147483648) (hr : ∀ c u, rest = c :: u → ¬ isD c) :
    ∃ i j, numS (80 :: y :: 10 :: (Lib.decDigits W ++ 32 :: (Lib.decDigits H ++ rest))) 2 = some (W, i) ∧ numS (80 :: y :: 10 :: (Lib.decDigits W ++ 32 :: (Lib.decDigits H ++ rest))) i = some (H, j) ∧ (80 :: y :: 10 :: (Lib.decDigits W ++ 32 :: (Lib.decDigits H ++ rest))).drop j = rest := by
  obtain ⟨h1, h2⟩ := numS_at (l := 80 :: y :: 10 :: (Lib.decDigits W ++ 32 :: (Lib.decDigits H ++ rest))) (pre := [10]) (t := 32 :: (Lib.decDigits H ++ rest)) (i := 2) (n := W) rfl trans10 (by simp) hW (fun c u h => by cases h; exact notD32)
  obtain ⟨h3, h4⟩ := numS_at (pre := [32]) (t := rest) (n := H) h2 trans32 (by simp) hH hr
  exact ⟨_, _, h1, h3, h4⟩
theorem readS_head {y : UInt8} {W H i j : Nat} {l t : List UInt8} (hl : l = 80 :: y :: t) (hy : y.toNat = 49 ∨ y.toNat = 52) (h1 : numS l 2 = some (W, i)) (h2 : numS l i = some (H, j)) (hS : okS W H) : readS l = mapS W H (bodyS l j W H) := by
  unfold readS
  rw [if_neg (by rw [hl]; simp), if_neg (by rw [hl]; exact fun h => h ⟨rfl, hy⟩), h1]
  dsimp only
  rw [h2]
  dsimp only
  rw [if_pos hS]
  cases bodyS l j W H <;> rfl
theorem headF_eq (k W H : Nat) (rest : List UInt8) : headF k W H ++ rest = 80 :: (if k = 0 then 49 else 52) :: 10 :: (Lib.decDigits W ++ 32 :: (Lib.decDigits H ++ 10 :: rest)) := by
  unfold headF
  by_cases h : k = 0 <;> simp [h]
theorem drop_get {l t : List UInt8} {j : Nat} {c : UInt8} (h : l.drop j = c :: t) : l[j]? = some c ∧ l.drop (j + 1) = t := by
  constructor
  · have := congrArg (·[0]?) h
    simpa [List.getElem?_drop] using this
  · rw [← List.drop_drop, h]; rfl
theorem read_text (W H : Nat) (body : List UInt8) (hS : okS W H) : readS (headF 0 W H ++ body) = mapS W H (endP (pixP (W * H) ([10] ++ body))) := by
  have hs := okS_le hS
  obtain ⟨i, j, h1, h2, h3⟩ := head_any 49 W H (10 :: body) (by omega) (by omega) (fun c u h => by cases h; exact notD10)
  rw [headF_eq, if_pos rfl, readS_head rfl (by decide) h1 h2 hS]
  congr 1
  unfold bodyS
  obtain ⟨h4, h5⟩ := drop_get h3
  rw [if_pos (show ((80 :: 49 :: 10 :: (Lib.decDigits W ++ 32 :: (Lib.decDigits H ++ 10 :: body)) : List UInt8).getD 1 0).toNat = 49 from rfl), if_neg, h3]
  · rfl
  · rintro ⟨c, hc, h6, _⟩
    rw [h4] at hc
    cases hc
    exact h6 (by decide)
theorem read_bytes (W H : Nat) (body : List UInt8) (hS : okS W H) : readS (headF 1 W H ++ body) = mapS W H (if body.length < (W + 7) / 8 * H then .inl 32 else if (W + 7) / 8 * H < body.length then .inl 33 else .inr (bitsP body W (W * H))) := by
  have hs := okS_le hS
  obtain ⟨i, j, h1, h2, h3⟩ := head_any 52 W H (10 :: body) (by omega) (by omega) (fun c u h => by cases h; exact notD10)
  rw [headF_eq, if_neg (by decide), readS_head rfl (by decide) h1 h2 hS]
  congr 1
  unfold bodyS
  obtain ⟨h4, h5⟩ := drop_get h3
  rw [if_neg (show ¬ ((80 :: 52 :: 10 :: (Lib.decDigits W ++ 32 :: (Lib.decDigits H ++ 10 :: body)) : List UInt8).getD 1 0).toNat = 49 from by show ¬ (52 = 49); decide), if_neg (by rw [hereV_at h4]; decide), h5]
/-- a head without what must stand behind it -/
theorem read_bare (W H : Nat) (hS : okS W H) : readS (80 :: 52 :: 10 :: (Lib.decDigits W ++ 32 :: (Lib.decDigits H ++ []))) = .inl 30 := by
  have hs := okS_le hS
  obtain ⟨i, j, h1, h2, h3⟩ := head_any 52 W H [] (by omega) (by omega) (fun c u h => by cases h)
  rw [readS_head rfl (by decide) h1 h2 hS]
  unfold bodyS
  rw [if_neg (show ¬ ((80 :: 52 :: 10 :: (Lib.decDigits W ++ 32 :: (Lib.decDigits H ++ [])) : List UInt8).getD 1 0).toNat = 49 from by show ¬ (52 = 49); decide), if_pos]
  · rfl
  · rw [hereV_end (by have := congrArg List.length h3; rw [List.length_drop] at this; simp only [List.length_nil] at this; omega)]
    rfl

/-! ## pixels as digits -/
def rowL (p : Nat → Nat) (W x : Nat) : List (Bool × List UInt8) := (List.range x).map fun x => (decide (p x = 1), if x % 64 = 63 ∨ x + 1 = W then [10] else [])
theorem dg_dp {b : Nat} (h : b ≤ 1) : dg b = dp (decide (b = 1)) := by
  rcases (show b = 0 ∨ b = 1 by omega) with rfl | rfl <;> rfl
theorem digRow_seq (p : Nat → Nat) (W : Nat) (hp : ∀ x, p x ≤ 1) : ∀ x, digRow p W x = seqA (rowL p W x)
  | 0 => rfl
  | x + 1 => by
    rw [digRow, digRow_seq p W hp x]
    unfold rowL
    rw [List.range_succ, List.map_append, seqA_append, dg_dp (hp x)]
    show _ = _ ++ (dp _ :: (_ ++ []))
    rw [List.append_nil]
def allL (W H : Nat) (B : Nat → Nat) : Nat → List (Bool × List UInt8)
  | 0 => []
  | y + 1 => allL W H B y ++ rowL (fun x => px W H B x y) W W
theorem rowsF_seq (W H : Nat) (B : Nat → Nat) : ∀ y, rowsF 0 W H B y = seqA (allL W H B y)
  | 0 => rfl
  | y + 1 => by
    rw [rowsF, allL, seqA_append, rowsF_seq W H B y]
    congr 1
    exact digRow_seq _ W (fun x => px_le W H B x y) W
theorem rowL_len (p : Nat → Nat) (W x : Nat) : (rowL p W x).length = x := by unfold rowL; simp
theorem allL_len (W H : Nat) (B : Nat → Nat) : ∀ y, (allL W H B y).length = y * W
  | 0 => by rw [Nat.zero_mul]; rfl
  | y + 1 => by rw [allL, List.length_append, allL_len W H B y, rowL_len, Nat.add_mul, Nat.one_mul]
theorem allL_trans (W H : Nat) (B : Nat → Nat) : ∀ y, ∀ x ∈ allL W H B y, Trans x.2
  | 0, x, h => by cases h
  | y + 1, x, h => by
    rw [allL, List.mem_append] at h
    rcases h with h | h
    · exact allL_trans W H B y x h
    · unfold rowL at h
      obtain ⟨z, _, rfl⟩ := List.mem_map.1 h
      show Trans (if _ then _ else _)
      split
      · exact trans10
      · exact Trans.nil
theorem allL_get (W H : Nat) (B : Nat → Nat) : ∀ (Y y x : Nat), y < Y → x < W → ((allL W H B Y).map (·.1))[y * W + x]? = some (decide (px W H B x y = 1))
  | 0, y, x, h, _ => by omega
  | Y + 1, y, x, h, hx => by
    rw [allL, List.map_append]
    have hl := allL_len W H B Y
    by_cases e : y < Y
    · have hlt : y * W + x < Y * W := by
        have := Nat.mul_le_mul_right W (show y + 1 ≤ Y from e)
        rw [Nat.add_mul, Nat.one_mul] at this
        omega
      rw [List.getElem?_append_left (by rw [List.length_map, hl]; exact hlt)]
      exact allL_get W H B Y y x e hx
    · obtain rfl : y = Y := by omega
      rw [List.getElem?_append_right (by rw [List.length_map, hl]; omega), List.length_map, hl, show y * W + x - y * W = x by omega, List.getElem?_map]
      unfold rowL
      rw [List.getElem?_map, List.getElem?_range hx]
      rfl
theorem bit_dec {b : Nat} (h : b ≤ 1) : (if decide (b = 1) = true then 1 else 0) = b := by
  rcases (show b = 0 ∨ b = 1 by omega) with rfl | rfl <;> rfl
theorem all_pix {W H n : Nat} {B : Nat → Nat} (ho : okB W H n B) : PixOk W H n ((allL W H B H).map (·.1)) B := by
  refine ⟨ho, fun x y hx hy => ?_⟩
  unfold bitAt
  rw [allL_get W H B H y x hy hx]
  have h := px_le W H B x y
  generalize px W H B x y = b at *
  rcases (show b = 0 ∨ b = 1 by omega) with rfl | rfl <;> rfl
theorem text_read {W H n : Nat} {B : Nat → Nat} (ho : okB W H n B) : ∃ ps, readS (fileF 0 W H B) = .inr (W, H, ps) ∧ PixOk W H n ps B := by
  refine ⟨_, ?_, all_pix ho⟩
  unfold fileF
  rw [read_text W H _ ho.1, rowsF_seq]
  obtain ⟨s', h1, h2⟩ := pixA (allL W H B H) [10] [] 0 trans10 (allL_trans W H B H)
  rw [List.append_nil, Nat.add_zero, allL_len, Nat.mul_comm, List.append_nil] at h2
  rw [h2]
  show mapS W H (if pas false s' = [] then .inr (_ ++ []) else .inl 33) = _
  rw [if_pos (by have := h1 []; rwa [List.append_nil] at this), List.append_nil]
  rfl
theorem text_more {W H n : Nat} {B : Nat → Nat} (ho : okB W H n B) : readS (fileF 0 W H B ++ [49]) = .inl 33 := by
  unfold fileF
  rw [List.append_assoc, read_text W H _ ho.1, rowsF_seq]
  obtain ⟨s', h1, h2⟩ := pixA (allL W H B H) [10] [49] 0 trans10 (allL_trans W H B H)
  rw [Nat.add_zero, allL_len, Nat.mul_comm, List.append_assoc] at h2
  rw [h2]
  show mapS W H (if pas false (s' ++ [49]) = [] then .inr (_ ++ []) else .inl 33) = _
  rw [h1, if_neg (by decide)]
  rfl
theorem text_less {W H n : Nat} {B : Nat → Nat} (ho : okB W H n B) : ∃ f, (fileF 0 W H B).take ((fileF 0 W H B).length - 2) = f ∧ readS f = .inl 32 := by
  have hW : 1 ≤ W := by have := ho.1.1; omega
  have hH : 1 ≤ H := by have := ho.1.2.1; omega
  obtain ⟨h, rfl⟩ : ∃ h, H = h + 1 := ⟨H - 1, by omega⟩
  obtain ⟨v, rfl⟩ : ∃ v, W = v + 1 := ⟨W - 1, by omega⟩
  obtain ⟨L', b, hL⟩ : ∃ L' b, allL (v + 1) (h + 1) B (h + 1) = L' ++ [(b, [10])] := by
    rw [allL]
    unfold rowL
    rw [List.range_succ, List.map_append, ← List.append_assoc]
    refine ⟨allL (v + 1) (h + 1) B h ++ List.map (fun x : Nat => (decide ((fun x : Nat => px (v + 1) (h + 1) B (x : Int) (h : Int)) x = 1), if x % 64 = 63 ∨ x + 1 = v + 1 then [10] else [])) (List.range v), decide (px (v + 1) (h + 1) B v h = 1), ?_⟩
    have e : (if v % 64 = 63 ∨ v + 1 = v + 1 then [10] else ([] : List UInt8)) = [10] := if_pos (Or.inr rfl)
    congr 1
    show [(_, if v % 64 = 63 ∨ v + 1 = v + 1 then [10] else [])] = _
    rw [e]
  have hlen := allL_len (v + 1) (h + 1) B (h + 1)
  have htr := allL_trans (v + 1) (h + 1) B (h + 1)
  rw [hL] at hlen htr
  rw [List.length_append] at hlen
  refine ⟨headF 0 (v + 1) (h + 1) ++ seqA L', ?_, ?_⟩
  · unfold fileF
    rw [rowsF_seq, hL, seqA_append, ← List.append_assoc]
    have e : seqA [(b, [10])] = [dp b, 10] := rfl
    rw [e, List.length_append, show ([dp b, 10] : List UInt8).length = 2 from rfl, Nat.add_sub_cancel, List.take_left]
  · rw [read_text _ _ _ ho.1]
    obtain ⟨s', h1, h2⟩ := pixA L' [10] [] 1 trans10 (fun x hx => htr x (by simp [hx]))
    rw [List.append_nil, List.append_nil] at h2
    rw [Nat.mul_comm, ← hlen]
    show mapS _ _ (endP (pixP (L'.length + 1) _)) = _
    rw [h2]
    have h3 := h1 []
    rw [List.append_nil] at h3
    rw [show joinP (L'.map (·.1)) (pixP 1 s') = .inl 32 from pixP_end (k := 0) h3 _]
    rfl
end Go.Proofs.YtgpjpmadbepblaaDoor
