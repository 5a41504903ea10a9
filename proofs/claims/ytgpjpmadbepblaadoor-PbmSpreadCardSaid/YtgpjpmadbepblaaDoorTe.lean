/- What is read of a text with white bytes and remarks between its pixels: plain lists. Conditions: the bounds that each theorem names. -/
import Derived.Test.YtgpjpmadbepblaaDoorTd
namespace Go.Proofs.YtgpjpmadbepblaaDoor
open Go.RowKit Go.Bm Go.Pbm Go.Sort

/-- what stands between -/
def betw : List (List UInt8) := [[], [32], [10], [9, 13], [35, 49, 32, 48, 10], [32, 35, 32, 120, 35, 10, 35, 10], [11, 12]]
theorem betw_trans : ∀ s ∈ betw, Trans s := by
  intro s hs
  unfold betw at hs
  simp only [List.mem_cons, List.not_mem_nil, or_false] at hs
  rcases hs with rfl | rfl | rfl | rfl | rfl | rfl | rfl <;> intro t <;> rfl
/-- a text's head -/
def hdS (W H : Nat) : List UInt8 := [80, 49, 32, 35, 80, 52, 32, 57, 32, 57, 10] ++ Lib.decDigits W ++ [10] ++ Lib.decDigits H ++ [32]
def tailS : List UInt8 := [32, 35, 32, 101, 110, 100]
theorem spread_read (W H : Nat) (hS : okS W H) (L : List (List UInt8 × Bool)) (hL : L.length = W * H) (hT : ∀ x ∈ L, Trans x.1) : readS (hdS W H ++ seqB L ++ tailS) = .inr (W, H, L.map (·.2)) := by
  have hs := okS_le hS
  have hpos : 0 < W * H := Nat.mul_pos (by have := hS.1; omega) (by have := hS.2.1; omega)
  have e : hdS W H ++ seqB L ++ tailS = 80 :: 49 :: ([32, 35, 80, 52, 32, 57, 32, 57, 10] ++ (Lib.decDigits W ++ (10 :: (Lib.decDigits H ++ (32 :: (seqB L ++ tailS)))))) := by
    unfold hdS
    simp
  rw [e]
  obtain ⟨h1, h2⟩ := numS_at (l := 80 :: 49 :: ([32, 35, 80, 52, 32, 57, 32, 57, 10] ++ (Lib.decDigits W ++ (10 :: (Lib.decDigits H ++ (32 :: (seqB L ++ tailS))))))) (pre := [32, 35, 80, 52, 32, 57, 32, 57, 10]) (t := 10 :: (Lib.decDigits H ++ (32 :: (seqB L ++ tailS)))) (i := 2) (n := W) rfl (fun t => rfl) (by simp) (by omega) (fun c u h => by cases h; exact notD10)
  obtain ⟨h3, h4⟩ := numS_at (pre := [10]) (t := 32 :: (seqB L ++ tailS)) (n := H) h2 trans10 (by simp) (by omega) (fun c u h => by cases h; exact notD32)
  rw [readS_head rfl (by decide) h1 h3 hS]
  obtain ⟨h5, _⟩ := drop_get h4
  unfold bodyS
  have hy : ((80 :: 49 :: ([32, 35, 80, 52, 32, 57, 32, 57, 10] ++ (Lib.decDigits W ++ (10 :: (Lib.decDigits H ++ (32 :: (seqB L ++ tailS)))))) : List UInt8).getD 1 0).toNat = 49 := rfl
  rw [if_pos hy, if_neg, h4]
  · cases L with
    | nil => simp at hL; omega
    | cons x L =>
      obtain ⟨s, b⟩ := x
      have h6 := pixB (([32] ++ s, b) :: L) tailS (fun x hx => by
        rcases List.mem_cons.1 hx with rfl | hx
        · exact trans32.append (hT (s, b) (by simp))
        · exact hT x (by simp [hx]))
      rw [← hL]
      have e2 : 32 :: (seqB ((s, b) :: L) ++ tailS) = seqB (([32] ++ s, b) :: L) ++ tailS := by
        rw [seqB, seqB]
        simp
      rw [e2, show ((s, b) :: L).length = (([32] ++ s, b) :: L).length from rfl, h6]
      show mapS W H (if pas false tailS = [] then .inr _ else .inl 33) = _
      rw [if_pos (by rfl)]
      rfl
  · rintro ⟨c, hc, h6, _⟩
    rw [h5] at hc
    cases hc
    exact h6 (by decide)
/-- all pixels in a row -/
def psA (W H : Nat) (B : Nat → Nat) : List Bool := (allL W H B H).map (·.1)
theorem psA_len (W H : Nat) (B : Nat → Nat) : (psA W H B).length = H * W := by unfold psA; rw [List.length_map, allL_len]
theorem psA_step {W H x y : Nat} {B : Nat → Nat} (hx : x < W) (hy : y < H) : (psA W H B).take (y * W + (x + 1)) = (psA W H B).take (y * W + x) ++ [decide (px W H B x y = 1)] := by
  have h := allL_get W H B H y x hy hx
  rw [← Nat.add_assoc, List.take_add_one]
  unfold psA
  rw [h]
  rfl
end Go.Proofs.YtgpjpmadbepblaaDoor
