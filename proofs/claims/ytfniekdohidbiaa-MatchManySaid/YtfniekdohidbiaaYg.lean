/- The bitmaps of MatchMany, plain. Conditions: the bounds that each theorem names. -/
import Derived.Test.YtfniekdohidbiaaYd
namespace Go.Proofs.Ytfniekdohidbiaa
open Go.RowKit Go.Bm Fl Go.FlW
/-- the bitmap of number j -/
def many (j : Nat) : Bmp := ⟨12, 1, none, 1, 1, fun _ => j * 4503599627370496⟩
theorem many_lt {j : Nat} (hj : j < 4096) : j * 4503599627370496 < 18446744073709551616 := by
  have h := Nat.mul_lt_mul_of_pos_right hj (show 0 < 4503599627370496 by decide)
  rwa [show 4096 * 4503599627370496 = 18446744073709551616 from by decide] at h
theorem many_ok (j : Nat) : (many j).ok := by
  show okB 12 1 1 (fun _ => j * 4503599627370496)
  unfold okB okS clean
  refine ⟨by decide, by decide, fun y _ => Or.inr ?_⟩
  show j * 4503599627370496 * 4096 % 18446744073709551616 = 0
  rw [Nat.mul_assoc, show 4503599627370496 * 4096 = 18446744073709551616 from by decide]
  exact Nat.mul_mod_left _ _
theorem many_word {j : Nat} (hj : j < 4096) : (many j).word := fun _ _ => many_lt hj
theorem many_near {j i : Nat} (hj : j < 4096) (hi : i < 4096) : nearB (many j) (many i) 0 = true ↔ j = i := by
  rw [near_zero (many_ok j) (many_ok i) (many_word hj) (many_word hi) tol_facts.1.1 tol_facts.1.2.1]
  constructor
  · intro h
    exact Nat.eq_of_mul_eq_mul_right (by decide) (h.2.2.2 0 (show 0 < 1 from Nat.one_pos))
  · rintro rfl
    exact ⟨rfl, rfl, rfl, fun _ _ => rfl⟩
theorem many_far {j i : Nat} (hj : j < 4096) (hi : i < 4096) (h : j ≠ i) : nearB (many j) (many i) 0 = false := by
  cases hn : nearB (many j) (many i) 0 with
  | false => rfl
  | true => exact absurd ((many_near hj hi).1 hn) h
theorem range_get (N k : Nat) (h : k < N) : (List.range N)[k]! = k := by
  rw [getElem!_pos _ _ (by simpa using h), List.getElem_range]
theorem many_cls {F : Nat → Bmp} {N : Nat} (hN : N ≤ 4096) (hF : ∀ j, j < N → (F j).like (many j)) : clsOf F 0 N = (List.range N, List.range N) :=
  clsOf_all F 0 N fun j i hj hi => by rw [nearB_like2 (hF j (by omega)) (hF i hi)]; exact many_far (by omega) (by omega) (by omega)
theorem many_full {F : Nat → Bmp} {N : Nat} (hN : N ≤ 4096) (hF : ∀ j, j < N → (F j).like (many j)) (hW : (F N).W = 1) : hit F 0 (clsOf F 0 N).2 N = none ∧ (clsOf F 0 N).2.length = N := by
  rw [many_cls hN hF]
  refine ⟨hit_none_of fun j hj => ?_, List.length_range⟩
  have hj : j < N := by simpa using hj
  show nearB (F (List.range N)[j]!) (F N) 0 = false
  rw [range_get N j hj]
  have hs : sizeB (F j) (F N) = false := decide_eq_false fun h => by
    have h1 := h.1
    rw [(hF j hj).1, hW] at h1
    cases h1
  unfold nearB
  rw [hs, Bool.false_and]
theorem many_room {F : Nat → Bmp} {N i : Nat} (hN : N ≤ 4096) (hi : i < N) : (clsOf F 0 i).2.length < 4096 := by
  have := (clsOf_reps F 0 i).1
  omega
theorem many_join {F : Nat → Bmp} {N q : Nat} (hN : N ≤ 4096) (hF : ∀ j, j < N → (F j).like (many j)) (hq : q < N) (hl : (F N).like (many q)) :
    hit F 0 (clsOf F 0 N).2 N = some q ∧ (clsOf F 0 (N + 1)).1[N]! = q ∧ (clsOf F 0 (N + 1)).2.length = N := by
  have hh : hit F 0 (clsOf F 0 N).2 N = some q := by
    rw [many_cls hN hF]
    unfold hit
    refine find_of (by simpa using hq) ?_ fun j hj => ?_
    · show nearB (F (List.range N)[q]!) (F N) 0 = true
      rw [range_get N q hq, nearB_like2 (hF q hq) hl]
      exact (many_near (by omega) (by omega)).2 rfl
    · show nearB (F (List.range N)[j]!) (F N) 0 = false
      rw [range_get N j (by omega), nearB_like2 (hF j (by omega)) hl]
      exact many_far (by omega) (by omega) (by omega)
  refine ⟨hh, ?_, ?_⟩
  · rw [cls_at F 0 (N + 1) N (Nat.lt_succ_self N), hh]; rfl
  · have e1 : clsOf F 0 (N + 1) = stepC F 0 (clsOf F 0 N) N := rfl
    rw [e1]
    unfold stepC
    rw [hh, many_cls hN hF]
    exact List.length_range
end Go.Proofs.Ytfniekdohidbiaa
