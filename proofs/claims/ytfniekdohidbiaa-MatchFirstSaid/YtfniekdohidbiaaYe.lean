/- For MatchFirst: the classes' bitmaps may be; Unlike of any two bitmaps that may be. Conditions: the bounds that each theorem names. -/
import Derived.Test.YtfniekdohidbiaaYb
import Derived.Test.YtfniekdohidbiaaYd
namespace Go.Proofs.Ytfniekdohidbiaa
open Go.RowKit Go.Bm Fl Go.FlW
theorem sum_reps {F R : Nat → Bmp} {t n : Nat} (h : ∀ k, k < (clsOf F t n).2.length → (R k).like (F (clsOf F t n).2[k]!)) : ∀ i, i ≤ n → sumB R (clsOf F t i).2.length ≤ sumB F i := by
  intro i
  induction i with
  | zero => intro _; exact Nat.le_refl _
  | succ i ih =>
    intro hi
    have ih := ih (by omega)
    have e1 : clsOf F t (i + 1) = stepC F t (clsOf F t i) i := rfl
    have hle := reps_le F t (i + 1) n hi
    have hm : sumB F (i + 1) = sumB F i + (64 * (F i).n + 8) := rfl
    cases hh : hit F t (clsOf F t i).2 i with
    | some k =>
      have e2 : (clsOf F t (i + 1)).2 = (clsOf F t i).2 := by rw [e1]; unfold stepC; rw [hh]
      rw [e2]
      omega
    | none =>
      have e2 : (clsOf F t (i + 1)).2 = (clsOf F t i).2 ++ [i] := by rw [e1]; unfold stepC; rw [hh]
      have e3 : (clsOf F t (i + 1)).2.length = (clsOf F t i).2.length + 1 := by rw [e2]; simp
      have e4 : (clsOf F t n).2[(clsOf F t i).2.length]! = i := by
        rw [← reps_get F t (i + 1) n _ hi (by omega), e2]; exact get_snoc _ _
      have e5 := (h (clsOf F t i).2.length (by omega)).2.2.1
      rw [e4] at e5
      rw [e3]
      have : sumB R ((clsOf F t i).2.length + 1) = sumB R (clsOf F t i).2.length + (64 * (R (clsOf F t i).2.length).n + 8) := rfl
      omega
theorem may_reps {F R : Nat → Bmp} {t n : Nat} (hm : MayB F n) (h : ∀ k, k < (clsOf F t n).2.length → (R k).like (F (clsOf F t n).2[k]!)) : MayB R (clsOf F t n).2.length := by
  refine ⟨fun k hk => (h k hk).ok (hm.1 _ (reps_lt F t n k hk)), ?_, ?_⟩
  · have := (clsOf_reps F t n).1
    have := hm.2.1
    omega
  · have := sum_reps h n (Nat.le_refl _)
    have := hm.2.2
    omega
theorem Bmp.unlikeAny (f g : Bmp) (t : Nat) (w : World) (hf : IsWords w f.a f.n f.cap f.B) (hg : IsWords w g.a g.n g.cap g.B) (fo : f.ok) (go : g.ok) (hn : f.n ≤ 10000) :
    Calls Try.prog 26 #[.agg #[.int .i64 f.W, .int .i64 f.H, .slice f.a f.n f.cap], .agg #[.int .i64 g.W, .int .i64 g.H, .slice g.a g.n g.cap]] w fun e w' => ∃ r, e = .returned (.tuple #[.float .f64 r, .int .i64 0]) ∧ Hid ((leB r t && sizeB f g) = nearB f g t) ∧ Below w.heap.size w w' := by
  by_cases h : f.W = g.W ∧ f.H = g.H
  · refine (Bmp.unlike f g w hf hg fo go h.1 h.2 hn).mono ?_
    rintro e w' ⟨r, he, hr, hb⟩
    refine ⟨r, he, ?_, hb⟩
    show _ = _
    rw [hr t, Bool.and_comm]; rfl
  · refine (unlike_far f.W f.H f.a f.n f.cap f.B g.W g.H g.a g.n g.cap g.B w hf hg fo go h).mono ?_
    rintro e w' ⟨he, hb⟩
    refine ⟨_, he, ?_, hb⟩
    have : sizeB f g = false := decide_eq_false h
    show _ = _
    unfold nearB
    rw [this, Bool.and_false, Bool.false_and]
end Go.Proofs.Ytfniekdohidbiaa
