/- Both Writes at any bitmap and any kind: what they tell. Conditions: the bounds that each theorem names. -/
import Derived.Test.YtgpjpmadbepblaaDoorSw
namespace Go.Proofs.YtgpjpmadbepblaaDoor
open Go.RowKit Go.Bm Go.Pbm Go.Sort

noncomputable def wOut (W H : Int) (n : Nat) (B : Nat → Nat) (k : Int) : List UInt8 × Nat := by
  classical
  exact if k = 0 then (if okB W H n B then (fileF 0 W.toNat H.toNat B, 0) else ([], 30)) else if k = 1 then (if okB W H n B then (fileF 1 W.toNat H.toNat B, 0) else ([], 30)) else ([], 34)
theorem IsWords.congr {w : World} {a : Option Addr} {n cap : Nat} {A B : Nat → Nat} (h : IsWords w a n cap A) (he : ∀ i, i < n → A i = B i) : IsWords w a n cap B := by
  rcases h with h | ⟨b, off, h1, h2, h3, h4, h5⟩
  · exact Or.inl h
  · exact Or.inr ⟨b, off, h1, h2, h3, h4, fun i hi => by rw [← he i hi]; exact h5 i hi⟩
theorem okB_nat {W H : Int} {n : Nat} {B : Nat → Nat} (h : okB W H n B) : W = (W.toNat : Int) ∧ H = (H.toNat : Int) := by
  have h1 := h.1.1
  have h2 := h.1.2.1
  omega
/-- what a Write tells -/
def WrOut (X : List UInt8 × Nat) (w : World) (e : Ending) (w' : World) : Prop := ∃ a cap, e = .returned (.tuple #[.slice a X.1.length cap, .int .i64 (X.2 : Int)]) ∧ IsBytes w' a cap X.1 ∧ (∀ x, a = some x → w.heap.size ≤ x.block) ∧ Below w.heap.size w w'
theorem wrOut_none {w w' : World} {e : Ending} {code : Nat} (h : e = .returned (.tuple #[.slice none 0 0, .int .i64 (code : Int)]) ∧ Below w.heap.size w w') : WrOut ([], code) w e w' := ⟨none, 0, h.1, Or.inl rfl, fun _ h => (by cases h), h.2⟩
theorem Owns.bytes2 {w : World} {base : Nat} {e : TypeId} {v : Value} {n : Nat} {l : List UInt8} (h : Owns w base e v n (bv l)) : ∃ a cap, v = .slice a l.length cap ∧ IsBytes w a cap l ∧ (∀ x, a = some x → base ≤ x.block) := by
  have hl := h.len
  subst hl
  obtain ⟨a, cap, rfl, hk⟩ := h.bytes
  refine ⟨a, cap, rfl, hk, fun x hx => ?_⟩
  subst hx
  obtain ⟨_, hf⟩ := h
  rcases hf with ⟨h1, h2⟩ | ⟨g, c, cur, fz, h1, h2, _⟩
  · cases h1
  · injection h1 with i1 i2 i3
    injection i1 with i1
    subst i1
    exact h2
theorem wrOut_file {w w' : World} {e : Ending} {l : List UInt8} (h : ∃ v B0, e = .returned (.tuple #[v, .int .i64 0]) ∧ Owns w' B0 5 v l.length (bv l) ∧ w.heap.size ≤ B0 ∧ Below w.heap.size w w') : WrOut (l, 0) w e w' := by
  obtain ⟨v, B0, rfl, ho, hB, hb⟩ := h
  obtain ⟨a, cap, rfl, hk, hno⟩ := Owns.bytes2 ho
  exact ⟨a, cap, rfl, hk, fun x hx => Nat.le_trans hB (hno x hx), hb⟩
theorem write8_any (W H : Int) (a : Option Addr) (n cap : Nat) (B : Nat → Nat) (k : Int) (w : World) (hB : IsWords w a n cap B) (hT : PowW w) :
    Calls Tryd.prog 8 #[.agg #[.int .i64 W, .int .i64 H, .slice a n cap], .int .i64 k] w (WrOut (wOut W H n B k) w) := by
  unfold wOut
  by_cases h0 : k = 0
  · subst h0
    rw [if_pos rfl]
    by_cases ho : okB W H n B
    · rw [if_pos ho]
      obtain ⟨e1, e2⟩ := okB_nat ho
      rw [e1, e2] at ho ⊢
      exact (write8_ok0 W.toNat H.toNat a n cap B w hB hT ho).mono fun e w' h => wrOut_file h
    · rw [if_neg ho]
      exact (write8_no W H a n cap B 0 (by decide) w hB hT ho).mono fun e w' h => wrOut_none h
  · rw [if_neg h0]
    by_cases h1 : k = 1
    · subst h1
      rw [if_pos rfl]
      by_cases ho : okB W H n B
      · rw [if_pos ho]
        obtain ⟨e1, e2⟩ := okB_nat ho
        rw [e1, e2] at ho ⊢
        exact (write8_ok1 W.toNat H.toNat a n cap B w hB hT ho).mono fun e w' h => wrOut_file h
      · rw [if_neg ho]
        exact (write8_no W H a n cap B 1 (by decide) w hB hT ho).mono fun e w' h => wrOut_none h
    · rw [if_neg h1]
      exact (write8_kind W H a n cap k w h0 h1).mono fun e w' h => wrOut_none h
theorem rwrite9_any (W H : Int) (a : Option Addr) (n cap : Nat) (B : Nat → Nat) (k : Int) (w : World) (hB : IsWords w a n cap B) :
    Calls Tryd.prog 9 #[.agg #[.int .i64 W, .int .i64 H, .slice a n cap], .int .i64 k] w (WrOut (wOut W H n B k) w) := by
  unfold wOut
  by_cases h0 : k = 0
  · subst h0
    rw [if_pos rfl]
    by_cases ho : okB W H n B
    · rw [if_pos ho]
      obtain ⟨e1, e2⟩ := okB_nat ho
      rw [e1, e2] at ho ⊢
      exact (rwrite9_ok0 W.toNat H.toNat a n cap B w hB ho).mono fun e w' h => wrOut_file h
    · rw [if_neg ho]
      exact (rwrite9_no W H a n cap B 0 (by decide) w hB ho).mono fun e w' h => wrOut_none h
  · rw [if_neg h0]
    by_cases h1 : k = 1
    · subst h1
      rw [if_pos rfl]
      by_cases ho : okB W H n B
      · rw [if_pos ho]
        obtain ⟨e1, e2⟩ := okB_nat ho
        rw [e1, e2] at ho ⊢
        exact (rwrite9_ok1 W.toNat H.toNat a n cap B w hB ho).mono fun e w' h => wrOut_file h
      · rw [if_neg ho]
        exact (rwrite9_no W H a n cap B 1 (by decide) w hB ho).mono fun e w' h => wrOut_none h
    · rw [if_neg h1]
      exact (rwrite9_kind W H a n cap k w h0 h1).mono fun e w' h => wrOut_none h
end Go.Proofs.YtgpjpmadbepblaaDoor
