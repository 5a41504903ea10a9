/- Both Reads at any bytes: what they tell, in one form. Conditions: the bounds that each theorem names. -/
import Derived.Test.YtgpjpmadbepblaaDoorSx
namespace Go.Proofs.YtgpjpmadbepblaaDoor
open Go.RowKit Go.Bm Go.Pbm Go.Sort

def outW : Nat ⊕ (Nat × Nat × List Bool) → Nat
  | .inl _ => 0
  | .inr (W, _, _) => W
def outH : Nat ⊕ (Nat × Nat × List Bool) → Nat
  | .inl _ => 0
  | .inr (_, H, _) => H
def outN : Nat ⊕ (Nat × Nat × List Bool) → Nat
  | .inl _ => 0
  | .inr (W, H, _) => H * wd W
def outE : Nat ⊕ (Nat × Nat × List Bool) → Nat
  | .inl e => e
  | .inr _ => 0
def WordsOf (C : Nat → Nat) : Nat ⊕ (Nat × Nat × List Bool) → Prop
  | .inl _ => True
  | .inr (W, H, ps) => PixOk W H (H * wd W) ps C
/-- what a Read tells -/
def RdRes (X : Nat ⊕ (Nat × Nat × List Bool)) (w : World) (e : Ending) (w' : World) : Prop := ∃ c cap C, e = .returned (.tuple #[.agg #[.int .i64 (outW X : Int), .int .i64 (outH X : Int), .slice c (outN X) cap], .int .i64 (outE X : Int)]) ∧
  IsWords w' c (outN X) cap C ∧ WordsOf C X ∧ (∀ x, c = some x → w.heap.size ≤ x.block) ∧ Below w.heap.size w w'
theorem words_eq {X : Nat ⊕ (Nat × Nat × List Bool)} {w w2 : World} {c c2 : Option Addr} {cap cap2 : Nat} {C C2 : Nat → Nat} (h1 : IsWords w c (outN X) cap C) (h2 : IsWords w2 c2 (outN X) cap2 C2) (k1 : WordsOf C X) (k2 : WordsOf C2 X) : eqL (outN X) (outN X) C C2 := by
  refine ⟨rfl, ?_⟩
  cases X with
  | inl e => intro i hi; exact absurd hi (Nat.not_lt_zero i)
  | inr p =>
    obtain ⟨W, H, ps⟩ := p
    exact pix_ext k1 k2 (IsWords.lt h1) (IsWords.lt h2)
theorem outN_le {X : Nat ⊕ (Nat × Nat × List Bool)} {w : World} {c : Option Addr} {cap : Nat} {C : Nat → Nat} (h : IsWords w c (outN X) cap C) : outN X ≤ 9223372036854775807 := by
  rcases h with h | ⟨b, off, _, h2, h3, _⟩
  · omega
  · omega
theorem read14_res (a : Option Addr) (n cap : Nat) (l : List UInt8) (w : World) (hn : l.length = n) (hl : l.length ≤ 100000000000000) (hk : IsBytes w a cap l) : Calls Tryd.prog 14 #[.slice a n cap] w (RdRes (readS l) w) := by
  subst hn
  refine (read14 a cap l w hl hk).mono ?_
  intro e w' h
  generalize readS l = X at *
  cases X with
  | inl code => exact ⟨none, 0, fun _ => 0, h.2, Or.inl rfl, trivial, fun _ hx => (by cases hx), h.1⟩
  | inr p =>
    obtain ⟨W, H, ps⟩ := p
    obtain ⟨hb, c, cap', C, h1, h2, h3, h4⟩ := h
    exact ⟨c, cap', C, h1, h2, h3, h4, hb⟩
theorem rread15_res (a : Option Addr) (n cap : Nat) (l : List UInt8) (w : World) (hn : l.length = n) (hl : l.length ≤ 100000000000000) (hk : IsBytes w a cap l) : Calls Tryd.prog 15 #[.slice a n cap] w (RdRes (readS l) w) := by
  subst hn
  refine (rread15 a cap l w hl hk).mono ?_
  intro e w' h
  generalize readS l = X at *
  cases X with
  | inl code => exact ⟨none, 0, fun _ => 0, h.2, Or.inl rfl, trivial, fun _ hx => (by cases hx), h.1⟩
  | inr p =>
    obtain ⟨W, H, ps⟩ := p
    obtain ⟨hb, g, C, h1, h2, h3, h4⟩ := h
    have hs := okS_le h4.1.1
    have h6 : H * wd W ≤ 1048576 * 16384 := Nat.mul_le_mul (by omega) (wd_le (by omega))
    refine ⟨some ⟨g, 0, none⟩, H * wd W, C, h1, h2.words (Nat.le_refl _) (by omega), h4, ?_, hb⟩
    intro x hx
    cases hx
    exact h3
theorem words_back {w1 w2 : World} {a : Option Addr} {n cap g : Nat} {B : Nat → Nat} (h : IsWords w1 a n cap B ∧ ∀ x, a = some x → g < x.block) (hg : w1.grownBy w2 (some g)) : IsWords w2 a n cap B := by
  rcases h.1 with h1 | ⟨b, off, h1, h2, h3, h4, h5⟩
  · exact Or.inl h1
  · have h6 : g < b := h.2 _ h1
    exact Or.inr ⟨b, off, h1, h2, h3, Nat.lt_of_lt_of_le h4 hg.size, fun i hi => ⟨hg.cell (h5 i hi).1 (fun e => Nat.ne_of_gt h6 (Option.some.inj e)), (h5 i hi).2⟩⟩
theorem bytes_back0 {w1 w2 : World} {a : Option Addr} {cap g : Nat} {l : List UInt8} (h : IsBytes w1 a cap l ∧ ∀ x, a = some x → g < x.block) (hg : w1.grownBy w2 (some g)) : IsBytes w2 a cap l :=
  h.1.grown hg fun b off hb => by have h1 : g < b := h.2 _ hb; exact Nat.ne_of_gt h1
end Go.Proofs.YtgpjpmadbepblaaDoor
