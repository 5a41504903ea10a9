/- What lies in memory while Classes runs. Conditions: the bounds that each theorem names. -/
import Derived.Test.YtfniekdohidbiaaXk
namespace Go.Proofs.Ytfniekdohidbiaa
open Go.RowKit Go.Bm
open Go.ChangeMaps (setBlock)
/-- the variables of Classes (b4: the result, b6: the tolerance, b10: the matching, bm: the map) and what they lead to -/
structure CI (w0 : World) (base b4 b6 b10 bm tv : Nat) (cls : List Nat) (m : Nat) (R : Nat → Bmp) (G : Int → Int → List Nat) (vc vr : Value) (wr : World) : Prop where
  k4 : wr.heap[b4]? = some (.cells #[.slice none 0 0, .slice none 0 0] 33 (0, 0))
  k6 : wr.heap[b6]? = some (.cells #[.float .f64 tv] 28 (0, 0))
  k10 : wr.heap[b10]? = some (.cells #[vc, vr] 33 (0, 0))
  cl : wr.ownsRow base 3 1 vc cls.length (numsL cls)
  rp : OwnBms wr base vr m R
  mp : GMap wr base bm vc G
  bl : Below w0.heap.size w0 wr
  lt : b4 < base ∧ b6 < base ∧ b10 < base ∧ base ≤ wr.heap.size
  ge : w0.heap.size ≤ b4 ∧ w0.heap.size ≤ b6 ∧ w0.heap.size ≤ b10 ∧ w0.heap.size ≤ bm
  ne : b4 ≠ b10 ∧ b6 ≠ b10
theorem grown_block_lt {w w' : World} {row : Option Nat} (h : w.grownBy w' row) {g : Nat} {o : Obj} (hg : w.heap[g]? = some o) (hne : some g ≠ row) : w'.heap[g]? = some o := (h.block g (Array.getElem?_eq_some_iff.1 hg).1 hne).trans hg
section
variable {w0 wr w' : World} {base b4 b6 b10 bm tv m : Nat} {cls : List Nat} {R : Nat → Bmp} {G : Int → Int → List Nat} {vc vr : Value}
theorem CI.below (h : CI w0 base b4 b6 b10 bm tv cls m R G vc vr wr) (hb : Below wr.heap.size wr w') : CI w0 base b4 b6 b10 bm tv cls m R G vc vr w' := by
  have hg := grown_of_below hb none
  exact ⟨grown_block_lt hg h.k4 (by simp), grown_block_lt hg h.k6 (by simp), grown_block_lt hg h.k10 (by simp), h.cl.kept hg (Classical.em _), h.rp.below hb, h.mp.kept hg (by simp) (fun g e => by cases e) (Or.inl rfl),
    below_then h.bl hb (Nat.le_refl _), ⟨h.lt.1, h.lt.2.1, h.lt.2.2.1, Nat.le_trans h.lt.2.2.2 hb.size⟩, h.ge, h.ne⟩
/-- behind an append to the classes, and the store of what it gave -/
theorem CI.addc (h : CI w0 base b4 b6 b10 bm tv cls m R G vc vr wr) {vc' : Value} {c : Nat} (hg : wr.grownBy w' vc.ownBlock) (hown : w'.ownsRow base 3 1 vc' (cls.length + 1) (numsL (cls ++ [c]))) (hloc : vc'.ownBlock = vc.ownBlock ∨ ∃ g, vc'.ownBlock = some g ∧ wr.heap.size ≤ g) :
    CI w0 base b4 b6 b10 bm tv (cls ++ [c]) m R G vc' vr (w'.setCell ⟨b10, 0, none⟩ vc') := by
  obtain ⟨l4, l6, l10, lb⟩ := h.lt
  have nb : ∀ b, b < base → some b ≠ vc.ownBlock := fun b hb e => by have := (h.cl.lt b e.symm).1; omega
  have k10' : w'.heap[b10]? = some (.cells #[vc, vr] 33 (0, 0)) := grown_block_lt hg h.k10 (nb _ l10)
  have hg2 := grown_setCell w' ⟨b10, 0, none⟩ vc'
  have hrow : ∀ g, vc.ownBlock = some g → g < base ∨ ∀ cur t fr, wr.heap[g]? = some (.cells cur t fr) → t ≠ 48 ∧ t ≠ 23 := fun g hgv => by
    right
    intro cur t fr hh
    obtain ⟨cur', hh'⟩ := ownsRow_type h.cl hgv
    rw [hh] at hh'
    simp at hh'
    obtain ⟨_, rfl, _⟩ := hh'
    decide
  have hm1 : GMap w' base bm vc' G := h.mp.kept hg (fun e => by have := (h.cl.lt bm e).1; have := h.mp.1; omega) (fun g hgv => Or.inr (Or.inl hgv)) hloc
  refine ⟨?_, ?_, ?_, ?_, ?_, ?_, ?_, ⟨l4, l6, l10, ?_⟩, h.ge, h.ne⟩
  · exact grown_block_lt hg2 (grown_block_lt hg h.k4 (nb _ l4)) (by simp; exact h.ne.1)
  · exact grown_block_lt hg2 (grown_block_lt hg h.k6 (nb _ l6)) (by simp; exact h.ne.2)
  · exact Joins.block_setCell k10' _
  · rw [List.length_append]
    exact hown.kept hg2 (ownsRow_block_ne hown l10)
  · exact (h.rp.kept hg hrow).kept hg2 (fun g e => by cases e; exact Or.inl l10)
  · refine hm1.kept hg2 (fun e => ?_) (fun g e => by cases e; exact Or.inl l10) (Or.inl rfl)
    cases e
    obtain ⟨_, es, clock, hh, _⟩ := hm1
    rw [k10'] at hh
    cases hh
  · exact ((h.bl.grown hg h.bl.size (fun g e => Nat.le_trans (Nat.le_trans h.ge.1 (Nat.le_of_lt l4)) (h.cl.lt g e).1)).setCell h.ge.2.2.1 _)
  · exact Nat.le_trans lb (Nat.le_trans hg.size hg2.size)
/-- behind an append to the bitmaps, and the store of what it gave -/
theorem CI.addr (h : CI w0 base b4 b6 b10 bm tv cls m R G vc vr wr) {vr' : Value} {f : Bmp} (hf : OwnBits wr base f) (hap : ∀ k, k < m → (R k).bits.ownBlock ≠ f.bits.ownBlock) (hg : wr.grownBy w' vr.ownBlock) (hown : w'.ownsRow base 48 3 vr' (m + 1) (cellsB R m ++ f.vals.toList)) :
    CI w0 base b4 b6 b10 bm tv cls (m + 1) (fun k => if k = m then f else R k) G vc vr' (w'.setCell ⟨b10, 1, none⟩ vr') := by
  obtain ⟨l4, l6, l10, lb⟩ := h.lt
  have nb : ∀ b, b < base → some b ≠ vr.ownBlock := fun b hb e => by have := (h.rp.1.lt b e.symm).1; omega
  have k10' : w'.heap[b10]? = some (.cells #[vc, vr] 33 (0, 0)) := grown_block_lt hg h.k10 (nb _ l10)
  have hg2 := grown_setCell w' ⟨b10, 1, none⟩ vr'
  have hm1 : GMap w' base bm vc G := h.mp.kept hg (fun e => by have := (h.rp.1.lt bm e).1; have := h.mp.1; omega) (fun g hgv => by
    right; right
    intro cur fr hh
    obtain ⟨cur', hh'⟩ := ownsRow_type h.rp.1 hgv
    rw [hh] at hh'
    simp at hh') (Or.inl rfl)
  refine ⟨?_, ?_, ?_, ?_, ?_, ?_, ?_, ⟨l4, l6, l10, ?_⟩, h.ge, h.ne⟩
  · exact grown_block_lt hg2 (grown_block_lt hg h.k4 (nb _ l4)) (by simp; exact h.ne.1)
  · exact grown_block_lt hg2 (grown_block_lt hg h.k6 (nb _ l6)) (by simp; exact h.ne.2)
  · exact Joins.block_setCell k10' _
  · exact (h.cl.kept hg (ownsRow_apart h.cl h.rp.1 (by decide))).kept hg2 (ownsRow_block_ne h.cl l10)
  · exact (h.rp.snoc hf hap hg hown).kept hg2 (fun g e => by cases e; exact Or.inl l10)
  · refine hm1.kept hg2 (fun e => ?_) (fun g e => by cases e; exact Or.inl l10) (Or.inl rfl)
    cases e
    obtain ⟨_, es, clock, hh, _⟩ := hm1
    rw [k10'] at hh
    cases hh
  · exact ((h.bl.grown hg h.bl.size (fun g e => Nat.le_trans (Nat.le_trans h.ge.1 (Nat.le_of_lt l4)) (h.rp.1.lt g e).1)).setCell h.ge.2.2.1 _)
  · exact Nat.le_trans lb (Nat.le_trans hg.size hg2.size)
/-- behind a store into the map: whatever was turned on the way is one row of the map's, and the map -/
theorem CI.addm (h : CI w0 base b4 b6 b10 bm tv cls m R G vc vr wr) {w1 w2 w3 : World} {v0 : Value} {G' : Int → Int → List Nat} {n0 : Nat} {xs0 : List Value} (hg1 : wr.grownBy w1 (some bm)) (h0 : w1.ownsRow base 3 1 v0 n0 xs0) (hg2 : w1.grownBy w2 v0.ownBlock) (hg3 : w2.grownBy w3 (some bm)) (hne : v0.ownBlock = none ∨ vc.ownBlock ≠ v0.ownBlock)
    (hG : GMap w3 base bm vc G') : CI w0 base b4 b6 b10 bm tv cls m R G' vc vr w3 := by
  obtain ⟨l4, l6, l10, lb⟩ := h.lt
  have nb : ∀ b, b < base → some b ≠ v0.ownBlock := fun b hb e => by have := (h0.lt b e.symm).1; omega
  obtain ⟨hbm, es, clock, hmh, _⟩ := h.mp
  have nm : ∀ {b : Nat} {A : Array Value} {t : TypeId} {fr : Nat × Nat}, wr.heap[b]? = some (.cells A t fr) → some b ≠ some bm := fun hh e => by
    cases e
    rw [hmh] at hh
    cases hh
  have keep : ∀ {b : Nat} {A : Array Value} {t : TypeId} {fr : Nat × Nat}, b < base → wr.heap[b]? = some (.cells A t fr) → w3.heap[b]? = some (.cells A t fr) := fun hb hh => by
    exact grown_block_lt hg3 (grown_block_lt hg2 (grown_block_lt hg1 hh (nm hh)) (nb _ hb)) (nm hh)
  have hb1 := (grown_block_lt (row := none) (grown_refl wr none) hmh (by simp))
  refine ⟨keep l4 h.k4, keep l6 h.k6, keep l10 h.k10, ?_, ?_, hG, ?_, ⟨l4, l6, l10, ?_⟩, h.ge, h.ne⟩
  · refine ((h.cl.kept hg1 (ownsRow_block_ne h.cl hbm)).kept hg2 ?_).kept hg3 (ownsRow_block_ne h.cl hbm)
    rcases hne with h1 | h1
    · rw [h1]
      cases vc.ownBlock <;> simp
    · exact Or.inr h1
  · have hr : ∀ {u v : World}, u.grownBy v (some bm) → OwnBms u base vr m R → OwnBms v base vr m R := fun hg ho => ho.kept hg (fun g e => by cases e; exact Or.inl hbm)
    refine hr hg3 ((hr hg1 h.rp).kept hg2 fun g hgv => ?_)
    right
    intro cur t fr hh
    obtain ⟨cur', hh'⟩ := ownsRow_type h0 hgv
    rw [hh] at hh'
    simp at hh'
    obtain ⟨_, rfl, _⟩ := hh'
    decide
  · have hl : w0.heap.size ≤ base := Nat.le_trans h.ge.1 (Nat.le_of_lt l4)
    have a1 := h.bl.grown hg1 h.bl.size (fun g e => by cases e; exact h.ge.2.2.2)
    have a2 := a1.grown hg2 a1.size (fun g e => Nat.le_trans hl (h0.lt g e).1)
    exact a2.grown hg3 a2.size (fun g e => by cases e; exact h.ge.2.2.2)
  · exact Nat.le_trans lb (Nat.le_trans hg1.size (Nat.le_trans hg2.size hg3.size))
end
end Go.Proofs.Ytfniekdohidbiaa
