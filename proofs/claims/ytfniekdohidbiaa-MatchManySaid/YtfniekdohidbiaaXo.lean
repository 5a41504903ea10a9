/- What lies in memory while the reference's Classes runs. Conditions: the bounds that each theorem names. -/
import Derived.Test.YtfniekdohidbiaaXm
namespace Go.Proofs.Ytfniekdohidbiaa
open Go.RowKit Go.Bm Fl Go.FlW
theorem LieBms.cells {w : World} {base m : Nat} {v : Value} {R : Nat → Bmp} (h : LieBms w base v m R) (h0 : 0 < m) : ∃ G cap, v = .slice (some ⟨G, 0, none⟩) m cap ∧ base ≤ G ∧ G < w.heap.size ∧ m ≤ cap ∧ cap ≤ 9223372036854775807 ∧
    ∀ i, i < m → w.cell? ⟨G, i * 3, none⟩ = some (.int .i64 (R i).W) ∧ w.cell? ⟨G, i * 3 + 1, none⟩ = some (.int .i64 (R i).H) ∧ w.cell? ⟨G, i * 3 + 2, none⟩ = some (.slice (R i).a (R i).n (R i).cap) := by
  obtain ⟨p, cap, hv, hform⟩ := ownsRow_slice h.1
  rcases hform with h1 | ⟨g, cur, rfl, hb, hg, hn, hc, hh, hs, ht⟩
  · omega
  · refine ⟨g, cap, hv, hb, hg, hn, hc, fun i hi => ?_⟩
    have hc : ∀ j, j < 3 → w.cell? ⟨g, i * 3 + j, none⟩ = (R i).vals[j]? := by
      intro j hj
      have e2 : cur.toList[i * 3 + j]? = (cellsB R m)[i * 3 + j]? := by rw [← ht, List.getElem?_take, if_pos (by omega)]
      rw [Joins.cell_of_block hh, ← Array.getElem?_toList, e2, cellsB_get R m i j hi hj]
    exact ⟨hc 0 (by omega), hc 1 (by omega), hc 2 (by omega)⟩
theorem LieBms.mono {w : World} {base B m : Nat} {v : Value} {R : Nat → Bmp} (h : LieBms w base v m R) (hb : B ≤ base) : LieBms w B v m R := ⟨row_base h.1 hb, fun k hk => (h.2 k hk).base hb⟩
/-- the variables of the reference's Classes (b4: the result, b7: the matching) and what they lead to -/
structure RI (w0 : World) (base b4 b7 : Nat) (cls : List Nat) (m : Nat) (R : Nat → Bmp) (vc vr : Value) (wr : World) : Prop where
  k4 : wr.heap[b4]? = some (.cells #[.slice none 0 0, .slice none 0 0] 33 (0, 0))
  k7 : wr.heap[b7]? = some (.cells #[vc, vr] 33 (0, 0))
  cl : wr.ownsRow base 3 1 vc cls.length (numsL cls)
  rp : LieBms wr base vr m R
  bl : Below w0.heap.size w0 wr
  lt : b4 < base ∧ b7 < base ∧ base ≤ wr.heap.size
  ge : w0.heap.size ≤ b4 ∧ w0.heap.size ≤ b7
  ne : b4 ≠ b7
section
variable {w0 wr w' : World} {base b4 b7 m : Nat} {cls : List Nat} {R : Nat → Bmp} {vc vr : Value}
theorem RI.below (h : RI w0 base b4 b7 cls m R vc vr wr) (hb : Below wr.heap.size wr w') : RI w0 base b4 b7 cls m R vc vr w' := by
  have hg := grown_of_below hb none
  exact ⟨grown_block_lt hg h.k4 (by simp), grown_block_lt hg h.k7 (by simp), h.cl.kept hg (Classical.em _), h.rp.below hb, below_then h.bl hb (Nat.le_refl _), ⟨h.lt.1, h.lt.2.1, Nat.le_trans h.lt.2.2 hb.size⟩, h.ge, h.ne⟩
theorem RI.addc (h : RI w0 base b4 b7 cls m R vc vr wr) {vc' : Value} {c : Nat} (hg : wr.grownBy w' vc.ownBlock) (hown : w'.ownsRow base 3 1 vc' (cls.length + 1) (numsL (cls ++ [c]))) :
    RI w0 base b4 b7 (cls ++ [c]) m R vc' vr (w'.setCell ⟨b7, 0, none⟩ vc') := by
  obtain ⟨l4, l7, lb⟩ := h.lt
  have nb : ∀ b, b < base → some b ≠ vc.ownBlock := fun b hb e => by have := (h.cl.lt b e.symm).1; omega
  have k7' : w'.heap[b7]? = some (.cells #[vc, vr] 33 (0, 0)) := grown_block_lt hg h.k7 (nb _ l7)
  have hg2 := grown_setCell w' ⟨b7, 0, none⟩ vc'
  have hrow : ∀ g, vc.ownBlock = some g → g < base ∨ ∀ cur t fr, wr.heap[g]? = some (.cells cur t fr) → t ≠ 48 ∧ t ≠ 23 := fun g hgv => by
    right
    intro cur t fr hh
    obtain ⟨cur', hh'⟩ := ownsRow_type h.cl hgv
    rw [hh] at hh'
    simp at hh'
    obtain ⟨_, rfl, _⟩ := hh'
    decide
  refine ⟨?_, ?_, ?_, ?_, ?_, ⟨l4, l7, ?_⟩, h.ge, h.ne⟩
  · exact grown_block_lt hg2 (grown_block_lt hg h.k4 (nb _ l4)) (by simp; exact h.ne)
  · exact Joins.block_setCell k7' _
  · rw [List.length_append]
    exact hown.kept hg2 (ownsRow_block_ne hown l7)
  · exact (h.rp.kept hg hrow).kept hg2 (fun g e => by cases e; exact Or.inl l7)
  · exact ((h.bl.grown hg h.bl.size (fun g e => Nat.le_trans (Nat.le_trans h.ge.1 (Nat.le_of_lt l4)) (h.cl.lt g e).1)).setCell h.ge.2 _)
  · exact Nat.le_trans lb (Nat.le_trans hg.size hg2.size)
theorem RI.addr (h : RI w0 base b4 b7 cls m R vc vr wr) {vr' : Value} {f : Bmp} (hf : Lie wr base f) (hg : wr.grownBy w' vr.ownBlock) (hown : w'.ownsRow base 48 3 vr' (m + 1) (cellsB R m ++ f.vals.toList)) :
    RI w0 base b4 b7 cls (m + 1) (fun k => if k = m then f else R k) vc vr' (w'.setCell ⟨b7, 1, none⟩ vr') := by
  obtain ⟨l4, l7, lb⟩ := h.lt
  have nb : ∀ b, b < base → some b ≠ vr.ownBlock := fun b hb e => by have := (h.rp.1.lt b e.symm).1; omega
  have k7' : w'.heap[b7]? = some (.cells #[vc, vr] 33 (0, 0)) := grown_block_lt hg h.k7 (nb _ l7)
  have hg2 := grown_setCell w' ⟨b7, 1, none⟩ vr'
  refine ⟨?_, ?_, ?_, ?_, ?_, ⟨l4, l7, ?_⟩, h.ge, h.ne⟩
  · exact grown_block_lt hg2 (grown_block_lt hg h.k4 (nb _ l4)) (by simp; exact h.ne)
  · exact Joins.block_setCell k7' _
  · exact (h.cl.kept hg (ownsRow_apart h.cl h.rp.1 (by decide))).kept hg2 (ownsRow_block_ne h.cl l7)
  · exact (h.rp.snoc hf hg hown).kept hg2 (fun g e => by cases e; exact Or.inl l7)
  · exact ((h.bl.grown hg h.bl.size (fun g e => Nat.le_trans (Nat.le_trans h.ge.1 (Nat.le_of_lt l4)) (h.rp.1.lt g e).1)).setCell h.ge.2 _)
  · exact Nat.le_trans lb (Nat.le_trans hg.size hg2.size)
end
theorem nearB_like {f f' g g' : Bmp} {t : Nat} (h : f.like f') (k : g.like g') : nearB f g t = nearB f' g' t := by
  unfold nearB sizeB
  rw [leqB_like h k, h.1, h.2.1, k.1, k.2.1]
theorem fits25 (t : Nat) (w : World) : Calls Try.prog 25 #[.float .f64 t] w fun e w' => e = .returned (.bool (tolOk t)) ∧ w = w' := by
  have h1 : (FloatKind.f64.format.order t 0 == some .gt || FloatKind.f64.format.order t 0 == some .eq) = tolOk t := by
    rw [ord_ge, nan_zero, key_zero]
    unfold tolOk
    simp
  go_enter Try.func25, Try.ntmps25
  go_wp2
  go_ret
  exact ⟨rfl, rfl⟩
end Go.Proofs.Ytfniekdohidbiaa
