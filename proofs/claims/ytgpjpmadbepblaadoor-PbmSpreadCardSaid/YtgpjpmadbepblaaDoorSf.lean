/- How Read of package pbm ends: at a fault, and with a bitmap. Conditions: the bounds that each theorem names. -/
import Derived.Test.YtgpjpmadbepblaaDoorSe
namespace Go.Proofs.YtgpjpmadbepblaaDoor
open Go.RowKit Go.Bm Go.Pbm Go.Sort

/-- a reader's answer -/
def RdOut (w : World) (X : Nat ⊕ (Nat × Nat × List Bool)) (e : Ending) (w' : World) : Prop :=
  Below w.heap.size w w' ∧ match X with
  | .inl code => e = .returned (.tuple #[.agg #[.int .i64 0, .int .i64 0, .slice none 0 0], .int .i64 code])
  | .inr (W, H, ps) => ∃ c cap C, e = .returned (.tuple #[.agg #[.int .i64 W, .int .i64 H, .slice c (H * wd W) cap], .int .i64 0]) ∧ IsWords w' c (H * wd W) cap C ∧ PixOk W H (H * wd W) ps C ∧ ∀ x, c = some x → w.heap.size ≤ x.block

/-- the results are read out of two cells -/
def ResOk (tmps : Array Value) (p : Nat) : Prop := ∀ (v0 v1 v2 y : Value) (W : World), W.cell? ⟨p, 0, none⟩ = some v0 → W.cell? ⟨p, 1, none⟩ = some v1 → W.cell? ⟨p, 2, none⟩ = some v2 → W.cell? ⟨p + 1, 0, none⟩ = some y →
  (results Tryd.f14 tmps).run Tryd.prog W = .ok (.tuple #[.agg #[v0, v1, v2], y]) W
theorem setIf3 (x0 x1 x2 a b c : Value) : (((#[x0, x1, x2].setIfInBounds 0 a).setIfInBounds 1 b).setIfInBounds 2 c) = #[a, b, c] := rfl
theorem ends_fault14 {p : Nat} {w0 w : World} {tmps : Array Value} {code : Nat} {y x0 x1 x2 : Value} (hR : ResOk tmps p) (hp : p = w0.heap.size) (hB : Below p w0 w) (b0 : w.heap[p]? = some (.cells #[x0, x1, x2] 25 (0, 0))) (b1 : w.heap[p + 1]? = some (.cells #[y] 28 (0, 0))) :
    bodyPostD Tryd.prog Tryd.f14 (RdOut w0 (.inl code)) (.panic [{ v := .iface 57 (.agg #[.int .i64 code]), recovered := false }])
      { tmps := tmps, defers := [{ target := .fn (.func 28) #[.pointer (some ⟨p, 0, none⟩), .pointer (some ⟨p + 1, 0, none⟩)], args := #[] }] } w := by
  refine leaves_cons (f := 28) (args := #[.pointer (some ⟨p, 0, none⟩), .pointer (some ⟨p + 1, 0, none⟩)]) (by simp) (by simp [go_sem]) ?_
  have l0 := (Array.getElem?_eq_some_iff.1 b0).1
  have l1 := (Array.getElem?_eq_some_iff.1 b1).1
  obtain ⟨w1, hw1⟩ : ∃ w1, w.alloc (.cells #[.int .i64 (code : Int)] 57) = w1 := ⟨_, rfl⟩
  have c0 : w1.heap[p]? = some (.cells #[x0, x1, x2] 25 (0, 0)) := by rw [← hw1]; exact (Below.heap_alloc w _ _ l0).trans b0
  have c1 : w1.heap[p + 1]? = some (.cells #[y] 28 (0, 0)) := by rw [← hw1]; exact (Below.heap_alloc w _ _ l1).trans b1
  have c2 : w1.heap[w.heap.size]? = some (.cells #[.int .i64 (code : Int)] 57 (0, 0)) := by rw [← hw1]; exact heap_alloc_new w _
  have hB1 : Below p w0 w1 := by rw [← hw1]; exact hB.alloc (by omega) _
  refine (catch28_fault p (p + 1) code x0 x1 x2 y [] w w1 hw1 (Joins.cell_of_block c2 0) (Joins.cell_of_block c0 0) (Joins.cell_of_block c0 1) (Joins.cell_of_block c0 2) (Joins.cell_of_block c1 0)
    (fun o => Joins.unfrozen_of_block c0 o) (Joins.unfrozen_of_block c1 0) (by omega) (by omega) (by omega)).mono ?_
  rintro e u' w' ⟨rfl, rfl, rfl⟩
  have hpq : (p + 1) ≠ p := by omega
  have d0 := Joins.block_setCell c0 (i := 0) (.int .i64 0)
  have d1 := Joins.block_setCell d0 (i := 1) (.int .i64 0)
  have d2 := Joins.block_setCell d1 (i := 2) (.slice none 0 0)
  rw [setIf3] at d2
  have far : ∀ (W : World) (o : Nat) (v : Value) (k : Nat) (b : Obj), k ≠ p → W.heap[k]? = some b → (W.setCell ⟨p, o, none⟩ v).heap[k]? = some b := fun W o v k b hk hb => (Below.heap_setCell W _ _ k (fun e => hk e)).trans hb
  have e1 := far _ 2 (.slice none 0 0) _ _ hpq (far _ 1 (.int .i64 0) _ _ hpq (far _ 0 (.int .i64 0) _ _ hpq c1))
  have e2 := Joins.block_setCell e1 (i := 0) (.int .i64 (code : Int))
  have d3 := (Below.heap_setCell (((w1.setCell ⟨p, 0, none⟩ (.int .i64 0)).setCell ⟨p, 1, none⟩ (.int .i64 0)).setCell ⟨p, 2, none⟩ (.slice none 0 0)) ⟨p + 1, 0, none⟩ (.int .i64 (code : Int)) p (fun e => hpq e.symm)).trans d2
  have hB2 : Below p w0 ((((w1.setCell ⟨p, 0, none⟩ (.int .i64 0)).setCell ⟨p, 1, none⟩ (.int .i64 0)).setCell ⟨p, 2, none⟩ (.slice none 0 0)).setCell ⟨p + 1, 0, none⟩ (.int .i64 (code : Int))) :=
    (((hB1.setCell (p := ⟨p, 0, none⟩) (Nat.le_refl _) _).setCell (p := ⟨p, 1, none⟩) (Nat.le_refl _) _).setCell (p := ⟨p, 2, none⟩) (Nat.le_refl _) _).setCell (p := ⟨p + 1, 0, none⟩) (Nat.le_succ _) _
  have f0 := Joins.cell_of_block d3 0
  have f1 := Joins.cell_of_block d3 1
  have f2 := Joins.cell_of_block d3 2
  have f3 := Joins.cell_of_block e2 0
  clear d0 d1 d2 d3 e1 e2 far c0 c1 c2 hB1 hw1
  generalize ((((w1.setCell ⟨p, 0, none⟩ (.int .i64 0)).setCell ⟨p, 1, none⟩ (.int .i64 0)).setCell ⟨p, 2, none⟩ (.slice none 0 0)).setCell ⟨p + 1, 0, none⟩ (.int .i64 (code : Int))) = W5 at *
  have hr := hR (.int .i64 0) (.int .i64 0) (.slice none 0 0) (.int .i64 (code : Int)) W5.drew f0 f1 f2 f3
  exact ⟨_, hr, by rw [← hp]; exact Below.drew hB2, rfl⟩
theorem ends_good14 {p : Nat} {w0 w : World} {tmps : Array Value} {W H : Nat} {ps : List Bool} {c : Option Addr} {cap : Nat} {C : Nat → Nat} (hR : ResOk tmps p) (hp : p = w0.heap.size) (hB : Below p w0 w)
    (b0 : w.heap[p]? = some (.cells #[.int .i64 W, .int .i64 H, .slice c (H * wd W) cap] 25 (0, 0))) (b1 : w.heap[p + 1]? = some (.cells #[.int .i64 0] 28 (0, 0))) (hk : IsWords w c (H * wd W) cap C) (hx : PixOk W H (H * wd W) ps C) (hcb : ∀ x, c = some x → p ≤ x.block) :
    bodyPostD Tryd.prog Tryd.f14 (RdOut w0 (.inr (W, H, ps))) .ret
      { tmps := tmps, defers := [{ target := .fn (.func 28) #[.pointer (some ⟨p, 0, none⟩), .pointer (some ⟨p + 1, 0, none⟩)], args := #[] }] } w := by
  refine leaves_cons (f := 28) (args := #[.pointer (some ⟨p, 0, none⟩), .pointer (some ⟨p + 1, 0, none⟩)]) (by simp) (by simp [go_sem]) ?_
  have l0 := (Array.getElem?_eq_some_iff.1 b0).1
  have l1 := (Array.getElem?_eq_some_iff.1 b1).1
  refine (catch28_idle _ _ w).mono ?_
  rintro e u' w' ⟨rfl, rfl, rfl⟩
  have hb := (Below.refl w.heap.size w).alloc (Nat.le_refl _) (.cells #[.int .i64 0] 57)
  have c0 := (hb.block p l0).trans b0
  have c1 := (hb.block (p + 1) l1).trans b1
  refine ⟨_, hR _ _ _ _ _ (Joins.cell_of_block c0 0) (Joins.cell_of_block c0 1) (Joins.cell_of_block c0 2) (Joins.cell_of_block c1 0), ?_, ⟨c, cap, C, rfl, hk.below hb, hx, fun x h => hp ▸ hcb x h⟩⟩
  rw [← hp]
  exact hB.alloc (by omega) _
end Go.Proofs.YtgpjpmadbepblaaDoor
