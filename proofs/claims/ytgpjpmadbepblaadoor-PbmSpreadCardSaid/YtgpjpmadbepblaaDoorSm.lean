/- The reference's text of chapter 3: pixels as digits. Conditions: the bounds that each theorem names. -/
import Derived.Test.YtgpjpmadbepblaaDoorSl
namespace Go.Proofs.YtgpjpmadbepblaaDoor
open Go.RowKit Go.Bm Go.Pbm Go.Sort

def liftS (W H : Nat) : Nat ⊕ List Bool → Nat ⊕ (Nat × Nat × List Bool)
  | .inl e => .inl e
  | .inr ps => .inr (W, H, ps)
theorem PixOk.put {W H n : Nat} {ps : List Bool} {C : Nat → Nat} (h : PixOk W H n ps C) {x y v : Nat} {b : Bool} (hx : x < W) (hl : ps.length = y * W + x) (hv : v = if b = true then 1 else 0) : PixOk W H n (ps ++ [b]) (setB C W x y v) := by
  have hv1 : v ≤ 1 := by rw [hv]; split <;> omega
  refine ⟨okB_setB h.1 hx, fun x' y' hxw hyh => ?_⟩
  rw [px_setB W H C x y v hx hv1 x' y' (by omega), h.2 x' y' hxw hyh]
  by_cases e : (x' : Int) = (x : Int) ∧ (y' : Int) = (y : Int)
  · have e1 : x' = x := by omega
    have e2 : y' = y := by omega
    rw [if_pos e, e1, e2, ← hl]
    unfold bitAt
    rw [List.getElem?_append_right (Nat.le_refl _), Nat.sub_self, hv]
    cases b <;> rfl
  · rw [if_neg e]
    have hne : y' * W + x' ≠ ps.length := by
      rw [hl]
      intro he
      apply e
      have h1 : y' = y := by
        have a1 : (y' * W + x') / W = y' := by rw [Nat.mul_comm, Nat.mul_add_div (by omega), Nat.div_eq_of_lt hxw, Nat.add_zero]
        have a2 : (y * W + x) / W = y := by rw [Nat.mul_comm, Nat.mul_add_div (by omega), Nat.div_eq_of_lt hx, Nat.add_zero]
        rw [← a1, ← a2, he]
      subst h1
      omega
    cases b
    · rw [bitAt_snoc_false]
    · rw [bitAt_snoc_true, if_neg hne]

/-- the reference's answer -/
def RdOutR (w : World) (X : Nat ⊕ (Nat × Nat × List Bool)) (e : Ending) (w' : World) : Prop :=
  Below w.heap.size w w' ∧ match X with
  | .inl code => e = .returned (.tuple #[.agg #[.int .i64 0, .int .i64 0, .slice none 0 0], .int .i64 code])
  | .inr (W, H, ps) => ∃ g C, e = .returned (.tuple #[.agg #[.int .i64 W, .int .i64 H, .slice (some ⟨g, 0, none⟩) (H * wd W) (H * wd W)], .int .i64 0]) ∧ IsOwn w' g (H * wd W) C ∧ w.heap.size ≤ g ∧ PixOk W H (H * wd W) ps C
/-- the reference's bitmap under way: the result's cells, its own cells, its words -/
structure RW (w0 w : World) (p q g W H : Nat) (C : Nat → Nat) : Prop where
  hp : p = w0.heap.size
  bel : Below p w0 w
  b0 : w.heap[p]? = some (.cells #[.int .i64 0, .int .i64 0, .slice none 0 0] 25 (0, 0))
  bq : w.heap[q]? = some (.cells #[.int .i64 W, .int .i64 H, .slice (some ⟨g, 0, none⟩) (H * wd W) (H * wd W)] 25 (0, 0))
  own : IsOwn w g (H * wd W) C
  lt : p < q ∧ p < g ∧ q ≠ g
theorem RW.step {w0 w w' : World} {p q g W H : Nat} {C D : Nat → Nat} (h : RW w0 w p q g W H C) (hg : w.grownBy w' (some g)) (ho : IsOwn w' g (H * wd W) D) : RW w0 w' p q g W H D := by
  have l0 := (Array.getElem?_eq_some_iff.1 h.b0).1
  have lq := (Array.getElem?_eq_some_iff.1 h.bq).1
  have hlt := h.lt
  exact ⟨h.hp, Below.grown h.bel hg (by rw [h.hp]; exact h.bel.size) (fun z hz => by cases hz; omega), (hg.block p l0 (fun e => by have := Option.some.inj e; omega)).trans h.b0, (hg.block q lq (fun e => by have := Option.some.inj e; omega)).trans h.bq, ho, h.lt⟩
theorem RW.cells {w0 w : World} {p q g W H : Nat} {C : Nat → Nat} (h : RW w0 w p q g W H C) : w.cell? ⟨q, 0, none⟩ = some (.int .i64 W) ∧ w.cell? ⟨q, 1, none⟩ = some (.int .i64 H) ∧ w.cell? ⟨q, 2, none⟩ = some (.slice (some ⟨g, 0, none⟩) (H * wd W) (H * wd W)) :=
  ⟨Joins.cell_of_block h.bq 0, Joins.cell_of_block h.bq 1, Joins.cell_of_block h.bq 2⟩
theorem RW.old {w0 w : World} {p q g W H : Nat} {C : Nat → Nat} (h : RW w0 w p q g W H C) {b o : Nat} {v : Value} (hv : w0.cell? ⟨b, o, none⟩ = some v) : w.cell? ⟨b, o, none⟩ = some v :=
  (h.bel.cell (p := ⟨b, o, none⟩) (by rw [h.hp]; exact World.block_lt_of_cell? w0 _ hv)).trans hv
theorem store3 {w0 w : World} {p : Nat} {x0 x1 x2 : Value} (hB : Below p w0 w) (b0 : w.heap[p]? = some (.cells #[x0, x1, x2] 25 (0, 0))) (v0 v1 v2 : Value) :
    (((w.setCell ⟨p, 0, none⟩ v0).setCell ⟨p, 1, none⟩ v1).setCell ⟨p, 2, none⟩ v2).heap[p]? = some (.cells #[v0, v1, v2] 25 (0, 0)) ∧ Below p w0 (((w.setCell ⟨p, 0, none⟩ v0).setCell ⟨p, 1, none⟩ v1).setCell ⟨p, 2, none⟩ v2) ∧
    w.grownBy (((w.setCell ⟨p, 0, none⟩ v0).setCell ⟨p, 1, none⟩ v1).setCell ⟨p, 2, none⟩ v2) (some p) := by
  have d0 := Joins.block_setCell b0 (i := 0) v0
  have d1 := Joins.block_setCell d0 (i := 1) v1
  have d2 := Joins.block_setCell d1 (i := 2) v2
  rw [setIf3] at d2
  exact ⟨d2, (((hB.setCell (p := ⟨p, 0, none⟩) (Nat.le_refl _) _).setCell (p := ⟨p, 1, none⟩) (Nat.le_refl _) _).setCell (p := ⟨p, 2, none⟩) (Nat.le_refl _) _),
    ((grown_setCell w ⟨p, 0, none⟩ v0).trans (grown_setCell _ ⟨p, 1, none⟩ v1)).trans (grown_setCell _ ⟨p, 2, none⟩ v2)⟩
/-- the reference's own bitmap laid: a White and a box -/
theorem RW.new {w0 w3 : World} {g W H : Nat} (hb : Below (w0.heap.size + 1) (w0.alloc (.cells #[.int .i64 0, .int .i64 0, .slice none 0 0] 25)) w3) (ho : IsOwn w3 g (H * wd W) (fun _ => 0)) (hg : w0.heap.size + 1 ≤ g) (hB0 : w0.heap.size + 1 ≤ w3.heap.size) :
    RW w0 (w3.alloc (.cells #[.int .i64 W, .int .i64 H, .slice (some ⟨g, 0, none⟩) (H * wd W) (H * wd W)] 25)) w0.heap.size w3.heap.size g W H (fun _ => 0) := by
  have l0 : w0.heap.size < w3.heap.size := hB0
  have hgl := ho.lt
  have hn := heap_alloc_new w3 (.cells #[.int .i64 (W : Int), .int .i64 (H : Int), .slice (some ⟨g, 0, none⟩) (H * wd W) (H * wd W)] 25)
  have hb1 : Below w0.heap.size w0 w3 := ((Below.refl _ _).alloc (Nat.le_refl _) _).trans (hb.mono (Nat.le_succ _))
  have s1 := (Below.refl w3.heap.size w3).alloc (Nat.le_refl _) (.cells #[.int .i64 (W : Int), .int .i64 (H : Int), .slice (some ⟨g, 0, none⟩) (H * wd W) (H * wd W)] 25)
  have c0 : w3.heap[w0.heap.size]? = some (.cells #[.int .i64 0, .int .i64 0, .slice none 0 0] 25 (0, 0)) := (hb.block _ (Nat.lt_succ_self _)).trans (heap_alloc_new w0 _)
  exact ⟨rfl, hb1.trans (s1.mono (Nat.le_of_lt l0)), (s1.block _ l0).trans c0, hn, ho.below s1, by omega, by omega, by omega⟩
theorem white_at (W H : Nat) (w : World) (hW : W ≤ 1048576) (hH : H ≤ 1048576) (B : Nat) (hB : B = w.heap.size) :
    Calls Tryd.prog 52 #[.int .i64 (W : Int), .int .i64 (H : Int)] w fun e w' => ∃ g, e = .returned (.agg #[.int .i64 (W : Int), .int .i64 (H : Int), .slice (some ⟨g, 0, none⟩) (H * wd W) (H * wd W)]) ∧ IsOwn w' g (H * wd W) (fun _ => 0) ∧ B ≤ g ∧ Below B w w' := by
  subst hB
  exact white0 W H w hW hH
/-- the reference's end at a fault -/
theorem rend_fault {w0 w : World} {p code : Nat} {x0 x1 x2 : Value} (hp : p = w0.heap.size) (hB : Below p w0 w) (b0 : w.heap[p]? = some (.cells #[x0, x1, x2] 25 (0, 0))) :
    (((w.setCell ⟨p, 0, none⟩ (.int .i64 0)).setCell ⟨p, 1, none⟩ (.int .i64 0)).setCell ⟨p, 2, none⟩ (.slice none 0 0)).cell? ⟨p, 0, none⟩ = some (.int .i64 0) ∧
    (((w.setCell ⟨p, 0, none⟩ (.int .i64 0)).setCell ⟨p, 1, none⟩ (.int .i64 0)).setCell ⟨p, 2, none⟩ (.slice none 0 0)).cell? ⟨p, 1, none⟩ = some (.int .i64 0) ∧
    (((w.setCell ⟨p, 0, none⟩ (.int .i64 0)).setCell ⟨p, 1, none⟩ (.int .i64 0)).setCell ⟨p, 2, none⟩ (.slice none 0 0)).cell? ⟨p, 2, none⟩ = some (.slice none 0 0) ∧
    RdOutR w0 (.inl code) (.returned (.tuple #[.agg #[.int .i64 0, .int .i64 0, .slice none 0 0], .int .i64 code])) (((w.setCell ⟨p, 0, none⟩ (.int .i64 0)).setCell ⟨p, 1, none⟩ (.int .i64 0)).setCell ⟨p, 2, none⟩ (.slice none 0 0)) := by
  obtain ⟨s0, s1, s2⟩ := store3 hB b0 (.int .i64 0) (.int .i64 0) (.slice none 0 0)
  refine ⟨Joins.cell_of_block s0 0, Joins.cell_of_block s0 1, Joins.cell_of_block s0 2, ?_, rfl⟩
  rw [← hp]
  exact s1
theorem RW.good {w0 w : World} {p q g W H : Nat} {C : Nat → Nat} (h : RW w0 w p q g W H C) {ps : List Bool} (hP : PixOk W H (H * wd W) ps C) :
    (((w.setCell ⟨p, 0, none⟩ (.int .i64 W)).setCell ⟨p, 1, none⟩ (.int .i64 H)).setCell ⟨p, 2, none⟩ (.slice (some ⟨g, 0, none⟩) (H * wd W) (H * wd W))).cell? ⟨p, 0, none⟩ = some (.int .i64 W) ∧
    (((w.setCell ⟨p, 0, none⟩ (.int .i64 W)).setCell ⟨p, 1, none⟩ (.int .i64 H)).setCell ⟨p, 2, none⟩ (.slice (some ⟨g, 0, none⟩) (H * wd W) (H * wd W))).cell? ⟨p, 1, none⟩ = some (.int .i64 H) ∧
    (((w.setCell ⟨p, 0, none⟩ (.int .i64 W)).setCell ⟨p, 1, none⟩ (.int .i64 H)).setCell ⟨p, 2, none⟩ (.slice (some ⟨g, 0, none⟩) (H * wd W) (H * wd W))).cell? ⟨p, 2, none⟩ = some (.slice (some ⟨g, 0, none⟩) (H * wd W) (H * wd W)) ∧
    RdOutR w0 (.inr (W, H, ps)) (.returned (.tuple #[.agg #[.int .i64 W, .int .i64 H, .slice (some ⟨g, 0, none⟩) (H * wd W) (H * wd W)], .int .i64 0])) (((w.setCell ⟨p, 0, none⟩ (.int .i64 W)).setCell ⟨p, 1, none⟩ (.int .i64 H)).setCell ⟨p, 2, none⟩ (.slice (some ⟨g, 0, none⟩) (H * wd W) (H * wd W))) := by
  obtain ⟨s0, s1, s2⟩ := store3 h.bel h.b0 (.int .i64 (W : Int)) (.int .i64 (H : Int)) (.slice (some ⟨g, 0, none⟩) (H * wd W) (H * wd W))
  refine ⟨Joins.cell_of_block s0 0, Joins.cell_of_block s0 1, Joins.cell_of_block s0 2, ?_, ?_⟩
  · rw [← h.hp]
    exact s1
  · have ho := IsOwn.grown h.own s2 (by have := h.lt; omega)
    exact ⟨g, C, rfl, ho, by rw [← h.hp]; have := h.lt; omega, hP⟩
end Go.Proofs.YtgpjpmadbepblaaDoor
