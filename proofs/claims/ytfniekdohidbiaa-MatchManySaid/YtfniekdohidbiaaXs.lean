/- The three one-pixel bitmaps of wakes, plain; classes of bitmaps alike. Conditions: the bounds that each theorem names. -/
import Derived.Test.YtfniekdohidbiaaXm
import Derived.Test.YtfniekdohidbiaaVe
namespace Go.Proofs.Ytfniekdohidbiaa
open Go.RowKit Go.Bm Fl Go.FlW Go.Sort
theorem find_same {p q : Nat → Bool} : ∀ (l : List Nat), (∀ x ∈ l, p x = q x) → l.find? p = l.find? q
  | [], _ => rfl
  | x :: r, h => by
    rw [List.find?_cons, List.find?_cons, h x (List.mem_cons_self), find_same r (fun y hy => h y (List.mem_cons_of_mem _ hy))]
theorem nearB_like2 {f f' g g' : Bmp} {t : Nat} (h : f.like f') (k : g.like g') : nearB f g t = nearB f' g' t := by
  unfold nearB sizeB
  rw [leqB_like h k, h.1, h.2.1, k.1, k.2.1]
theorem hit_congr {F F' : Nat → Bmp} {t n i : Nat} {reps : List Nat} (h : ∀ j, j < n → (F j).like (F' j)) (hi : i < n) (hr : ∀ k, k < reps.length → reps[k]! < n) : hit F t reps i = hit F' t reps i := by
  unfold hit
  exact find_same _ fun k hk => nearB_like2 (h _ (hr k (List.mem_range.1 hk))) (h i hi)
/-- bitmaps alike have one classification -/
theorem clsOf_congr {F F' : Nat → Bmp} {t n : Nat} (h : ∀ j, j < n → (F j).like (F' j)) : ∀ i, i ≤ n → clsOf F t i = clsOf F' t i := by
  intro i
  induction i with
  | zero => intro _; rfl
  | succ i ih =>
    intro hi
    unfold clsOf
    rw [← ih (by omega)]
    unfold stepC
    rw [hit_congr h (show i < n by omega) (fun k hk => Nat.lt_trans (reps_lt F t i k hk) (by omega))]
/-- one black pixel, one white one, one black one -/
def tri (g0 gw : Nat) (k : Nat) : Bmp := if k = 1 then ⟨1, 1, some ⟨gw, 0, none⟩, 1, 1, fun _ => 0⟩ else ⟨1, 1, some ⟨g0, 0, none⟩, 1, 1, fun _ => 9223372036854775808⟩
theorem tri_ok (g0 gw k : Nat) : (tri g0 gw k).ok ∧ (tri g0 gw k).n = 1 := by
  unfold tri
  split
  · refine ⟨?_, rfl⟩
    unfold Bmp.ok
    show okB 1 1 1 (fun _ => 0)
    unfold okB okS clean
    decide
  · refine ⟨?_, rfl⟩
    unfold Bmp.ok
    show okB 1 1 1 (fun _ => 9223372036854775808)
    unfold okB okS clean
    decide
theorem tri_near (g0 gw : Nat) : nearB (tri g0 gw 0) (tri g0 gw 1) 0 = false ∧ nearB (tri g0 gw 0) (tri g0 gw 2) 0 = true := by
  have d2 : diffN 1 1 (fun _ => 9223372036854775808) (fun _ => 0) = 1 := by decide
  have d3 : diffN 1 1 (fun _ => 9223372036854775808) (fun _ => 9223372036854775808) = 0 := by decide
  have q1 : leQ 0 1 0 = true := by decide
  have q2 : leQ 1 1 0 = false := by decide
  refine ⟨?_, ?_⟩
  · show (decide ((1 : Int) = 1 ∧ (1 : Int) = 1) && leQ (diffN 1 1 (fun _ => 9223372036854775808) (fun _ => 0)) (1 * 1) 0) = false
    rw [d2, Nat.one_mul, q2, Bool.and_false]
  · show (decide ((1 : Int) = 1 ∧ (1 : Int) = 1) && leQ (diffN 1 1 (fun _ => 9223372036854775808) (fun _ => 9223372036854775808)) (1 * 1) 0) = true
    rw [d3, Nat.one_mul, q1]
    decide
theorem tri_cls (g0 gw : Nat) : clsOf (tri g0 gw) 0 1 = ([0], [0]) ∧ clsOf (tri g0 gw) 0 2 = ([0, 1], [0, 1]) ∧ clsOf (tri g0 gw) 0 3 = ([0, 1, 0], [0, 1]) := by
  obtain ⟨n1, n2⟩ := tri_near g0 gw
  have s1 : clsOf (tri g0 gw) 0 1 = ([0], [0]) := rfl
  have h2 : hit (tri g0 gw) 0 [0] 1 = none := by
    refine find_none fun j hj => ?_
    obtain rfl : j = 0 := by simpa using hj
    exact n1
  have s2 : clsOf (tri g0 gw) 0 2 = ([0, 1], [0, 1]) := by
    show stepC (tri g0 gw) 0 (clsOf (tri g0 gw) 0 1) 1 = _
    rw [s1]
    show (match hit (tri g0 gw) 0 [0] 1 with | some k => ([0] ++ [k], [0]) | none => ([0] ++ [1], [0] ++ [1])) = _
    rw [h2]
    rfl
  have h3 : hit (tri g0 gw) 0 [0, 1] 2 = some 0 := find_of (by decide) n2 (fun j hj => absurd hj (Nat.not_lt_zero _))
  refine ⟨s1, s2, ?_⟩
  show stepC (tri g0 gw) 0 (clsOf (tri g0 gw) 0 2) 2 = _
  rw [s2]
  show (match hit (tri g0 gw) 0 [0, 1] 2 with | some k => ([0, 1] ++ [k], [0, 1]) | none => ([0, 1] ++ [2], [0, 1] ++ [2])) = _
  rw [h3]
  rfl
theorem tri_room (g0 gw i : Nat) (hi : i < 3) : (clsOf (tri g0 gw) 0 i).2.length < 4096 := by
  have := (clsOf_reps (tri g0 gw) 0 i).1
  omega
theorem IsOwn.heap {w w' : World} {g n : Nat} {B : Nat → Nat} (h : IsOwn w g n B) (hb : Below w.heap.size w w') : IsOwn w' g n B := h.below hb
/-- three bitmaps in a block that has just been laid -/
theorem tri_laid (w : World) (g0 gw : Nat) (h0 : IsOwn w g0 1 (fun _ => 9223372036854775808)) (hw : IsOwn w gw 1 (fun _ => 0)) :
    IsBms (w.alloc (.cells #[.int .i64 1, .int .i64 1, .slice (some ⟨g0, 0, none⟩) 1 1, .int .i64 1, .int .i64 1, .slice (some ⟨gw, 0, none⟩) 1 1, .int .i64 1, .int .i64 1, .slice (some ⟨g0, 0, none⟩) 1 1] 48)) (some ⟨w.heap.size, 0, none⟩) 3 3 (tri g0 gw) := by
  have hb : Below w.heap.size w (w.alloc (.cells #[.int .i64 1, .int .i64 1, .slice (some ⟨g0, 0, none⟩) 1 1, .int .i64 1, .int .i64 1, .slice (some ⟨gw, 0, none⟩) 1 1, .int .i64 1, .int .i64 1, .slice (some ⟨g0, 0, none⟩) 1 1] 48)) := (Below.refl _ _).alloc (Nat.le_refl _) _
  have hh := heap_alloc_new w (.cells #[.int .i64 1, .int .i64 1, .slice (some ⟨g0, 0, none⟩) 1 1, .int .i64 1, .int .i64 1, .slice (some ⟨gw, 0, none⟩) 1 1, .int .i64 1, .int .i64 1, .slice (some ⟨g0, 0, none⟩) 1 1] 48)
  have k0 := (h0.below hb).words (cap := 1) (Nat.le_refl _) (by omega)
  have kw := (hw.below hb).words (cap := 1) (Nat.le_refl _) (by omega)
  refine Or.inr ⟨w.heap.size, 0, rfl, Nat.le_refl _, by omega, by simp, fun i hi => ?_⟩
  rw [Joins.cell_of_block hh, Joins.cell_of_block hh, Joins.cell_of_block hh]
  match i, hi with
  | 0, _ => exact ⟨rfl, rfl, rfl, k0⟩
  | 1, _ => exact ⟨rfl, rfl, rfl, kw⟩
  | 2, _ => exact ⟨rfl, rfl, rfl, k0⟩
theorem white11 (w : World) : Calls Try.prog 27 #[.int .i64 1, .int .i64 1] w fun e w' => ∃ g, e = .returned (.agg #[.int .i64 1, .int .i64 1, .slice (some ⟨g, 0, none⟩) 1 1]) ∧ IsOwn w' g 1 (fun _ => 0) ∧ w.heap.size ≤ g ∧ Below w.heap.size w w' := white0 1 1 w (by omega) (by omega)
theorem white21 (w : World) : Calls Try.prog 27 #[.int .i64 2, .int .i64 1] w fun e w' => ∃ g, e = .returned (.agg #[.int .i64 2, .int .i64 1, .slice (some ⟨g, 0, none⟩) 1 1]) ∧ IsOwn w' g 1 (fun _ => 0) ∧ w.heap.size ≤ g ∧ Below w.heap.size w w' := white0 2 1 w (by omega) (by omega)
def duo (g0 gw : Nat) (k : Nat) : Bmp := if k = 0 then ⟨2, 1, some ⟨g0, 0, none⟩, 1, 1, fun _ => 0⟩ else ⟨1, 1, some ⟨gw, 0, none⟩, 1, 1, fun _ => 0⟩
theorem duo_ok (g0 gw k : Nat) : (duo g0 gw k).ok := by
  unfold duo
  split
  · unfold Bmp.ok
    show okB 2 1 1 (fun _ => 0)
    unfold okB okS clean
    decide
  · unfold Bmp.ok
    show okB 1 1 1 (fun _ => 0)
    unfold okB okS clean
    decide
theorem duo_sorted (g0 gw : Nat) : Sorted (duo g0 gw) 2 [1, 0] := by
  refine ⟨List.Perm.swap 0 1 [], ?_⟩
  rw [List.pairwise_cons]
  refine ⟨fun x hx => ?_, List.pairwise_singleton _ _⟩
  obtain rfl : x = 0 := by simpa using hx
  unfold ahead
  right
  refine ⟨rfl, Or.inl ?_⟩
  show (1 : Int) < 2
  omega
theorem duo_laid (w : World) (g0 gw : Nat) (h0 : IsOwn w g0 1 (fun _ => 0)) (hw : IsOwn w gw 1 (fun _ => 0)) :
    IsBms (w.alloc (.cells #[.int .i64 2, .int .i64 1, .slice (some ⟨g0, 0, none⟩) 1 1, .int .i64 1, .int .i64 1, .slice (some ⟨gw, 0, none⟩) 1 1] 48)) (some ⟨w.heap.size, 0, none⟩) 2 2 (duo g0 gw) := by
  have hb : Below w.heap.size w (w.alloc (.cells #[.int .i64 2, .int .i64 1, .slice (some ⟨g0, 0, none⟩) 1 1, .int .i64 1, .int .i64 1, .slice (some ⟨gw, 0, none⟩) 1 1] 48)) := (Below.refl _ _).alloc (Nat.le_refl _) _
  have hh := heap_alloc_new w (.cells #[.int .i64 2, .int .i64 1, .slice (some ⟨g0, 0, none⟩) 1 1, .int .i64 1, .int .i64 1, .slice (some ⟨gw, 0, none⟩) 1 1] 48)
  have k0 := (h0.below hb).words (cap := 1) (Nat.le_refl _) (by omega)
  have kw := (hw.below hb).words (cap := 1) (Nat.le_refl _) (by omega)
  refine Or.inr ⟨w.heap.size, 0, rfl, Nat.le_refl _, by omega, by simp, fun i hi => ?_⟩
  rw [Joins.cell_of_block hh, Joins.cell_of_block hh, Joins.cell_of_block hh]
  match i, hi with
  | 0, _ => exact ⟨rfl, rfl, rfl, k0⟩
  | 1, _ => exact ⟨rfl, rfl, rfl, kw⟩
theorem isInts_of_owns {w : World} {B k : Nat} {v : Value} {l : List Nat} (h : w.ownsRow B 3 1 v k (numsL l)) : ∃ p c, v = .slice p k c ∧ IsInts w p k c (fun i => (l[i]! : Nat)) := by
  by_cases h0 : 0 < k
  · obtain ⟨g, c, hv, hi⟩ := isInts_of_row h h0
    exact ⟨_, _, hv, hi⟩
  · obtain ⟨p, c, hv, _⟩ := ownsRow_slice h
    exact ⟨p, c, hv, Or.inl (by omega)⟩
end Go.Proofs.Ytfniekdohidbiaa
