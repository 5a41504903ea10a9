/- wakes. Conditions: the bounds that each theorem names. -/
import Derived.Test.YtfniekdohidbiaaXn
import Derived.Test.YtfniekdohidbiaaVd
import Derived.Test.YtfniekdohidbiaaXs
namespace Go.Proofs.Ytfniekdohidbiaa
open Go.RowKit Go.Bm Fl Go.FlW Go.Sort
theorem tri15 (W : World) (b g0 gw : Nat) (hL : IsBms W (some ⟨b, 0, none⟩) 3 3 (tri g0 gw)) :
    Calls Try.prog 15 #[.slice (some ⟨b, 0, none⟩) 3 3, .float .f64 0] W fun e w' =>
      ∃ pc cc pr cr, e = .returned (.tuple #[.agg #[.slice pc 3 cc, .slice pr 2 cr], .int .i64 0]) ∧ IsInts w' pc 3 cc (fun i => (([0, 1, 0] : List Nat)[i]! : Nat)) ∧ (∀ g o, pc = some ⟨g, o, none⟩ → W.heap.size ≤ g) ∧ Below W.heap.size W w' := by
  have hc := tri_cls g0 gw
  refine (classes15 (some ⟨b, 0, none⟩) 3 3 0 (tri g0 gw) _ hL (by omega) (by decide) (fun i _ => ⟨(tri_ok g0 gw i).1, by rw [(tri_ok g0 gw i).2]; omega⟩) (fun i hi _ => tri_room g0 gw i hi)).mono ?_
  rintro e w4 ⟨pc, cc, pr, cr, R, he, hc1, _, _, hb4⟩
  rw [hc.2.2] at he hc1
  obtain ⟨p, c, hv, hi⟩ := isInts_of_owns hc1
  simp only [Value.slice.injEq, true_and] at hv
  obtain ⟨rfl, rfl⟩ := hv
  exact ⟨pc, cc, pr, cr, he, hi, fun g o e => (hc1.lt g (by rw [e]; rfl)).1, hb4⟩
theorem IsInts.other {w : World} {p : Option Addr} {n c b : Nat} {L : Nat → Int} (h : IsInts w p n c L) (hne : ∀ g o, p = some ⟨g, o, none⟩ → g ≠ b) (j : Nat) (v : Value) : IsInts (w.setCell ⟨b, j, none⟩ v) p n c L := by
  rcases h with h | ⟨g, o, h1, h2, h3, h4, h5⟩
  · exact Or.inl h
  · have hg := hne g o h1
    refine Or.inr ⟨g, o, h1, h2, h3, by simpa using h4, fun i hi => grown_cell (q := ⟨g, o + i, none⟩) (grown_setCell w ⟨b, j, none⟩ v) (by simpa using hg) (h5 i hi)⟩
theorem duo20 (w : World) (g0 gw : Nat) (h0 : IsOwn w g0 1 (fun _ => 0)) (hw : IsOwn w gw 1 (fun _ => 0)) :
    Calls Try.prog 20 #[.slice (some ⟨w.heap.size, 0, none⟩) 2 2] (w.alloc (.cells #[.int .i64 2, .int .i64 1, .slice (some ⟨g0, 0, none⟩) 1 1, .int .i64 1, .int .i64 1, .slice (some ⟨gw, 0, none⟩) 1 1] 48)) fun e w' =>
      ∃ g c, e = .returned (.tuple #[.slice (some ⟨g, 0, none⟩) 2 c, .int .i64 0]) ∧ IsInts w' (some ⟨g, 0, none⟩) 2 c (fun i => (([1, 0] : List Nat)[i]! : Nat)) ∧ Below w.heap.size w w' := by
  have hb : Below w.heap.size w (w.alloc (.cells #[.int .i64 2, .int .i64 1, .slice (some ⟨g0, 0, none⟩) 1 1, .int .i64 1, .int .i64 1, .slice (some ⟨gw, 0, none⟩) 1 1] 48)) := (Below.refl _ _).alloc (Nat.le_refl _) _
  refine (order20 w.heap.size 0 2 2 (duo g0 gw) _ (duo_laid w g0 gw h0 hw) (by omega) (by omega) (fun i _ => duo_ok g0 gw i)).mono ?_
  rintro e w4 ⟨g, c, l, he, hs, hi, hb4⟩
  obtain rfl := hs.unique (duo_sorted g0 gw)
  exact ⟨g, c, he, hi, below_then hb hb4 (Nat.le_refl _)⟩
theorem ints_laid (w : World) (l : List Nat) : IsInts (w.alloc (.cells (numsL l).toArray 3)) (some ⟨w.heap.size, 0, none⟩) l.length l.length (fun i => (l[i]! : Nat)) ∨ 9223372036854775807 < l.length := by
  by_cases h : l.length ≤ 9223372036854775807
  · left
    refine Or.inr ⟨w.heap.size, 0, rfl, Nat.le_refl _, h, by simp, fun i hi => ?_⟩
    rw [Joins.cell_of_block (heap_alloc_new w _), Nat.zero_add]
    unfold numsL
    rw [← Array.getElem?_toList]
    show (l.map fun i => Value.int .i64 ((i : Nat) : Int))[i]? = _
    rw [List.getElem?_map, List.getElem?_eq_getElem hi]
    show some (Value.int .i64 ((l[i] : Nat) : Int)) = some (Value.int .i64 ((l[i]! : Nat) : Int))
    rw [getElem!_pos l i hi]
  · exact Or.inr (by omega)
theorem eq010 (w : World) (pc : Option Addr) (cc : Nat) (h : IsInts w pc 3 cc (fun i => (([0, 1, 0] : List Nat)[i]! : Nat))) : Calls Try.prog 22 #[.slice pc 3 cc, .slice (some ⟨w.heap.size, 0, none⟩) 3 3] (w.alloc (.cells #[.int .i64 0, .int .i64 1, .int .i64 0] 3)) fun e w' => e = .returned (.bool true) ∧ Below w.heap.size w w' := by
  have hb : Below w.heap.size w (w.alloc (.cells #[.int .i64 0, .int .i64 1, .int .i64 0] 3)) := (Below.refl _ _).alloc (Nat.le_refl _) _
  refine (eqints22 pc 3 cc _ (some ⟨w.heap.size, 0, none⟩) 3 3 (fun i => (([0, 1, 0] : List Nat)[i]! : Nat)) true _ (h.below hb) ((ints_laid w [0, 1, 0]).resolve_right (by simp)) (by simp) (by omega)).mono ?_
  rintro e w8 ⟨rfl, q, rfl⟩
  exact ⟨rfl, below_drewN hb q⟩
theorem eq10 (w : World) (pc : Option Addr) (cc : Nat) (h : IsInts w pc 2 cc (fun i => (([1, 0] : List Nat)[i]! : Nat))) : Calls Try.prog 22 #[.slice pc 2 cc, .slice (some ⟨w.heap.size, 0, none⟩) 2 2] (w.alloc (.cells #[.int .i64 1, .int .i64 0] 3)) fun e w' => e = .returned (.bool true) ∧ Below w.heap.size w w' := by
  have hb : Below w.heap.size w (w.alloc (.cells #[.int .i64 1, .int .i64 0] 3)) := (Below.refl _ _).alloc (Nat.le_refl _) _
  refine (eqints22 pc 2 cc _ (some ⟨w.heap.size, 0, none⟩) 2 2 (fun i => (([1, 0] : List Nat)[i]! : Nat)) true _ (h.below hb) ((ints_laid w [1, 0]).resolve_right (by simp)) (by simp) (by omega)).mono ?_
  rintro e w8 ⟨rfl, q, rfl⟩
  exact ⟨rfl, below_drewN hb q⟩
set_option maxHeartbeats 4000000 in
set_option maxRecDepth 100000 in
theorem wakes11 (w : World) : Calls Try.prog 11 #[] w fun e w' => e = .returned (.bool true) ∧ Below w.heap.size w w' := by
  go_enter Try.func11, Try.ntmps11
  go_upto_region 2 with fail
  have h0 : ((w.alloc (.cells #[.int .u64 9223372036854775808] 23)).alloc (.cells #[.int .i64 1, .int .i64 1, .slice (some ⟨w.heap.size, 0, none⟩) 1 1] 48)).heap[w.heap.size]? = some (.cells #[.int .u64 9223372036854775808] 23 (0, 0)) := by
    rw [Below.heap_alloc _ _ _ (by simp)]
    exact heap_alloc_new w _
  have h1 : ((w.alloc (.cells #[.int .u64 9223372036854775808] 23)).alloc (.cells #[.int .i64 1, .int .i64 1, .slice (some ⟨w.heap.size, 0, none⟩) 1 1] 48)).heap[w.heap.size + 1]? = some (.cells #[.int .i64 1, .int .i64 1, .slice (some ⟨w.heap.size, 0, none⟩) 1 1] 48 (0, 0)) := by
    have := heap_alloc_new (w.alloc (.cells #[.int .u64 9223372036854775808] 23)) (.cells #[.int .i64 1, .int .i64 1, .slice (some ⟨w.heap.size, 0, none⟩) 1 1] 48)
    simpa using this
  have hb : Below w.heap.size w ((w.alloc (.cells #[.int .u64 9223372036854775808] 23)).alloc (.cells #[.int .i64 1, .int .i64 1, .slice (some ⟨w.heap.size, 0, none⟩) 1 1] 48)) := ((Below.refl _ _).alloc (Nat.le_refl _) _).alloc (by simp) _
  have hs : ((w.alloc (.cells #[.int .u64 9223372036854775808] 23)).alloc (.cells #[.int .i64 1, .int .i64 1, .slice (some ⟨w.heap.size, 0, none⟩) 1 1] 48)).heap.size = w.heap.size + 2 := by simp
  obtain ⟨g0, hg0⟩ : ∃ g0, w.heap.size = g0 := ⟨_, rfl⟩
  rw [hg0] at h0 h1 hb hs ⊢
  obtain ⟨b1, hb1⟩ : ∃ b1, g0 + 1 = b1 := ⟨_, rfl⟩
  rw [hb1] at h1 ⊢
  have HG := Lib.hid hg0
  have HB1 := Lib.hid hb1
  have HS := Lib.hid hs
  have HB := Lib.hid hb
  have H0 := Lib.hid h0
  have H1 := Lib.hid h1
  clear hg0 hb1 hs hb
  generalize ((w.alloc (.cells #[.int .u64 9223372036854775808] 23)).alloc (.cells #[.int .i64 1, .int .i64 1, .slice (some ⟨g0, 0, none⟩) 1 1] 48)) = w2 at *
  have e0 : w2.cell? ⟨b1, 0, none⟩ = some (.int .i64 1) := by rw [Joins.cell_of_block h1]; rfl
  have e1 : w2.cell? ⟨b1, 1, none⟩ = some (.int .i64 1) := by rw [Joins.cell_of_block h1]; rfl
  have e2 : w2.cell? ⟨b1, 2, none⟩ = some (.slice (some ⟨g0, 0, none⟩) 1 1) := by rw [Joins.cell_of_block h1]; rfl
  clear h0 h1
  have HOW : Hid (IsOwn w2 g0 1 (fun _ => 9223372036854775808)) := ⟨_, H0.out, fun i hi => by
    obtain rfl : i = 0 := by omega
    exact ⟨rfl, by decide⟩⟩
  clear H0
  go_cut [2, 3] (fun s2 s3 wx => ∃ b2 pc cc pr cr, s2 = .pointer (some ⟨b2, 0, none⟩) ∧ s3 = .int .i64 0 ∧ Hid (wx.heap[b2]? = some (.cells #[.slice pc 3 cc, .slice pr 2 cr] 33 (0, 0))) ∧ Hid (IsInts wx pc 3 cc (fun i => (([0, 1, 0] : List Nat)[i]! : Nat))) ∧ Hid (Below w2.heap.size w2 wx))
  case first =>
    go_region_held3 (fun w' => w'.cell? ⟨b1, 0, none⟩ = some (.int .i64 1) ∧ w'.cell? ⟨b1, 1, none⟩ = some (.int .i64 1) ∧ w'.cell? ⟨b1, 2, none⟩ = some (.slice (some ⟨g0, 0, none⟩) 1 1)) (first | go_keep | (go_split_ands; refine ⟨?_, ?_, ?_⟩ <;> (refine grown_cell (grown_setCell _ _ _) ?_ (grown_cell (grown_setCell _ _ _) ?_ (by assumption)) <;> (simp; have := HS.out; have := HB1.out; have := HB3.out.size; omega))))
      (first
        | (go_at_call 27; refine (white11 _).mono ?_; rintro e w3 ⟨gw, rfl, hown, hge, hb3⟩; have y0 := keep_cell hb3 (p := ⟨b1, 0, none⟩) (v := .int .i64 1) (by first | assumption | with_reducible exact keep_cell ((Below.refl _ w2).alloc (Nat.le_refl _) _).drew e0 | with_reducible exact keep_cell ((Below.refl _ w2).alloc (Nat.le_refl _) _) e0); have y1 := keep_cell hb3 (p := ⟨b1, 1, none⟩) (v := .int .i64 1) (by first | assumption | with_reducible exact keep_cell ((Below.refl _ w2).alloc (Nat.le_refl _) _).drew e1 | with_reducible exact keep_cell ((Below.refl _ w2).alloc (Nat.le_refl _) _) e1); have y2 := keep_cell hb3 (p := ⟨b1, 2, none⟩) (v := .slice (some ⟨g0, 0, none⟩) 1 1) (by first | assumption | with_reducible exact keep_cell ((Below.refl _ w2).alloc (Nat.le_refl _) _).drew e2 | with_reducible exact keep_cell ((Below.refl _ w2).alloc (Nat.le_refl _) _) e2); have HB3 : Hid (Below w2.heap.size w2 w3) := below_then (by first | with_reducible exact Below.refl _ _ | with_reducible exact Below.drew (Below.refl _ _) | with_reducible exact (Below.refl _ _).alloc (Nat.le_refl _) _ | with_reducible exact ((Below.refl _ _).alloc (Nat.le_refl _) _).drew | with_reducible exact (Below.drew (Below.refl _ _)).alloc (Nat.le_refl _) _) hb3 (Nat.le_refl _); have HOW3 := Lib.hid (HOW.out.below HB3.out); have HGW := Lib.hid hown; (try (have hmD : w3.heap[w2.heap.size]? = some (.cells #[.slice none 0 0, .slice none 0 0] 33 (0, 0)) := (hb3.block w2.heap.size (by simp)).trans (heap_alloc_new w2 _))); clear hown hge hb3)
        | (go_at_call 15; refine (tri15 _ _ g0 gw ?_).mono ?_; (first | with_reducible exact tri_laid w3 g0 gw HOW3.out HGW.out | with_reducible exact (tri_laid w3 g0 gw HOW3.out HGW.out).below ((Below.refl _ _).alloc (Nat.le_refl _) _) | (have hC := tri_laid (w3.alloc (.cells #[.slice none 0 0, .slice none 0 0] 33)) g0 gw (HOW3.out.below ((Below.refl _ _).alloc (Nat.le_refl _) _)) (HGW.out.below ((Below.refl _ _).alloc (Nat.le_refl _) _)); simpa using hC)); rintro e w4 ⟨pc, cc, pr, cr, rfl, hc, hpc, hb4⟩; (first | (have hbx : Below (w3.alloc (.cells #[.int .i64 1, .int .i64 1, .slice (some ⟨g0, 0, none⟩) 1 1, .int .i64 1, .int .i64 1, .slice (some ⟨gw, 0, none⟩) 1 1, .int .i64 1, .int .i64 1, .slice (some ⟨g0, 0, none⟩) 1 1] 48)).heap.size (w3.alloc (.cells #[.int .i64 1, .int .i64 1, .slice (some ⟨g0, 0, none⟩) 1 1, .int .i64 1, .int .i64 1, .slice (some ⟨gw, 0, none⟩) 1 1, .int .i64 1, .int .i64 1, .slice (some ⟨g0, 0, none⟩) 1 1] 48)) w4 := (by with_reducible exact hb4); have hbw : Below w3.heap.size w3 w4 := below_then ((Below.refl _ _).alloc (Nat.le_refl _) _) hbx (Nat.le_refl _); (try (have hm4 := (hbw.block w2.heap.size (Array.getElem?_eq_some_iff.1 hmD).1).trans hmD; have HNE : Hid (∀ g o, pc = some ⟨g, o, none⟩ → g ≠ w2.heap.size) := (fun g o e => by have h1 := hpc g o e; have h2 := HB3.out.size; simp at h1; omega); have z0 : w4.cell? ⟨w2.heap.size, 0, none⟩ = some (.slice none 0 0) := (by rw [Joins.cell_of_block hm4]; rfl); have z1 : w4.cell? ⟨w2.heap.size, 1, none⟩ = some (.slice none 0 0) := (by rw [Joins.cell_of_block hm4]; rfl); have zf0 : w4.frozen? ⟨w2.heap.size, 0, none⟩ = false := Joins.unfrozen_of_block hm4 _; have zf1 : w4.frozen? ⟨w2.heap.size, 1, none⟩ = false := Joins.unfrozen_of_block hm4 _; have HM := Lib.hid hm4; clear hm4))) | (have hbx : Below ((w3.alloc (.cells #[.int .i64 1, .int .i64 1, .slice (some ⟨g0, 0, none⟩) 1 1, .int .i64 1, .int .i64 1, .slice (some ⟨gw, 0, none⟩) 1 1, .int .i64 1, .int .i64 1, .slice (some ⟨g0, 0, none⟩) 1 1] 48)).alloc (.cells #[.slice none 0 0, .slice none 0 0] 33)).heap.size ((w3.alloc (.cells #[.int .i64 1, .int .i64 1, .slice (some ⟨g0, 0, none⟩) 1 1, .int .i64 1, .int .i64 1, .slice (some ⟨gw, 0, none⟩) 1 1, .int .i64 1, .int .i64 1, .slice (some ⟨g0, 0, none⟩) 1 1] 48)).alloc (.cells #[.slice none 0 0, .slice none 0 0] 33)) w4 := (by with_reducible exact hb4); have hbw : Below w3.heap.size w3 w4 := below_then (((Below.refl _ w3).alloc (Nat.le_refl _) _).alloc (by simp) _) hbx (Nat.le_refl _); have hmB : ((w3.alloc (.cells #[.int .i64 1, .int .i64 1, .slice (some ⟨g0, 0, none⟩) 1 1, .int .i64 1, .int .i64 1, .slice (some ⟨gw, 0, none⟩) 1 1, .int .i64 1, .int .i64 1, .slice (some ⟨g0, 0, none⟩) 1 1] 48)).alloc (.cells #[.slice none 0 0, .slice none 0 0] 33)).heap[w3.heap.size + 1]? = some (.cells #[.slice none 0 0, .slice none 0 0] 33 (0, 0)) := (by have := heap_alloc_new (w3.alloc (.cells #[.int .i64 1, .int .i64 1, .slice (some ⟨g0, 0, none⟩) 1 1, .int .i64 1, .int .i64 1, .slice (some ⟨gw, 0, none⟩) 1 1, .int .i64 1, .int .i64 1, .slice (some ⟨g0, 0, none⟩) 1 1] 48)) (.cells #[.slice none 0 0, .slice none 0 0] 33); simpa using this); have hm4 := (hbx.block (w3.heap.size + 1) (by simp)).trans hmB; have HNE : Hid (∀ g o, pc = some ⟨g, o, none⟩ → g ≠ w3.heap.size + 1) := (fun g o e => by have h1 := hpc g o e; have h2 := HB3.out.size; simp at h1; omega); have z0 : w4.cell? ⟨w3.heap.size + 1, 0, none⟩ = some (.slice none 0 0) := (by rw [Joins.cell_of_block hm4]; rfl); have z1 : w4.cell? ⟨w3.heap.size + 1, 1, none⟩ = some (.slice none 0 0) := (by rw [Joins.cell_of_block hm4]; rfl); have zf0 : w4.frozen? ⟨w3.heap.size + 1, 0, none⟩ = false := Joins.unfrozen_of_block hm4 _; have zf1 : w4.frozen? ⟨w3.heap.size + 1, 1, none⟩ = false := Joins.unfrozen_of_block hm4 _; have HM := Lib.hid hm4; clear hm4; clear hmB) | (have hbx : Below ((w3.alloc (.cells #[.slice none 0 0, .slice none 0 0] 33)).alloc (.cells #[.int .i64 1, .int .i64 1, .slice (some ⟨g0, 0, none⟩) 1 1, .int .i64 1, .int .i64 1, .slice (some ⟨gw, 0, none⟩) 1 1, .int .i64 1, .int .i64 1, .slice (some ⟨g0, 0, none⟩) 1 1] 48)).heap.size ((w3.alloc (.cells #[.slice none 0 0, .slice none 0 0] 33)).alloc (.cells #[.int .i64 1, .int .i64 1, .slice (some ⟨g0, 0, none⟩) 1 1, .int .i64 1, .int .i64 1, .slice (some ⟨gw, 0, none⟩) 1 1, .int .i64 1, .int .i64 1, .slice (some ⟨g0, 0, none⟩) 1 1] 48)) w4 := (by with_reducible exact hb4); have hbw : Below w3.heap.size w3 w4 := below_then (((Below.refl _ w3).alloc (Nat.le_refl _) _).alloc (by simp) _) hbx (Nat.le_refl _); have hmB : ((w3.alloc (.cells #[.slice none 0 0, .slice none 0 0] 33)).alloc (.cells #[.int .i64 1, .int .i64 1, .slice (some ⟨g0, 0, none⟩) 1 1, .int .i64 1, .int .i64 1, .slice (some ⟨gw, 0, none⟩) 1 1, .int .i64 1, .int .i64 1, .slice (some ⟨g0, 0, none⟩) 1 1] 48)).heap[w3.heap.size]? = some (.cells #[.slice none 0 0, .slice none 0 0] 33 (0, 0)) := (Below.heap_alloc _ _ _ (by simp)).trans (heap_alloc_new w3 _); have hm4 := (hbx.block w3.heap.size (by simp; omega)).trans hmB; have HNE : Hid (∀ g o, pc = some ⟨g, o, none⟩ → g ≠ w3.heap.size) := (fun g o e => by have h1 := hpc g o e; have h2 := HB3.out.size; simp at h1; omega); have z0 : w4.cell? ⟨w3.heap.size, 0, none⟩ = some (.slice none 0 0) := (by rw [Joins.cell_of_block hm4]; rfl); have z1 : w4.cell? ⟨w3.heap.size, 1, none⟩ = some (.slice none 0 0) := (by rw [Joins.cell_of_block hm4]; rfl); have zf0 : w4.frozen? ⟨w3.heap.size, 0, none⟩ = false := Joins.unfrozen_of_block hm4 _; have zf1 : w4.frozen? ⟨w3.heap.size, 1, none⟩ = false := Joins.unfrozen_of_block hm4 _; have HM := Lib.hid hm4; clear hm4; clear hmB)); have y3 := keep_cell (p := ⟨b1, 0, none⟩) (v := .int .i64 1) hbw y0; have y4 := keep_cell (p := ⟨b1, 1, none⟩) (v := .int .i64 1) hbw y1; have y5 := keep_cell (p := ⟨b1, 2, none⟩) (v := .slice (some ⟨g0, 0, none⟩) 1 1) hbw y2; have HC := Lib.hid hc; have HB4 := Lib.hid (below_then HB3.out hbw (Nat.le_refl _)); clear hc hpc hb4 hbx hbw)
        | (fail))
    all_goals (go_wp2_with fail; go_meet)
    · exact ⟨_, pc, cc, pr, cr, rfl, rfl, heap_alloc_new w4 _, HC.out.below ((Below.refl _ _).alloc (Nat.le_refl _) _), HB4.out.alloc HB4.out.size _⟩
    all_goals
      exact ⟨_, pc, cc, pr, cr, rfl, rfl, Joins.block_setCell (Joins.block_setCell HM.out _) _, (HC.out.other HNE.out _ _).other HNE.out _ _, (HB4.out.setCell (by have := HB3.out.size; simp; try omega) _).setCell (by have := HB3.out.size; simp; try omega) _⟩
  case rest =>
    obtain ⟨b2, pc, cc, pr, cr, rfl, rfl, hm, hc, hb⟩ := hcut
    clear e0 e1 e2
    go_upto_region 4 with (first
      | (go_at_call 27; with_reducible refine (white21 _).mono ?_; rintro e w5 ⟨ga, rfl, hown, hge, hb5⟩; have HA5 := Lib.hid hown; have HB5 := Lib.hid hb5; clear hown hge hb5)
      | (go_at_call 27; with_reducible refine (white11 _).mono ?_; rintro e w6 ⟨gb, rfl, hown, hge, hb6⟩; have HA6 := Lib.hid hown; have HB6 := Lib.hid hb6; clear hown hge hb6)
      | (go_at_call 20; refine (duo20 w6 ga gb (HA5.out.below HB6.out) HA6.out).mono ?_; rintro e w7 ⟨go, co, rfl, ho, hb7⟩))
    have hbc : Below wc.heap.size wc w7 := below_then (below_then HB5.out HB6.out (Nat.le_refl _)) hb7 (Nat.le_refl _)
    have m0 : w7.cell? ⟨b2, 0, none⟩ = some (.slice pc 3 cc) := keep_cell hbc (by rw [Joins.cell_of_block hm.out]; rfl)
    have m1 : w7.cell? ⟨b2, 1, none⟩ = some (.slice pr 2 cr) := keep_cell hbc (by rw [Joins.cell_of_block hm.out]; rfl)
    have HC7 := Lib.hid (hc.out.below hbc)
    have HO7 := Lib.hid ho
    have HB7 := Lib.hid (below_then hb.out hbc (Nat.le_refl _))
    clear hb7 hbc hm hc ho hb HA5 HA6 HB5 HB6
    go_wp2_with (first
      | (go_at_call 22; with_reducible refine (eq010 w7 pc cc HC7.out).mono ?_; rintro e w8 ⟨rfl, hb8⟩; have m2 : w8.cell? ⟨b2, 1, none⟩ = some (.slice pr 2 cr) := keep_cell hb8 m1; have HO8 := Lib.hid (HO7.out.below hb8))
      | (go_at_call 22; with_reducible refine (eq10 w8 (some ⟨go, 0, none⟩) co HO8.out).mono ?_; rintro e w9 ⟨rfl, hb9⟩))
    go_ret
    refine ⟨rfl, ?_⟩
    have h1 := below_then HB7.out (below_then hb8 hb9 (Nat.le_refl _)) (Nat.le_refl _)
    exact below_then (HG.out ▸ HB.out) h1 (Nat.le_refl _)
end Go.Proofs.Ytfniekdohidbiaa
