/- The reference's Order. Conditions: the bounds that each theorem names. -/
import Derived.Test.YtfniekdohidbiaaVd
namespace Go.Proofs.Ytfniekdohidbiaa
open Go.RowKit Go.Bm Go.Sort

/-- by height and width alone -/
def lessB (f g : Bmp) : Bool := decide (f.H < g.H) || (decide (f.H = g.H) && decide (f.W < g.W))
set_option maxHeartbeats 1000000 in
set_option maxRecDepth 100000 in
theorem less38 (f g : Bmp) (w : World) : Calls Try.prog 38 #[.agg #[.int .i64 f.W, .int .i64 f.H, .slice f.a f.n f.cap], .agg #[.int .i64 g.W, .int .i64 g.H, .slice g.a g.n g.cap]] w fun e w' => e = .returned (.bool (lessB f g)) ∧ Below w.heap.size w w' := by
  obtain ⟨t1, t2⟩ := two_cells w #[.int .i64 f.W, .int .i64 f.H, .slice f.a f.n f.cap] #[.int .i64 g.W, .int .i64 g.H, .slice g.a g.n g.cap] 48 48
  have two : Below w.heap.size w ((w.alloc (.cells #[.int .i64 f.W, .int .i64 f.H, .slice f.a f.n f.cap] 48)).alloc (.cells #[.int .i64 g.W, .int .i64 g.H, .slice g.a g.n g.cap] 48)) := ((Below.refl _ _).alloc (Nat.le_refl _) _).alloc (by simp) _
  unfold lessB
  go_enter Try.func38, Try.ntmps38
  go_upto_region 1 with fail
  have b0 : ((w.alloc (.cells #[.int .i64 f.W, .int .i64 f.H, .slice f.a f.n f.cap] 48)).alloc (.cells #[.int .i64 g.W, .int .i64 g.H, .slice g.a g.n g.cap] 48)).cell? ⟨w.heap.size, 0, none⟩ = some (.int .i64 f.W) := t1 0
  have b1 : ((w.alloc (.cells #[.int .i64 f.W, .int .i64 f.H, .slice f.a f.n f.cap] 48)).alloc (.cells #[.int .i64 g.W, .int .i64 g.H, .slice g.a g.n g.cap] 48)).cell? ⟨w.heap.size, 1, none⟩ = some (.int .i64 f.H) := t1 1
  have f0 : ((w.alloc (.cells #[.int .i64 f.W, .int .i64 f.H, .slice f.a f.n f.cap] 48)).alloc (.cells #[.int .i64 g.W, .int .i64 g.H, .slice g.a g.n g.cap] 48)).cell? ⟨w.heap.size + 1, 0, none⟩ = some (.int .i64 g.W) := t2 0
  have f1 : ((w.alloc (.cells #[.int .i64 f.W, .int .i64 f.H, .slice f.a f.n f.cap] 48)).alloc (.cells #[.int .i64 g.W, .int .i64 g.H, .slice g.a g.n g.cap] 48)).cell? ⟨w.heap.size + 1, 1, none⟩ = some (.int .i64 g.H) := t2 1
  have TW := Lib.hid two
  clear t1 t2 two
  obtain ⟨q6, hq6⟩ : ∃ q6, w.heap.size = q6 := ⟨_, rfl⟩
  obtain ⟨q7, hq7⟩ : ∃ q7, w.heap.size + 1 = q7 := ⟨_, rfl⟩
  rw [hq7, hq6]
  rw [hq6] at b0 b1
  rw [hq7] at f0 f1
  have HQ := Lib.hid hq6
  clear hq6 hq7
  generalize ((w.alloc (.cells #[.int .i64 f.W, .int .i64 f.H, .slice f.a f.n f.cap] 48)).alloc (.cells #[.int .i64 g.W, .int .i64 g.H, .slice g.a g.n g.cap] 48)) = X at *
  by_cases hh : f.H < g.H
  · go_wp2_with fail
    go_ret
    exact ⟨by simp [hh], TW.out⟩
  · by_cases he : f.H = g.H
    · rw [he] at b1
      go_wp2_with fail
      go_ret
      exact ⟨by simp, TW.out⟩
    · have hb : (f.H == g.H) = false := by simpa using he
      go_wp2_with fail
      go_ret
      exact ⟨by simp [hh], TW.out⟩
/-- two lists sorted by the order of package match are one -/
theorem Sorted.unique {F : Nat → Bmp} {n : Nat} {l m : List Nat} (h : Sorted F n l) (k : Sorted F n m) : l = m := by
  refine List.Perm.eq_of_pairwise (le := ahead F) (fun a b _ _ h1 h2 => ?_) h.2 k.2 (h.1.trans k.1.symm)
  unfold ahead at h1 h2
  omega
/-- where the next number goes -/
theorem Sorted.insert {F : Nat → Bmp} {i k : Nat} {l : List Nat} (h : Sorted F i l) (hk : k ≤ i) (hlo : 0 < k → lessB (F i) (F l[k - 1]!) = false) (hhi : ∀ j, k ≤ j → j < i → lessB (F i) (F l[j]!) = true) :
    Sorted F (i + 1) (l.take k ++ i :: l.drop k) := by
  have hlen : l.length = i := by rw [h.1.length_eq, List.length_range]
  have hmem : ∀ x ∈ l, x < i := fun x hx => List.mem_range.1 (h.1.mem_iff.1 hx)
  refine ⟨?_, ?_⟩
  · rw [List.range_succ]
    refine List.perm_middle.trans ?_
    rw [List.take_append_drop]
    exact (List.Perm.cons i h.1).trans (List.perm_append_singleton i _).symm
  · have hp := h.2
    rw [← List.take_append_drop k l, List.pairwise_append] at hp
    obtain ⟨p1, p2, p3⟩ := hp
    rw [List.pairwise_append, List.pairwise_cons]
    refine ⟨p1, ⟨fun y hy => ?_, p2⟩, fun x hx y hy => ?_⟩
    · obtain ⟨j, hj, rfl⟩ := List.mem_iff_getElem.1 hy
      rw [List.length_drop] at hj
      rw [List.getElem_drop]
      have h1 := hhi (k + j) (by omega) (by omega)
      rw [getElem!_pos l (k + j) (by omega)] at h1
      unfold lessB at h1
      simp at h1
      unfold ahead
      omega
    · have hx' := hmem x (List.mem_of_mem_take hx)
      rcases List.mem_cons.1 hy with rfl | hy
      · obtain ⟨j, hj, rfl⟩ := List.mem_iff_getElem.1 hx
        rw [List.length_take] at hj
        rw [List.getElem_take] at hx' ⊢
        have h1 := hlo (by omega)
        rw [getElem!_pos l (k - 1) (by omega)] at h1
        have h2 : j = k - 1 ∨ ahead F (l[j]'(by omega)) (l[k - 1]'(by omega)) := by
          by_cases hj2 : j = k - 1
          · exact Or.inl hj2
          · exact Or.inr ((List.pairwise_iff_getElem.1 h.2) j (k - 1) (by omega) (by omega) (by omega))
        have h3 := hmem (l[k - 1]'(by omega)) (List.getElem_mem _)
        unfold lessB at h1
        simp at h1
        rcases h2 with h2 | h2
        · subst h2
          unfold ahead
          omega
        · unfold ahead at h2 ⊢
          omega
      · exact p3 x hx y hy
end Go.Proofs.Ytfniekdohidbiaa
