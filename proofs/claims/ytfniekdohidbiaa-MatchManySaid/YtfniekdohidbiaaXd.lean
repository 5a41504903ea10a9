/- Bitmaps copied: CopyBitmap, copied. Conditions: the bounds that each theorem names. -/
import Derived.Test.YtfniekdohidbiaaXc
import Derived.BigQuiet
namespace Go.Proofs.Ytfniekdohidbiaa
open Go.RowKit Go.Bm

theorem append_empty (ty : TypeId) (a : Option Addr) (cap : Nat) (w : World) : (Builtin.append_ #[46, 46] ty #[.slice none 0 0, .slice a 0 cap]).run Try.prog w = .ok (.slice none 0 0) w := by
  obtain ⟨i0, hi, hz0, hz1, hz2⟩ := info_parts infoW
  cases a <;> simp [Builtin.append_, run_underlying Try.underlying46, sizeOf, typeInfo, hi, Builtin.lenOf, Builtin.firstCells, loadCells, loadCellsFrom]
theorem step_append_empty {ops : Array Oper} {o : Oper} {a : Act} {w : World} {K : Act → World → Prop} {Q : Exit → Act → World → Prop} {E : Prop} (hgd : o.guard = none) (s x : Operand)
    (ho : o.op = .call { callee := .builtin .append, args := #[s, x], argTypes := #[46, 46] }) (hs : a.eval s = .slice none 0 0) (p : Option Addr) (cap : Nat) (hx : a.eval x = .slice p 0 cap)
    (h : K (a.put o.dst (.slice none 0 0)) w) : if Region.wanted o (yielded ops a.tmps) = true then Oper.wp Try.prog o a w K Q else E := by
  have hw : Region.wanted o (yielded ops a.tmps) = true := by simp [Region.wanted, hgd]
  rw [if_pos hw]
  unfold Oper.wp execOp
  simp only [ho, resolve, invoke, builtin, Sem.run_bind, Sem.run_pure, Result.andThen_ok, List.map_toArray, List.map_cons, List.map_nil, hs, hx, append_empty]
  exact h
theorem copy_block (w : World) (A : Array Value) (t : TypeId) (w1 : World)
    (h : ((w.alloc (.cells A t)).alloc (.cells #[.int .i64 0, .int .i64 0, .slice none 0 0] 48)).drew.grownBy w1 (Value.slice none 0 0).ownBlock) :
    w1.cell? ⟨w.heap.size + 1, 0, none⟩ = some (.int .i64 0) ∧ w1.cell? ⟨w.heap.size + 1, 1, none⟩ = some (.int .i64 0) ∧ w1.cell? ⟨w.heap.size + 1, 2, none⟩ = some (.slice none 0 0) ∧
      w1.frozen? ⟨w.heap.size + 1, 0, none⟩ = false ∧ w1.frozen? ⟨w.heap.size + 1, 1, none⟩ = false ∧ w1.frozen? ⟨w.heap.size + 1, 2, none⟩ = false := by
  have hb : w1.heap[w.heap.size + 1]? = some (.cells #[.int .i64 0, .int .i64 0, .slice none 0 0] 48 (0, 0)) := by
    have h1 := h.block (w.heap.size + 1) (by simp) (by simp [Value.ownBlock])
    rw [h1]
    show ((w.alloc (.cells A t)).alloc (.cells #[.int .i64 0, .int .i64 0, .slice none 0 0] 48)).heap[w.heap.size + 1]? = _
    have h2 := heap_alloc_new (w.alloc (.cells A t)) (.cells #[.int .i64 0, .int .i64 0, .slice none 0 0] 48)
    simpa using h2
  exact ⟨Joins.cell_of_block hb 0, Joins.cell_of_block hb 1, Joins.cell_of_block hb 2, Joins.unfrozen_of_block hb 0, Joins.unfrozen_of_block hb 1, Joins.unfrozen_of_block hb 2⟩

set_option maxRecDepth 100000 in
set_option maxHeartbeats 2000000 in
theorem copy0 (W H : Int) (a : Option Addr) (n cap : Nat) (B : Nat → Nat) (w : World) (hB : IsWords w a n cap B) (h0 : 0 < n) (hn : n ≤ 17179869184) :
    Calls Try.prog 28 #[.agg #[.int .i64 W, .int .i64 H, .slice a n cap]] w fun e w' => ∃ g c, e = .returned (.agg #[.int .i64 W, .int .i64 H, .slice (some ⟨g, 0, none⟩) n c]) ∧ n ≤ c ∧ c ≤ 9223372036854775807 ∧ IsOwn w' g n B ∧ w.heap.size ≤ g ∧ Below w.heap.size w w' := by
  rcases hB with h | ⟨b, off, rfl, hnc, hcap, hbs, hcell⟩
  · omega
  · obtain ⟨i0, hi, hz0, hz1, hz2⟩ := info_parts infoW
    have hnew : ∀ (w1 : World), Below w.heap.size w w1 → ∀ j u, (wvals B n)[j]? = some u → w1.cell? ((⟨b, off, none⟩ : Addr).add j) = some u := by
      intro w1 hb j u hj
      have hjn : j < n := by
        have := (List.getElem?_eq_some_iff.1 hj).1
        rwa [wvals_length] at this
      rw [wvals_get _ _ _ hjn] at hj
      cases hj
      have ea : (⟨b, off, none⟩ : Addr).add j = ⟨b, off + j, none⟩ := by simp only [Addr.add]; split <;> simp_all
      rw [ea]
      exact (hb.cell (p := ⟨b, off + j, none⟩) hbs).trans (hcell j hjn).1
    have hBl : ∀ i, i < n → B i < 2 ^ 64 := fun i hi => (hcell i hi).2
    have HN := Lib.hid hnew
    have HBl := Lib.hid hBl
    clear hcell hnew hBl
    go_enter Try.func28, Try.ntmps28
    go_upto_region 2 with fail
    have two : Below w.heap.size w ((w.alloc (.cells #[.int .i64 W, .int .i64 H, .slice (some ⟨b, off, none⟩) n cap] 48)).alloc (.cells #[.int .i64 0, .int .i64 0, .slice none 0 0] 48)) := ((Below.refl _ _).alloc (Nat.le_refl _) _).alloc (by simp) _
    go_region_held3 (fun w' => w'.cell? ⟨w.heap.size, 0, none⟩ = some (.int .i64 W) ∧ w'.cell? ⟨w.heap.size, 1, none⟩ = some (.int .i64 H) ∧ w'.cell? ⟨w.heap.size, 2, none⟩ = some (.slice (some ⟨b, off, none⟩) n cap))
      (first
        | go_keep
        | (go_split_ands
           refine ⟨?_, ?_, ?_⟩ <;> (rw [hgrow.cell_far _ (by simp; omega) (by simp [Value.ownBlock])]; assumption)))
      ((refine step_append_lies _ (by rfl) _ _ _ (by rfl) (w.heap.size + 2) 23 i0 _ 1 8 Try.underlying46 hi hz0 hz1 hz2 rfl (by omega) (.slice none 0 0) 0 [] (by rfl) (World.ownsRow_nil _ _ _ _) ⟨b, off, none⟩ n cap (wvals B n) (by rfl) (by rw [wvals_length, Nat.mul_one]) (HN.out _ (by first | exact two | exact Below.drew two)) (by intro u hu; unfold wvals at hu; simp at hu; obtain ⟨i, _, rfl⟩ := hu; rfl) h0 (by unfold maxLen; omega) (by omega) (by simp) (w.heap.size + 2) (by simp) ?_; intro gg cap2 w1 hown1 hgrow hat hlt; have KB := (copy_block w _ _ _ hgrow); have k0 := KB.1; have k1 := KB.2.1; have k2 := KB.2.2.1; have f0 := KB.2.2.2.1; have f1 := KB.2.2.2.2.1; have f2 := KB.2.2.2.2.2; clear KB))
    simp only [Nat.zero_add, List.nil_append] at hown1
    have hgg : gg = w.heap.size + 2 := by
      rcases hat with h | h
      · simp [Value.ownBlock] at h
      · exact h
    obtain ⟨_, hform⟩ := hown1
    rcases hform with ⟨hx, _⟩ | ⟨g', cap', cur, hx, _, hh, hnn, hcc, _, ht⟩
    · cases hx
    · cases hx
      have hcm : cap2 ≤ 9223372036854775807 := by unfold maxLen at hcc; exact hcc
      have hcur : ∀ i, i < n → cur[i]? = some (.int .u64 (B i : Nat)) := by
        intro i hi
        have e2 : cur.toList[i]? = (wvals B n)[i]? := by rw [← ht, List.getElem?_take, if_pos (by omega)]
        rw [← Array.getElem?_toList, e2, wvals_get _ _ _ hi]
      have hb1 : Below w.heap.size w w1 := (two.drew).grown hgrow (by simp; omega) (fun q hq => by simp [Value.ownBlock] at hq)
      have HH := Lib.hid hh
      have HC := Lib.hid hcur
      have HB1 := Lib.hid hb1
      have HCM := Lib.hid hcm
      have HCN := Lib.hid hnn
      have HGG := Lib.hid hgg
      clear hh hcur hb1 hcm hnn hgg hcc ht two hgrow hat hcap hn
      go_wp2
      refine bodyPost_ret (v := .agg #[.int .i64 W, .int .i64 H, .slice (some ⟨gg, 0, none⟩) n cap2]) (by simp [results, Try.results28, go_sem, k0, k1, k2]) rfl ⟨gg, cap2, rfl, HCN.out, HCM.out, ?_, ?_, ?_⟩
      · refine ⟨cur, ?_, fun i hi => ⟨HC.out i hi, HBl.out i hi⟩⟩
        have hne : gg ≠ w.heap.size + 1 := by have := HGG.out; omega
        rw [Below.heap_setCell _ _ _ _ (by simpa using hne), Below.heap_setCell _ _ _ _ (by simpa using hne), Below.heap_setCell _ _ _ _ (by simpa using hne)]
        exact HH.out
      · have := HGG.out; omega
      · exact ((HB1.out.setCell (Nat.le_succ _) _).setCell (Nat.le_succ _) _).setCell (Nat.le_succ _) _

/-- a bitmap whose words lie in a block of the call's own -/
def Lie (w : World) (base : Nat) (f : Bmp) : Prop := f.n = 0 ∨ ∃ g, f.a = some ⟨g, 0, none⟩ ∧ base ≤ g ∧ f.n ≤ f.cap ∧ f.cap ≤ 9223372036854775807 ∧ IsOwn w g f.n f.B
/-- alike, wherever they lie -/
def Bmp.like (f g : Bmp) : Prop := f.W = g.W ∧ f.H = g.H ∧ f.n = g.n ∧ f.B = g.B
set_option maxRecDepth 100000 in
set_option maxHeartbeats 2000000 in
theorem copy28_empty (W H : Int) (a : Option Addr) (cap : Nat) (w : World) :
    Calls Try.prog 28 #[.agg #[.int .i64 W, .int .i64 H, .slice a 0 cap]] w fun e w' => e = .returned (.agg #[.int .i64 W, .int .i64 H, .slice none 0 0]) ∧ Below w.heap.size w w' := by
  go_enter Try.func28, Try.ntmps28
  go_upto_region 2 with fail
  have two : Below w.heap.size w ((w.alloc (.cells #[.int .i64 W, .int .i64 H, .slice a 0 cap] 48)).alloc (.cells #[.int .i64 0, .int .i64 0, .slice none 0 0] 48)) := ((Below.refl _ _).alloc (Nat.le_refl _) _).alloc (by simp) _
  go_region_held3 (fun w' => w'.cell? ⟨w.heap.size, 0, none⟩ = some (.int .i64 W) ∧ w'.cell? ⟨w.heap.size, 1, none⟩ = some (.int .i64 H) ∧ w'.cell? ⟨w.heap.size, 2, none⟩ = some (.slice a 0 cap))
    (go_keep) ((refine step_append_empty (by rfl) _ _ (by rfl) (by rfl) a cap (by rfl) ?_))
  go_wp2
  refine bodyPost_ret (v := .agg #[.int .i64 W, .int .i64 H, .slice none 0 0]) (by simp [results, Try.results28, go_sem]) rfl ⟨rfl, ?_⟩
  exact (((Below.refl _ _).alloc (Nat.le_refl _) _).alloc (by simp) _).drew
theorem copy28 (f : Bmp) (w : World) (hB : IsWords w f.a f.n f.cap f.B) (hn : f.n ≤ 17179869184) :
    Calls Try.prog 28 #[.agg #[.int .i64 f.W, .int .i64 f.H, .slice f.a f.n f.cap]] w fun e w' => ∃ g : Bmp, e = .returned (.agg #[.int .i64 g.W, .int .i64 g.H, .slice g.a g.n g.cap]) ∧ g.like f ∧ Lie w' w.heap.size g ∧ Below w.heap.size w w' := by
  by_cases h0 : f.n = 0
  · rw [h0]
    refine (copy28_empty f.W f.H f.a f.cap w).mono ?_
    rintro e w' ⟨rfl, hb⟩
    exact ⟨⟨f.W, f.H, none, 0, 0, f.B⟩, rfl, ⟨rfl, rfl, h0.symm, rfl⟩, Or.inl rfl, hb⟩
  · refine (copy0 f.W f.H f.a f.n f.cap f.B w hB (by omega) hn).mono ?_
    rintro e w' ⟨g, c, rfl, h1, h2, h3, h4, h5⟩
    exact ⟨⟨f.W, f.H, some ⟨g, 0, none⟩, f.n, c, f.B⟩, rfl, ⟨rfl, rfl, rfl, rfl⟩, Or.inr ⟨g, rfl, h4, h1, h2, h3⟩, h5⟩
set_option maxRecDepth 100000 in
set_option maxHeartbeats 2000000 in
theorem copied35 (f : Bmp) (w : World) (hB : IsWords w f.a f.n f.cap f.B) (h0 : 0 < f.n) (hn : f.n ≤ 17179869184) :
    Calls Try.prog 35 #[.agg #[.int .i64 f.W, .int .i64 f.H, .slice f.a f.n f.cap]] w fun e w' => ∃ g : Bmp, e = .returned (.agg #[.int .i64 g.W, .int .i64 g.H, .slice g.a g.n g.cap]) ∧ g.like f ∧ OwnBits w' w.heap.size g ∧ Below w.heap.size w w' := by
  obtain ⟨W, H, a, n, cap, B⟩ := f
  simp only at hB h0 hn ⊢
  have two : Below w.heap.size w ((w.alloc (.cells #[.int .i64 W, .int .i64 H, .slice a n cap] 48)).alloc (.cells #[.int .i64 0, .int .i64 0, .slice none 0 0] 48)) := ((Below.refl _ _).alloc (Nat.le_refl _) _).alloc (by simp) _
  have HB := Lib.hid (hB.below two)
  have HN := Lib.hid hB.lt
  have hq1 : ((w.alloc (.cells #[.int .i64 W, .int .i64 H, .slice a n cap] 48)).alloc (.cells #[.int .i64 0, .int .i64 0, .slice none 0 0] 48)).heap[w.heap.size]? = some (.cells #[.int .i64 W, .int .i64 H, .slice a n cap] 48 (0, 0)) := by
    rw [Below.heap_alloc _ _ _ (by simp)]
    exact heap_alloc_new w _
  have hq2 : ((w.alloc (.cells #[.int .i64 W, .int .i64 H, .slice a n cap] 48)).alloc (.cells #[.int .i64 0, .int .i64 0, .slice none 0 0] 48)).heap[w.heap.size + 1]? = some (.cells #[.int .i64 0, .int .i64 0, .slice none 0 0] 48 (0, 0)) := by
    have := heap_alloc_new (w.alloc (.cells #[.int .i64 W, .int .i64 H, .slice a n cap] 48)) (.cells #[.int .i64 0, .int .i64 0, .slice none 0 0] 48)
    simpa using this
  have hqs : ((w.alloc (.cells #[.int .i64 W, .int .i64 H, .slice a n cap] 48)).alloc (.cells #[.int .i64 0, .int .i64 0, .slice none 0 0] 48)).heap.size = w.heap.size + 2 := by simp
  have TW := Lib.hid two
  have HQ1 := Lib.hid hq1
  have HQ2 := Lib.hid hq2
  have HQS := Lib.hid hqs
  clear two hB hq1 hq2 hqs
  go_enter Try.func35, Try.ntmps35
  go_upto_region 1 with fail
  obtain ⟨q6, hq6⟩ : ∃ q6, w.heap.size = q6 := ⟨_, rfl⟩
  rw [hq6] at HQ1 HQ2 HQS ⊢
  have HQ := Lib.hid hq6
  clear hq6
  generalize ((w.alloc (.cells #[.int .i64 W, .int .i64 H, .slice a n cap] 48)).alloc (.cells #[.int .i64 0, .int .i64 0, .slice none 0 0] 48)) = X at *
  have b2 : X.cell? ⟨q6, 2, none⟩ = some (.slice a n cap) := by rw [Joins.cell_of_block HQ1.out]; rfl
  have hqs := HQS.out
  go_upto_region 2 with (go_at_call 50; refine (clone0 a n cap B X HB.out h0 hn).mono ?_; rintro e w3 ⟨v, rfl, hown, hb3⟩; obtain ⟨c, cap', rfl, hform⟩ := ownsRow_slice hown; clear hform; have hb1 := (hb3.block q6 (by omega)).trans HQ1.out; have hb2 := (hb3.block (q6 + 1) (by omega)).trans HQ2.out; have k2 : w3.cell? ⟨q6, 2, none⟩ = some (.slice a n cap) := (by rw [Joins.cell_of_block hb1]; rfl); have f2 : w3.frozen? ⟨q6, 2, none⟩ = false := Joins.unfrozen_of_block hb1 _)
  have hc1 : (w3.setCell ⟨q6, 2, none⟩ (.slice c n cap')).heap[q6]? = some (.cells #[.int .i64 W, .int .i64 H, .slice c n cap'] 48 (0, 0)) := Joins.block_setCell hb1 _
  have hc2 : (w3.setCell ⟨q6, 2, none⟩ (.slice c n cap')).heap[q6 + 1]? = some (.cells #[.int .i64 0, .int .i64 0, .slice none 0 0] 48 (0, 0)) := (Below.heap_setCell _ _ _ _ (by simp)).trans hb2
  have HOWN := Lib.hid (hown.kept (grown_setCell w3 ⟨q6, 2, none⟩ (.slice c n cap')) (ownsRow_block_ne hown (by have := HQS.out; simp only; omega)))
  have HB3 := Lib.hid (below_then TW.out hb3 (by have := HQS.out; have := HQ.out; omega))
  have HB4 := Lib.hid (show Below w.heap.size w (w3.setCell ⟨q6, 2, none⟩ (.slice c n cap')) from HB3.out.setCell (by show w.heap.size ≤ q6; have := HQ.out; omega) _)
  clear hown hb3 hb1 hb2 k2 f2 b2
  generalize w3.setCell ⟨q6, 2, none⟩ (.slice c n cap') = w4 at *
  have m0 : w4.cell? ⟨q6, 0, none⟩ = some (.int .i64 W) := by rw [Joins.cell_of_block hc1]; rfl
  have m1 : w4.cell? ⟨q6, 1, none⟩ = some (.int .i64 H) := by rw [Joins.cell_of_block hc1]; rfl
  have m2 : w4.cell? ⟨q6, 2, none⟩ = some (.slice c n cap') := by rw [Joins.cell_of_block hc1]; rfl
  have n0 : w4.cell? ⟨q6 + 1, 0, none⟩ = some (.int .i64 0) := by rw [Joins.cell_of_block hc2]; rfl
  have n1 : w4.cell? ⟨q6 + 1, 1, none⟩ = some (.int .i64 0) := by rw [Joins.cell_of_block hc2]; rfl
  have n2 : w4.cell? ⟨q6 + 1, 2, none⟩ = some (.slice none 0 0) := by rw [Joins.cell_of_block hc2]; rfl
  have f0 : w4.frozen? ⟨q6 + 1, 0, none⟩ = false := Joins.unfrozen_of_block hc2 _
  have f1 : w4.frozen? ⟨q6 + 1, 1, none⟩ = false := Joins.unfrozen_of_block hc2 _
  have f2 : w4.frozen? ⟨q6 + 1, 2, none⟩ = false := Joins.unfrozen_of_block hc2 _
  clear hc1 hc2
  go_wp2
  refine bodyPost_ret (v := .agg #[.int .i64 W, .int .i64 H, .slice c n cap']) (by simp [results, Try.results35, go_sem, n0, n1, n2]) rfl ⟨⟨W, H, c, n, cap', B⟩, rfl, ⟨rfl, rfl, rfl, rfl⟩, ⟨h0, ?_, HN.out⟩, ?_⟩
  · have hg : ∀ (w5 : World) (j : Nat) (u : Value), w5.ownsRow X.heap.size 23 1 (.slice c n cap') n (wvals B n) → (w5.setCell ⟨q6 + 1, j, none⟩ u).ownsRow X.heap.size 23 1 (.slice c n cap') n (wvals B n) := fun w5 j u h =>
      h.kept (grown_setCell w5 ⟨q6 + 1, j, none⟩ u) (ownsRow_block_ne h (by have := HQS.out; simp only; omega))
    exact row_base (hg _ _ _ (hg _ _ _ (hg _ _ _ HOWN.out))) (by have := HQS.out; have := HQ.out; omega)
  · have hge : w.heap.size ≤ q6 + 1 := by have := HQ.out; omega
    exact ((HB4.out.setCell hge _).setCell hge _).setCell hge _
end Go.Proofs.Ytfniekdohidbiaa
