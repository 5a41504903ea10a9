/- OverInts, EqMatching. Conditions: the bounds that each theorem names. -/
import Derived.Test.YtfniekdohidbiaaXf
namespace Go.Proofs.Ytfniekdohidbiaa
open Go.RowKit Go.Bm
set_option maxRecDepth 100000 in
set_option maxHeartbeats 4000000 in
theorem overints18 (base n : Nat) (v : Value) (xs : List Value) (w : World) (ho : w.ownsRow base 3 1 v n xs) (hn : n ≤ 1048576) (hb : base ≤ w.heap.size) :
    Calls Try.prog 18 #[v] w fun e w' => e = .returned (.tuple #[]) ∧ Below base w w' := by
  obtain ⟨i0, hi, hz0, hz1, hz2⟩ := info_parts infoI
  obtain ⟨p, cap, rfl, hform⟩ := ownsRow_slice ho
  have HF := Lib.hid hform
  have HO := Lib.hid ho
  clear hform ho
  go_enter Try.func18, Try.ntmps18
  go_wp2_with fail
  go_loopw [2] (fun v wr => ∃ i : Nat, i ≤ n ∧ v = .int .i64 i ∧ ∃ ys : List Value, Hid (wr.ownsRow base 3 1 (.slice p n cap) n ys) ∧ Hid (Below base w wr)) (fun v _ => n - (intOf v).toNat)
  case atStart => exact ⟨0, Nat.zero_le _, rfl, xs, HO, Below.refl _ _⟩
  case round =>
    obtain ⟨i, hi1, rfl, ys, hown, hbel⟩ := hrel
    by_cases hlt : i < n
    · obtain ⟨p', cap', e1, hform⟩ := ownsRow_slice hown.out
      simp only [Value.slice.injEq, true_and] at e1
      obtain ⟨rfl, rfl⟩ := e1
      rcases hform with h0 | ⟨g, cur, rfl, hbg, hgl, hnc, hcc, hh, hs, ht⟩
      · omega
      · obtain ⟨u, hu⟩ : ∃ u, cur[i]? = some u := ⟨_, Array.getElem?_eq_getElem (show i < cur.size by omega)⟩
        have dc : wr.cell? ⟨g, i, none⟩ = some u := by rw [Joins.cell_of_block hh]; exact hu
        have df : wr.frozen? ⟨g, i, none⟩ = false := Joins.unfrozen_of_block hh _
        have hset := Joins.block_setCell hh (i := i) (.int .i64 (-99))
        have HN : Hid ((wr.setCell ⟨g, i, none⟩ (.int .i64 (-99))).ownsRow base 3 1 (.slice (some ⟨g, 0, none⟩) n cap) n ((cur.setIfInBounds i (.int .i64 (-99))).toList.take n)) :=
          ⟨by simp; omega, Or.inr ⟨g, cap, _, rfl, hbg, hset, hnc, by unfold maxLen; omega, by simp; omega, by simp⟩⟩
        have HB : Hid (Below base w (wr.setCell ⟨g, i, none⟩ (.int .i64 (-99)))) := hbel.out.setCell hbg _
        clear hh hu hs ht hset hown hbel
        go_wp2_with fail
        go_roundw
        case rel => exact ⟨i + 1, by omega, by go_num, _, HN, HB⟩
        case measure => simp [intOf]; omega
    · obtain rfl : n = i := by omega
      have hb2 : base ≤ wr.heap.size := Nat.le_trans hb hbel.out.size
      go_upto_region 5 with (at_builtin; go_loud (refine wpList_append_own_at _ rfl _ _ 31 rfl base 3 i0 (.int .i64 0) 1 8 Try.underlying31 hi hz0 hz1 hz2 rfl (by omega) (.slice p n cap) n ys rfl (hown.out.alloc _) ⟨wr.heap.size, 0, none⟩ 3 3 [.int .i64 1, .int .i64 2, .int .i64 3] rfl rfl (World.news_of_block (cs := #[.int .i64 1, .int .i64 2, .int .i64 3]) (t := 3) (fr := (0, 0)) (heap_alloc_new wr _)) (by simp [Value.oneCell']) (by unfold maxLen; omega) (by omega) (by simp; omega) ?_; intro v2 w2 hown2 hgrow2 _ _))
      have HB2 := Lib.hid (Below.grown (hbel.out.alloc hb2 _) hgrow2 (Nat.le_trans hb2 (by simp)) (fun z hz => row_ge hown.out z hz))
      obtain ⟨p2, cap2, rfl, hform⟩ := ownsRow_slice hown2
      rcases hform with h0 | ⟨g, cur, rfl, hbg, hgl, hnc, hcc, hh, hs, ht⟩
      · omega
      · obtain ⟨u, hu⟩ : ∃ u, cur[n]? = some u := ⟨_, Array.getElem?_eq_getElem (show n < cur.size by omega)⟩
        have dc : w2.cell? ⟨g, n, none⟩ = some u := by rw [Joins.cell_of_block hh]; exact hu
        have df : w2.frozen? ⟨g, n, none⟩ = false := Joins.unfrozen_of_block hh _
        have hltI : (n : Int) < ((n + 3 : Nat) : Int) := by omega
        have HB : Hid (Below base w (w2.setCell ⟨g, n, none⟩ (.int .i64 (-99)))) := HB2.out.setCell hbg _
        clear hh hu hs ht hgrow2 hown2 hown HB2
        go_wp2_with fail
        go_end0
        exact ⟨rfl, HB.out⟩
set_option maxHeartbeats 1000000 in
set_option maxRecDepth 100000 in
theorem eqmatching16 (a1 : Option Addr) (n1 c1 : Nat) (A : Nat → Int) (p1 : Option Addr) (m1 d1 : Nat) (F : Nat → Bmp) (a2 : Option Addr) (n2 c2 : Nat) (B : Nat → Int) (p2 : Option Addr) (m2 d2 : Nat) (G : Nat → Bmp) (w : World)
    (hA : IsInts w a1 n1 c1 A) (hB : IsInts w a2 n2 c2 B) (hF : IsBms w p1 m1 d1 F) (hG : IsBms w p2 m2 d2 G) (hn : n1 ≤ 9223372036854775807) (h1 : n1 = n2 ∧ ∀ i, i < n1 → A i = B i) (h2 : m1 = m2 ∧ ∀ i, i < m1 → (F i).same (G i)) :
    Calls Try.prog 16 #[.agg #[.slice a1 n1 c1, .slice p1 m1 d1], .agg #[.slice a2 n2 c2, .slice p2 m2 d2]] w fun e w' => e = .returned (.bool true) ∧ Below w.heap.size w w' := by
  obtain ⟨t1, t2⟩ := two_cells w #[.slice a1 n1 c1, .slice p1 m1 d1] #[.slice a2 n2 c2, .slice p2 m2 d2] 33 33
  have two : Below w.heap.size w ((w.alloc (.cells #[.slice a1 n1 c1, .slice p1 m1 d1] 33)).alloc (.cells #[.slice a2 n2 c2, .slice p2 m2 d2] 33)) := ((Below.refl _ _).alloc (Nat.le_refl _) _).alloc (by simp) _
  have HA := Lib.hid (hA.below two)
  have HB := Lib.hid (hB.below two)
  have HF := Lib.hid (hF.below two)
  have HG := Lib.hid (hG.below two)
  have H1 := Lib.hid h1
  have H2 := Lib.hid h2
  have b0 : ((w.alloc (.cells #[.slice a1 n1 c1, .slice p1 m1 d1] 33)).alloc (.cells #[.slice a2 n2 c2, .slice p2 m2 d2] 33)).cell? ⟨w.heap.size, 0, none⟩ = some (.slice a1 n1 c1) := t1 0
  have b1 : ((w.alloc (.cells #[.slice a1 n1 c1, .slice p1 m1 d1] 33)).alloc (.cells #[.slice a2 n2 c2, .slice p2 m2 d2] 33)).cell? ⟨w.heap.size, 1, none⟩ = some (.slice p1 m1 d1) := t1 1
  have f0 : ((w.alloc (.cells #[.slice a1 n1 c1, .slice p1 m1 d1] 33)).alloc (.cells #[.slice a2 n2 c2, .slice p2 m2 d2] 33)).cell? ⟨w.heap.size + 1, 0, none⟩ = some (.slice a2 n2 c2) := t2 0
  have f1 : ((w.alloc (.cells #[.slice a1 n1 c1, .slice p1 m1 d1] 33)).alloc (.cells #[.slice a2 n2 c2, .slice p2 m2 d2] 33)).cell? ⟨w.heap.size + 1, 1, none⟩ = some (.slice p2 m2 d2) := t2 1
  have TW := Lib.hid two
  clear t1 t2 two hA hB hF hG h1 h2
  go_enter Try.func16, Try.ntmps16
  go_upto_region 1 with fail
  obtain ⟨q6, hq6⟩ : ∃ q6, w.heap.size = q6 := ⟨_, rfl⟩
  obtain ⟨q7, hq7⟩ : ∃ q7, w.heap.size + 1 = q7 := ⟨_, rfl⟩
  rw [hq7, hq6]
  rw [hq6] at b0 b1
  rw [hq7] at f0 f1
  have HQ := Lib.hid hq6
  clear hq6 hq7
  generalize ((w.alloc (.cells #[.slice a1 n1 c1, .slice p1 m1 d1] 33)).alloc (.cells #[.slice a2 n2 c2, .slice p2 m2 d2] 33)) = X at *
  go_wp2_with (first
    | (go_at_call 22; refine (eqints22 a1 n1 c1 A a2 n2 c2 B true X HA.out HB.out (by simpa using H1.out) hn).mono ?_; rintro e w3 ⟨rfl, q, rfl⟩; have b1 : (X.drewN q).cell? ⟨q6, 1, none⟩ = some (.slice p1 m1 d1) := b1; have f1 : (X.drewN q).cell? ⟨q7, 1, none⟩ = some (.slice p2 m2 d2) := f1)
    | (go_at_call 19; refine (eqbitmaps19 p1 m1 d1 F p2 m2 d2 G true _ (HF.out.below (below_drewN (Below.refl _ _) _)) (HG.out.below (below_drewN (Below.refl _ _) _)) (by simpa using H2.out)).mono ?_; rintro e w4 ⟨rfl, hb4⟩))
  go_ret
  exact ⟨rfl, below_then (below_drewN TW.out _) hb4 (Nat.le_refl _)⟩
end Go.Proofs.Ytfniekdohidbiaa
