/- MatchMany, walked. No condition. -/
import Derived.Test.YtfniekdohidbiaaXr
import Derived.Test.YtfniekdohidbiaaXu
import Derived.Test.YtfniekdohidbiaaYf
import Derived.Test.YtfniekdohidbiaaYg
import Derived.Test.YtfniekdohidbiaaYh
import Derived.Test.YtfniekdohidbiaaOa
namespace Go.Proofs.Ytfniekdohidbiaa
open Go.RowKit Go.Bm Fl Go.FlW
theorem many_wrap {k : Nat} (hk : k < 4096) : IntKind.u64.wrap ((k : Int) * 4503599627370496) = (k : Int) * 4503599627370496 := by
  have h := many_lt hk
  rw [show (k : Int) * 4503599627370496 = ((k * 4503599627370496 : Nat) : Int) by simp]
  exact IntWalk.u64_in _ ⟨Int.natCast_nonneg _, by omega⟩
def manyAt (g k : Nat) : Bmp := ⟨12, 1, some ⟨g, 0, none⟩, 1, 1, fun _ => k * 4503599627370496⟩
def manyA (k : Nat) : Obj := .cells #[.int .u64 ((k : Int) * 4503599627370496)] 23
theorem many_lie {w : World} {W0 k : Nat} (hk : k < 4096) (hb : W0 ≤ w.heap.size) : Lie ((w.alloc (manyA k)).alloc (.cells (manyAt w.heap.size k).vals 48)) W0 (manyAt w.heap.size k) := by
  refine Or.inr ⟨w.heap.size, rfl, hb, Nat.le_refl _, by show 1 ≤ _; omega, #[.int .u64 ((k : Int) * 4503599627370496)], ?_, fun i hi => ?_⟩
  · rw [Below.heap_alloc _ _ _ (by simp)]
    exact heap_alloc_new w _
  · obtain rfl : i = 0 := by have : i < 1 := hi; omega
    refine ⟨?_, many_lt hk⟩
    show some (Value.int .u64 ((k : Int) * 4503599627370496)) = some (.int .u64 ((k * 4503599627370496 : Nat) : Int))
    simp
theorem many_new (w : World) (k : Nat) : ((w.alloc (manyA k)).alloc (.cells (manyAt w.heap.size k).vals 48)).heap[w.heap.size + 1]? = some (.cells (manyAt w.heap.size k).vals 48 (0, 0)) := by
  have := heap_alloc_new (w.alloc (manyA k)) (.cells (manyAt w.heap.size k).vals 48)
  simpa using this
theorem LieBms.both {w1 w2 : World} {base m : Nat} {v v' : Value} {R : Nat → Bmp} {f : Bmp} (h : LieBms w1 base v m R) (hf : Lie w1 base f) (hg : w1.grownBy w2 v.ownBlock)
    (hown : w2.ownsRow base 48 3 v' (m + 1) (cellsB R m ++ f.vals.toList)) (hkeep : w2.ownsRow base 48 3 v m (cellsB R m)) : LieBms w2 base v' (m + 1) (fun k => if k = m then f else R k) ∧ LieBms w2 base v m R := by
  have h1 := LieBms.snoc h hf hg hown
  refine ⟨h1, hkeep, fun k hk => ?_⟩
  have h2 : Lie w2 base (if k = m then f else R k) := h1.2 k (by omega)
  rwa [if_neg (by omega)] at h2
def whtAt (g : Nat) : Bmp := ⟨1, 1, some ⟨g, 0, none⟩, 1, 1, fun _ => 0⟩
theorem wht_ok (g : Nat) : (whtAt g).ok := by
  show okB 1 1 1 (fun _ => 0)
  unfold okB okS clean
  decide
theorem ext_like {R : Nat → Bmp} {N : Nat} (f : Bmp) (h : ∀ j, j < N → (R j).like (many j)) : ∀ j, j < N → ((fun k => if k = N then f else R k) j).like (many j) := fun j hj => by
  show Bmp.like (if j = N then f else R j) (many j)
  rw [if_neg (by omega)]; exact h j hj
theorem ext_at (R : Nat → Bmp) (N : Nat) (f : Bmp) : (fun k => if k = N then f else R k) N = f := if_pos rfl
theorem many_small {f : Bmp} {j : Nat} (h : f.like (many j)) : f.ok ∧ f.n ≤ 10000 := ⟨h.ok (many_ok j), by rw [h.2.2.1]; show 1 ≤ 10000; omega⟩
/-- as many classes as may be -/
theorem many_first {w : World} {W0 N : Nat} {v : Value} {R : Nat → Bmp} (hN : N = 4096) (h : LieBms w W0 v N R) (hl : ∀ j, j < N → (R j).like (many j)) :
    Calls Try.prog 15 #[v, .float .f64 0] w fun e w2 => ∃ pc cc pr cr, e = .returned (.tuple #[.agg #[.slice pc N cc, .slice pr N cr], .int .i64 0]) ∧ Below w.heap.size w w2 := by
  obtain ⟨p, c, rfl, hb⟩ := h.is
  refine (classes15 p N c 0 R w hb (by omega) tol_facts.1.2.2 (fun i hi => many_small (hl i hi)) (fun i hi _ => many_room (by omega) hi)).mono ?_
  rintro e w2 ⟨pc, cc, pr, cr, R2, rfl, _, _, _, h4⟩
  have e1 : (clsOf R 0 N).2.length = N := by rw [many_cls (by omega) hl]; exact List.length_range
  rw [e1]
  exact ⟨pc, cc, pr, cr, rfl, h4⟩
/-- and one more -/
theorem many_second {w : World} {W0 N : Nat} {v : Value} {R : Nat → Bmp} (g : Nat) (hN : N = 4096) (h : LieBms w W0 v (N + 1) (fun k => if k = N then whtAt g else R k)) (hl : ∀ j, j < N → (R j).like (many j)) :
    Calls Try.prog 15 #[v, .float .f64 0] w fun e w2 => e = .returned (.tuple #[.agg #[.slice none 0 0, .slice none 0 0], .int .i64 120]) ∧ Below w.heap.size w w2 := by
  obtain ⟨p, c, rfl, hb⟩ := h.is
  have hx := ext_like (whtAt g) hl
  have hf := many_full (F := fun k => if k = N then whtAt g else R k) (by omega) hx (by show (if N = N then whtAt g else R N).W = 1; rw [if_pos rfl]; rfl)
  refine classes15_big p (N + 1) c 0 N _ w hb (by omega) tol_facts.1.2.2 (fun i hi => ?_) (Nat.lt_succ_self N) (fun i hi _ => many_room (by omega) hi) hf.1 (by rw [hf.2]; omega)
  by_cases e : i = N
  · subst e
    rw [if_pos rfl]
    exact ⟨wht_ok g, by show 1 ≤ 10000; omega⟩
  · exact many_small (hx i (by omega))
/-- one more that joins -/
theorem many_third {w : World} {W0 N : Nat} {v : Value} {R : Nat → Bmp} (hN : N = 4096) (h : LieBms w W0 v (N + 1) (fun k => if k = N then R 77 else R k)) (hl : ∀ j, j < N → (R j).like (many j)) :
    Calls Try.prog 15 #[v, .float .f64 0] w fun e w2 => ∃ g o cc pr m cr, e = .returned (.tuple #[.agg #[.slice (some ⟨g, o, none⟩) (N + 1) cc, .slice pr m cr], .int .i64 0]) ∧ w2.cell? ⟨g, o + 4096, none⟩ = some (.int .i64 77) ∧ Below w.heap.size w w2 := by
  obtain ⟨p, c, rfl, hb⟩ := h.is
  have hx := ext_like (R 77) hl
  have h77 : 77 < N := by omega
  have hj := many_join (F := fun k => if k = N then R 77 else R k) (q := 77) (by omega) hx h77 (by rw [if_pos rfl]; exact hl 77 h77)
  refine (classes15 p (N + 1) c 0 _ w hb (by omega) tol_facts.1.2.2 (fun i hi => ?_) (fun i hi hn => ?_)).mono ?_
  · by_cases e : i = N
    · subst e
      rw [if_pos rfl]
      exact many_small (hl 77 h77)
    · exact many_small (hx i (by omega))
  · by_cases e : i = N
    · subst e
      rw [hj.1] at hn
      cases hn
    · exact many_room (by omega) (show i < N by omega)
  · rintro e w2 ⟨pc, cc, pr, cr, R2, rfl, h1, _, _, h4⟩
    obtain ⟨q, d, hv, hi⟩ := isInts_of_owns h1
    simp only [Value.slice.injEq, true_and] at hv
    obtain ⟨rfl, rfl⟩ := hv
    rcases hi with h0 | ⟨g, o, rfl, _, _, _, hc⟩
    · omega
    · refine ⟨g, o, cc, pr, _, cr, rfl, ?_, h4⟩
      have h5 : w2.cell? ⟨g, o + N, none⟩ = some (.int .i64 (((clsOf (fun k => if k = N then R 77 else R k) 0 (N + 1)).1[N]! : Nat) : Int)) := hc N (Nat.lt_succ_self N)
      rw [hj.2.1, hN] at h5
      exact h5
set_option maxHeartbeats 4000000 in
set_option maxRecDepth 100000 in
theorem many_walk (w : World) : Calls Try.prog 9 #[] w fun e w' => e = .returned (.bool true) ∧ Below w.heap.size w w' := by
  obtain ⟨i0, hi, hz0, hz1, hz2⟩ := info_parts infoB
  obtain ⟨W0, hW0⟩ : ∃ W0, w.heap.size = W0 := ⟨_, rfl⟩
  obtain ⟨N, hN⟩ : ∃ N, N = 4096 := ⟨_, rfl⟩
  have HN := Lib.hid hN
  rw [hW0]
  have HW0 := Lib.hid hW0
  clear hW0 hN
  go_enter Try.func9, Try.ntmps9
  go_wp2_with fail
  go_loopw [1, 2] (fun v i wr => ∃ k : Nat, k ≤ N ∧ i = .int .i64 k ∧ ∃ R, Hid (LieBms wr W0 v k R) ∧ Hid (∀ j, j < k → (R j).like (many j)) ∧ Hid (Below W0 w wr)) (fun _ i _ => N - (intOf i).toNat)
  case atStart => exact ⟨0, Nat.zero_le _, rfl, many, LieBms.nil _ _ _, fun j hj => by omega, Below.refl _ _⟩
  case round =>
    obtain ⟨k, hk, rfl, R, hlie, hlike, hbel⟩ := hrel
    by_cases hlt : k < N
    · have hk4 : k < 4096 := by have := HN.out; omega
      have hki : (k : Int) < 4096 := by omega
      have hmw := many_wrap hk4
      have hs0 : W0 ≤ wr.heap.size := by have := hbel.out.size; rwa [HW0.out] at this
      have hbA : Below wr.heap.size wr ((wr.alloc (manyA k)).alloc (.cells (manyAt wr.heap.size k).vals 48)) := ((Below.refl _ wr).alloc (Nat.le_refl _) _).alloc (by simp) _
      have HL2 := Lib.hid (hlie.out.below hbA)
      have HF2 := Lib.hid (many_lie hk4 hs0)
      have HB2 := Lib.hid (below_then hbel.out hbA (Nat.le_of_eq HW0.out.symm))
      have HNW := Lib.hid (many_new wr k)
      clear hbA hlie
      go_upto_region 4 with (at_builtin; go_loud (refine wpList_append_own_at _ rfl _ _ 22 rfl W0 48 i0 _ 3 40 Try.underlying22 hi hz0 hz1 hz2 rfl (by decide) u1 k (cellsB R k) rfl HL2.out.1 ⟨wr.heap.size + 1, 0, none⟩ 1 1 (manyAt wr.heap.size k).vals.toList rfl rfl (World.news_of_block (cs := (manyAt wr.heap.size k).vals) (t := 48) (fr := (0, 0)) HNW.out) (cellsB_one (fun _ => manyAt wr.heap.size k) 0) (by unfold maxLen; omega) (by omega) (by simp; omega) ?_; intro v' w4 hown4 hgrow4 _ _))
      have HL4 := Lib.hid (LieBms.snoc HL2.out HF2.out hgrow4 hown4)
      have HB4 := Lib.hid (Below.grown HB2.out hgrow4 (by simp; omega) (fun z hz => row_ge HL2.out.1 z hz))
      clear hown4 hgrow4
      go_wp2_with fail
      go_roundw
      case rel => exact ⟨k + 1, by omega, by go_num, _, HL4, fun j hj => by
        by_cases e : j = k
        · subst e
          show Bmp.like (if j = j then manyAt wr.heap.size j else R j) (many j)
          rw [if_pos rfl]; exact ⟨rfl, rfl, rfl, rfl⟩
        · show Bmp.like (if j = k then manyAt wr.heap.size k else R j) (many j)
          rw [if_neg e]; exact hlike.out j (by omega), HB4⟩
      case measure => simp [intOf]; omega
    · obtain rfl : N = k := by omega
      have hN4 := HN.out
      have hki : ¬ (N : Int) < 4096 := by omega
      obtain ⟨G, cp, rfl, hG1, hG2, _, _, hGc⟩ := hlie.out.cells (by omega)
      have HF1 := Lib.hid (many_first hN4 hlie.out hlike.out)
      have HLI := Lib.hid hlike.out
      have hs0 : W0 ≤ wr.heap.size := by have := hbel.out.size; rwa [HW0.out] at this
      have hN5 : N ≤ 4096 := by omega
      clear hN4 hGc hG1 hG2 hlike
      go_upto_region 7 with (go_at_call 15; refine HF1.out.mono ?_; rintro e w3 ⟨pc, cc, pr, cr, rfl, hb3⟩)
      have hb4 : Below w3.heap.size w3 (w3.alloc (.cells #[.slice pc N cc, .slice pr N cr] 33)) := (Below.refl _ _).alloc (Nat.le_refl _) _
      have hk4 : (w3.alloc (.cells #[.slice pc N cc, .slice pr N cr] 33)).heap[w3.heap.size]? = some (.cells #[.slice pc N cc, .slice pr N cr] 33 (0, 0)) := heap_alloc_new w3 _
      have hb34 := below_then hb3 hb4 (Nat.le_refl _)
      have HL4 := Lib.hid (hlie.out.below hb34)
      have HB4 := Lib.hid (below_then hbel.out hb34 (Nat.le_of_eq HW0.out.symm))
      have hs4 := Nat.le_trans hs0 hb34.size
      obtain ⟨b3, hb3e⟩ : ∃ b3, w3.heap.size = b3 := ⟨_, rfl⟩
      rw [hb3e] at hk4 ⊢
      have K4 := Lib.hid hk4
      clear hk4 hb4 hb34 hb3 hb3e hlie hbel HF1 hs0
      generalize w3.alloc (.cells #[.slice pc N cc, .slice pr N cr] 33) = w4 at *
      have d1 : w4.cell? ⟨b3, 1, none⟩ = some (.slice pr N cr) := by rw [Joins.cell_of_block K4.out]; rfl
      go_upto_region 8 with (first
        | (go_at_call 27; refine (white11 _).mono ?_; rintro e w5 ⟨ga, rfl, hown, hge, hb5⟩; have hb5a : Below w4.heap.size w4 (w5.alloc (.cells (whtAt ga).vals 48)) := below_then hb5 ((Below.refl _ _).alloc (Nat.le_refl _) _) (Nat.le_refl _); have HLA := Lib.hid (HL4.out.below hb5a); have HFA : Hid (Lie (w5.alloc (.cells (whtAt ga).vals 48)) W0 (whtAt ga)) := (by refine Or.inr ⟨ga, rfl, Nat.le_trans hs4 hge, Nat.le_refl _, ?_, ?_⟩; (show 1 ≤ 9223372036854775807; omega); exact IsOwn.below hown ((Below.refl _ _).alloc (Nat.le_refl _) _)); have HB5 := Lib.hid hb5a; have hs5 : W0 ≤ w5.heap.size := Nat.le_trans hs4 hb5.size; clear hown hge hb5 hb5a)
        | (at_builtin; go_loud (refine wpList_append_keep3 rfl _ _ 22 rfl W0 48 i0 _ 40 Try.underlying22 hi hz0 hz1 hz2 (by decide) (.slice (some ⟨G, 0, none⟩) N cp) N (cellsB R N) rfl HLA.out.1 ⟨w5.heap.size, 0, none⟩ 1 1 (whtAt ga).vals.toList rfl rfl (World.news_of_block (cs := (whtAt ga).vals) (t := 48) (fr := (0, 0)) (heap_alloc_new w5 _)) (cellsB_one (fun _ => whtAt ga) 0) (by unfold maxLen; omega) (by omega) (by simp; omega) ?_; intro v6 w6 hown6 hkeep6 hgrow6 _; have hbo := LieBms.both HLA.out HFA.out hgrow6 hown6 hkeep6; have HL6 := Lib.hid hbo.1; have HL6o := Lib.hid hbo.2; have HB6 := Lib.hid (Below.grown (below_then HB4.out HB5.out (Nat.le_of_eq HW0.out.symm)) hgrow6 (by simp; omega) (fun z hz => row_ge HLA.out.1 z hz)); have hg6 := hgrow6.size; obtain ⟨G6, c6, rfl, _⟩ := HL6.out.cells (by omega); clear hown6 hkeep6 hbo))
        | (go_at_call 15; refine (many_second ga HN.out HL6.out HLI.out).mono ?_; rintro e w7 ⟨rfl, hb7⟩))
      have hb8 : Below w7.heap.size w7 (w7.alloc (.cells #[.slice none 0 0, .slice none 0 0] 33)) := (Below.refl _ _).alloc (Nat.le_refl _) _
      have hb78 := below_then hb7 hb8 (Nat.le_refl _)
      have HL8 := Lib.hid (HL6o.out.below hb78)
      have HB8 := Lib.hid (below_then HB6.out hb78 (Nat.le_of_eq HW0.out.symm))
      have hs8 : W0 ≤ (w7.alloc (.cells #[.slice none 0 0, .slice none 0 0] 33)).heap.size := by have := HB8.out.size; rwa [HW0.out] at this
      have hnb : some b3 ≠ (Value.slice (some ⟨G, 0, none⟩) N cp).ownBlock := by
        intro h
        obtain ⟨cur, hc⟩ := ownsRow_type HLA.out.1 h.symm
        rw [HB5.out.block _ (World.block_lt_of_cell? w4 ⟨b3, 1, none⟩ d1), K4.out] at hc
        simp at hc
      have hna := hnb
      have d1 := keep_cell HB5.out d1
      have d1 := grown_cell hgrow6 hnb d1
      have d1 := keep_cell hb78 d1
      clear hb7 hb8 hb78 HL6 HL6o HB6 HB5 HB4 HLA HFA HL4 K4 hs5 hs4 hgrow6 hg6 hnb
      generalize w7.alloc (.cells #[.slice none 0 0, .slice none 0 0] 33) = w8 at *
      obtain ⟨G', cp', hGe, _, _, _, _, hGc⟩ := HL8.out.cells (show 0 < N by omega)
      obtain ⟨rfl, rfl⟩ : G = G' ∧ cp = cp' := by simpa using hGe
      have hN4 := HN.out
      have h77 : (77 : Int) < (N : Int) := by omega
      have h77n : 77 < N := by omega
      clear hN4
      have q0 : w8.cell? ⟨G, 231, none⟩ = some (.int .i64 (R 77).W) := (hGc 77 h77n).1
      have q1 : w8.cell? ⟨G, 232, none⟩ = some (.int .i64 (R 77).H) := (hGc 77 h77n).2.1
      have q2 : w8.cell? ⟨G, 233, none⟩ = some (.slice (R 77).a (R 77).n (R 77).cap) := (hGc 77 h77n).2.2
      have HF8 := Lib.hid (HL8.out.2 77 h77n)
      clear hGc hGe
      have hbA : Below w8.heap.size w8 (w8.alloc (.cells (R 77).vals 48)) := (Below.refl _ _).alloc (Nat.le_refl _) _
      have HLA := Lib.hid (HL8.out.below hbA)
      have HFA := Lib.hid (HF8.out.below hbA)
      have HBA := Lib.hid (below_then HB8.out hbA (Nat.le_of_eq HW0.out.symm))
      have D1 := Lib.hid (keep_cell hbA d1)
      clear d1 hbA
      go_upto_region 9 with (first
        | (at_builtin; go_loud (refine wpList_append_keep3 rfl _ _ 22 rfl W0 48 i0 _ 40 Try.underlying22 hi hz0 hz1 hz2 (by decide) (.slice (some ⟨G, 0, none⟩) N cp) N (cellsB R N) rfl HLA.out.1 ⟨w8.heap.size, 0, none⟩ 1 1 (R 77).vals.toList rfl rfl (World.news_of_block (cs := (R 77).vals) (t := 48) (fr := (0, 0)) (heap_alloc_new w8 _)) (cellsB_one (fun _ => R 77) 0) (by unfold maxLen; omega) (by omega) (by simp; omega) ?_; intro v9 w9 hown9 hkeep9 hgrow9 _; have hbo := LieBms.both HLA.out HFA.out hgrow9 hown9 hkeep9; have HL9 := Lib.hid hbo.1; have HB9 := Lib.hid (Below.grown HBA.out hgrow9 (by simp; omega) (fun z hz => row_ge HLA.out.1 z hz)); have d1 := grown_cell hgrow9 hna D1.out; obtain ⟨G9, c9, rfl, _⟩ := HL9.out.cells (by omega); clear hown9 hkeep9 hbo hgrow9))
        | (go_at_call 15; refine (many_third HN.out HL9.out HLI.out).mono ?_; rintro e w10 ⟨gc, oc, c10, pr10, m10, cr10, rfl, hc10, hb10⟩))
      have hb11 : Below w10.heap.size w10 (w10.alloc (.cells #[.slice (some ⟨gc, oc, none⟩) (N + 1) c10, .slice pr10 m10 cr10] 33)) := (Below.refl _ _).alloc (Nat.le_refl _) _
      have hk11 : (w10.alloc (.cells #[.slice (some ⟨gc, oc, none⟩) (N + 1) c10, .slice pr10 m10 cr10] 33)).heap[w10.heap.size]? = some (.cells #[.slice (some ⟨gc, oc, none⟩) (N + 1) c10, .slice pr10 m10 cr10] 33 (0, 0)) := heap_alloc_new w10 _
      have hb1011 := below_then hb10 hb11 (Nat.le_refl _)
      have HB11 := Lib.hid (below_then HB9.out hb1011 (Nat.le_of_eq HW0.out.symm))
      have d1 := keep_cell hb1011 d1
      have hc11 := keep_cell hb11 hc10
      obtain ⟨b11, hb11e⟩ : ∃ b, w10.heap.size = b := ⟨_, rfl⟩
      rw [hb11e] at hk11 ⊢
      have K11 := Lib.hid hk11
      clear hk11 hb11 hb1011 hb10 hc10 hb11e hna q0 q1 q2 HL9 HB9 HB8 HL8 HF8 HFA HLA HBA D1
      generalize w10.alloc (.cells #[.slice (some ⟨gc, oc, none⟩) (N + 1) c10, .slice pr10 m10 cr10] 33) = w11 at *
      have f0 : w11.cell? ⟨b11, 0, none⟩ = some (.slice (some ⟨gc, oc, none⟩) (N + 1) c10) := by rw [Joins.cell_of_block K11.out]; rfl
      have hN4 := HN.out
      have hn1 : ((N : Int) == 4096) = true := by simp; omega
      have hn2 : ((N : Int) + 1 == 4097) = true := by simp; omega
      have hn2' : (((N + 1 : Nat) : Int) == 4097) = true := by simp; omega
      have hn3 : (4096 : Int) < (N : Int) + 1 := by omega
      have hn3' : (4096 : Int) < ((N + 1 : Nat) : Int) := by omega
      clear hN4
      go_wp2_with (go_at_call 11; refine (wakes11 _).mono ?_; rintro e w12 ⟨rfl, hb12⟩)
      go_ret
      exact ⟨rfl, below_then HB11.out hb12 (Nat.le_of_eq HW0.out.symm)⟩
end Go.Proofs.Ytfniekdohidbiaa
