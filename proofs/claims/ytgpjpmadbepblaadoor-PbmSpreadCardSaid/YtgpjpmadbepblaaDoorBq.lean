/- Bitmaps that are lent, with marks behind them, and taken back; Small at one bitmap. Conditions: the bounds that each theorem names. -/
import Derived.Test.YtgpjpmadbepblaaDoorBo
namespace Go.Bm
/-- words with the marks behind them -/
def lendB (B : Nat → Nat) (n : Nat) : Nat → Nat := fun i => if i < n then B i else 42405
theorem lendB_lt {B : Nat → Nat} {n : Nat} (h : ∀ i, i < n → B i < 2 ^ 64) (i : Nat) : lendB B n i < 2 ^ 64 := by
  unfold lendB; split
  · exact h i (by assumption)
  · decide
end Go.Bm
namespace Go.Proofs.YtgpjpmadbepblaaDoor
open Go.RowKit Go.Bm
theorem wvals_snoc (B : Nat → Nat) (k : Nat) : wvals B (k + 1) = wvals B k ++ [.int .u64 (B k : Nat)] := by unfold wvals; rw [List.range_succ, List.map_append]; rfl
theorem wvals_lend (B : Nat → Nat) (n : Nat) : wvals (lendB B n) n = wvals B n := by
  unfold wvals
  apply List.map_congr_left
  intro i hi
  have : i < n := by simpa using hi
  unfold lendB
  rw [if_pos this]
theorem own_of_row {w : World} {base g n cap : Nat} {B : Nat → Nat} (h : w.ownsRow base 50 1 (.slice (some ⟨g, 0, none⟩) n cap) n (wvals B n)) (hB : ∀ i, i < n → B i < 2 ^ 64) : IsOwn w g n B ∧ base ≤ g := by
  obtain ⟨_, hform⟩ := h
  rcases hform with ⟨hx, _⟩ | ⟨g', cap', cur, hx, hb, hh, hnn, hcc, _, ht⟩
  · cases hx
  · cases hx
    refine ⟨⟨cur, hh, fun i hi => ⟨?_, hB i hi⟩⟩, hb⟩
    have e2 : cur.toList[i]? = (wvals B n)[i]? := by rw [← ht, List.getElem?_take, if_pos (by omega)]
    rw [← Array.getElem?_toList, e2, wvals_get _ _ _ hi]
theorem IsOwn.other {w : World} {g n : Nat} {B : Nat → Nat} {p : Addr} (h : IsOwn w g n B) (hne : g ≠ p.block) (v : Value) : IsOwn (w.setCell p v) g n B := by
  obtain ⟨cur, hh, hc⟩ := h
  exact ⟨cur, (Below.heap_setCell w p v g hne).trans hh, hc⟩
set_option maxRecDepth 100000 in
set_option maxHeartbeats 4000000 in
theorem lend0 (W H : Int) (a : Option Addr) (n cap : Nat) (B : Nat → Nat) (w : World) (hB : IsWords w a n cap B) (hno : a = none → n = 0 ∧ cap = 0) (hn : n ≤ 10000) :
    Calls Tryd.prog 7 #[.agg #[.int .i64 W, .int .i64 H, .slice a n cap]] w fun e w' => ∃ g, e = .returned (.agg #[.int .i64 W, .int .i64 H, .slice (some ⟨g, 0, none⟩) n (n + 7)]) ∧ IsOwn w' g (n + 7) (lendB B n) ∧ w.heap.size ≤ g ∧ Below w.heap.size w w' := by
  have hnew : ∀ (w1 : World), Below w.heap.size w w1 → ∀ ad, a = some ad → ∀ j u, (wvals B n)[j]? = some u → w1.cell? (ad.add j) = some u := by
    intro w1 hb ad had j u hj
    have hjn : j < n := by
      have := (List.getElem?_eq_some_iff.1 hj).1
      rwa [wvals_length] at this
    rw [wvals_get _ _ _ hjn] at hj
    cases hj
    rcases hB with h | ⟨b, off, h1, _, _, hbs, hcell⟩
    · omega
    · rw [had] at h1
      cases h1
      have ea : (⟨b, off, none⟩ : Addr).add j = ⟨b, off + j, none⟩ := by simp only [Addr.add]; split <;> simp_all
      rw [ea]
      exact (hb.cell (p := ⟨b, off + j, none⟩) hbs).trans (hcell j hjn).1
  have HN := Lib.hid hnew
  have HNO := Lib.hid hno
  have HLT := Lib.hid hB.lt
  clear hnew hB hno
  obtain ⟨i0, hi, hz0, hz1, hz2⟩ := info_parts infoW
  have hmk : ∀ W1 : World, (Instr.makeSlice 23 (.int .i64 0) (.int .i64 ((n : Int) + 7))).run Tryd.prog W1 = .ok (.slice (some ⟨W1.heap.size, 0, none⟩) 0 (n + 7)) (W1.alloc (.cells (madeCells #[.int .u64 0] (n + 7)) 50)) := by
    intro W1
    have h := run_make (P := Tryd.prog) W1 23 50 i0 (.int .u64 0) Tryd.underlying23 hi hz0 .i64 .i64 0 ((n : Int) + 7) (by omega) (by omega) (by rw [hz2]; omega) (by omega)
    rw [hz1] at h
    have e : ((n : Int) + 7).toNat = n + 7 := by omega
    rw [e, Nat.mul_one] at h
    exact h
  go_enter Tryd.func7, Tryd.ntmps7
  go_upto_region 2 with fail
  have two : ∀ (x y : Array Value) (r s : TypeId), Below w.heap.size w ((w.alloc (.cells x r)).alloc (.cells y s)) := fun x y r s => ((Below.refl _ _).alloc (Nat.le_refl _) _).alloc (by simp) _
  have three : ∀ (x y z : Array Value) (r s t : TypeId), Below w.heap.size w (((w.alloc (.cells x r)).alloc (.cells y s)).alloc (.cells z t)) := fun x y z r s t => (((Below.refl _ _).alloc (Nat.le_refl _) _).alloc (by simp) _).alloc (by simp; omega) _
  have ho := World.ownsRow_made (base := w.heap.size + 2) (e := 50) (size := 1) ((w.alloc (.cells #[.int .i64 W, .int .i64 H, .slice a n cap] 25)).alloc (.cells #[.int .i64 0, .int .i64 0, .slice none 0 0] 25)) (madeCells #[.int .u64 0] (n + 7)) (n + 7) (by simp) (by unfold maxLen; omega) (by rw [size_madeCells, Nat.mul_one])
  simp only [World.size_alloc] at ho
  go_upto_region 3 with (at_builtin; refine wpList_append_fits_any _ rfl _ _ 23 rfl (w.heap.size + 2) 50 i0 1 Tryd.underlying23 hi hz1 (w.heap.size + 2) 0 (n + 7) [] rfl ho a n cap (wvals B n) rfl (by rw [wvals_length, Nat.mul_one]) HNO.out (HN.out _ (three _ _ _ _ _ _)) (by intro u hu; unfold wvals at hu; simp at hu; obtain ⟨i, _, rfl⟩ := hu; rfl) (by omega) ?_; intro w1 hown hgrow)
  simp only [Nat.zero_add, List.nil_append] at hown
  -- the boxes
  have hbel := (three #[.int .i64 W, .int .i64 H, .slice a n cap] #[.int .i64 0, .int .i64 0, .slice none 0 0] (madeCells #[.int .u64 0] (n + 7)) 25 25 50).grown hgrow (by simp; omega) (fun q hq => by cases hq; omega)
  have kc : ∀ j, w1.cell? ⟨w.heap.size, j, none⟩ = (#[.int .i64 W, .int .i64 H, .slice a n cap] : Array Value)[j]? := fun j =>
    (hgrow.cell_far ⟨w.heap.size, j, none⟩ (by simp; omega) (by simp)).trans (by rw [World.cell?_alloc_past _ _ _ (by simp; omega), World.cell?_alloc_past _ _ _ (by simp), World.cell?_alloc_at _ _ _ _ rfl])
  have kr : w1.heap[w.heap.size + 1]? = some (.cells #[.int .i64 0, .int .i64 0, .slice none 0 0] 25 (0, 0)) := by
    rw [hgrow.block (w.heap.size + 1) (by simp) (by simp), Below.heap_alloc _ _ _ (by simp)]
    have h2 := heap_alloc_new (w.alloc (.cells #[.int .i64 W, .int .i64 H, .slice a n cap] 25)) (.cells #[.int .i64 0, .int .i64 0, .slice none 0 0] 25)
    simpa using h2
  have hsz : w.heap.size + 2 < w1.heap.size := Nat.lt_of_lt_of_le (by simp) hgrow.size
  have HBE := Lib.hid hbel
  have KC := Lib.hid kc
  have KR := Lib.hid kr
  clear hbel kc kr hgrow two three ho hmk
  obtain ⟨W0, hW0⟩ : ∃ W0, w.heap.size = W0 := ⟨_, rfl⟩
  rw [hW0] at hown hsz KC KR ⊢
  have HOWN := Lib.hid hown
  have HW0 := Lib.hid hW0
  clear hown hW0
  go_wp2_with fail
  go_loopw [3, 4] (fun v i wr => ∃ k : Nat, k ≤ 7 ∧ i = .int .i64 k ∧ v = .slice (some ⟨W0 + 2, 0, none⟩) (n + k) (n + 7) ∧ Hid (wr.ownsRow (W0 + 2) 50 1 (.slice (some ⟨W0 + 2, 0, none⟩) (n + k) (n + 7)) (n + k) (wvals (lendB B n) (n + k))) ∧ Hid (w1.grownBy wr (some (W0 + 2)))) (fun _ i _ => 7 - (intOf i).toNat)
  case atStart => exact ⟨0, by omega, rfl, rfl, by show World.ownsRow _ _ _ _ _ _ _; simp only [Nat.add_zero]; rw [wvals_lend]; exact HOWN.out, grown_refl _ _⟩
  case round =>
    obtain ⟨k, hk, rfl, rfl, hown, hgr⟩ := hrel
    by_cases hlt : k < 7
    · have hbs : W0 + 2 < wr.heap.size := Nat.lt_of_lt_of_le hsz hgr.out.size
      have hmark : wvals (lendB B n) (n + (k + 1)) = wvals (lendB B n) (n + k) ++ [.int .u64 42405] := by
        rw [← Nat.add_assoc, wvals_snoc]
        have : lendB B n (n + k) = 42405 := by unfold lendB; rw [if_neg (by omega)]
        rw [this]; rfl
      have HM := Lib.hid hmark
      clear hmark
      go_wp2_with (at_builtin; refine wpList_append_fits _ rfl _ _ 23 rfl (W0 + 2) 50 i0 1 Tryd.underlying23 hi hz1 (W0 + 2) (n + k) (n + 7) (wvals (lendB B n) (n + k)) rfl (hown.out.alloc _) ⟨wr.heap.size, 0, none⟩ 1 1 [.int .u64 42405] rfl rfl (World.news_of_block (cs := #[.int .u64 42405]) (t := 50) (fr := (0, 0)) (heap_alloc_new wr _)) (by intro u hu; simp at hu; subst hu; rfl) (by omega) ?_; intro w2 hown2 hgrow2)
      have ho3 := Lib.hid (hown2)
      have hg3 := Lib.hid (hgr.out.trans ((World.grownBy_alloc wr _ _).trans hgrow2))
      clear hown2 hgrow2
      go_wp2_with fail
      go_roundw
      case rel => exact ⟨k + 1, by omega, by go_num, by rw [Nat.add_assoc], by show World.ownsRow _ _ _ _ _ _ _; rw [HM.out, ← Nat.add_assoc]; exact ho3.out, hg3⟩
      case measure => simp [intOf]; omega
    · obtain rfl : k = 7 := by omega
      have hkr : wr.heap[W0 + 1]? = some (.cells #[.int .i64 0, .int .i64 0, .slice none 0 0] 25 (0, 0)) := (hgr.out.block (W0 + 1) (by omega) (by simp)).trans KR.out
      have d0 : wr.cell? ⟨W0, 0, none⟩ = some (.int .i64 W) := (hgr.out.cell_far ⟨W0, 0, none⟩ (by show W0 < _; omega) (by simp)).trans (KC.out 0)
      have d1 : wr.cell? ⟨W0, 1, none⟩ = some (.int .i64 H) := (hgr.out.cell_far ⟨W0, 1, none⟩ (by show W0 < _; omega) (by simp)).trans (KC.out 1)
      have d2 : wr.cell? ⟨W0, 2, none⟩ = some (.slice a n cap) := (hgr.out.cell_far ⟨W0, 2, none⟩ (by show W0 < _; omega) (by simp)).trans (KC.out 2)
      have k0 := Joins.cell_of_block hkr 0
      have k1 := Joins.cell_of_block hkr 1
      have k2 := Joins.cell_of_block hkr 2
      have f0 := Joins.unfrozen_of_block hkr 0
      have f1 := Joins.unfrozen_of_block hkr 1
      have f2 := Joins.unfrozen_of_block hkr 2
      have n1 : (0 : Int) ≤ (n : Int) := by omega
      have n2 : (n : Int) ≤ (n : Int) + 7 := by omega
      go_wp2_with fail
      go_region
      have hrow := own_of_row hown.out (fun i _ => lendB_lt HLT.out i)
      have HROW := Lib.hid hrow
      clear hrow hown
      go_wp2_with fail
      refine bodyPost_ret (v := .agg #[.int .i64 W, .int .i64 H, .slice (some ⟨W0 + 2, 0, none⟩) n (n + 7)]) (by simp [results, Tryd.results7, go_sem, k0, k1, k2]) rfl ⟨W0 + 2, rfl, ?_, ?_, ?_⟩
      · exact ((HROW.out.1.other (by simp) _).other (by simp) _).other (by simp) _
      · have := HW0.out; omega
      · have h1 := HBE.out.grown hgr.out HBE.out.size (fun k e => by cases e; have := HW0.out; omega)
        have h0 : w.heap.size ≤ W0 + 1 := by have := HW0.out; omega
        exact Below.drew (((h1.setCell h0 _).setCell h0 _).setCell h0 _)
theorem IsWords.short {w : World} {a : Option Addr} {m n cap : Nat} {L : Nat → Nat} (h : IsWords w a m cap L) (hn : n ≤ m) : IsWords w a n cap L := by
  rcases h with h | ⟨b, off, h1, h2, h3, h4, h5⟩
  · exact Or.inl (by omega)
  · exact Or.inr ⟨b, off, h1, by omega, h3, h4, fun i hi => h5 i (by omega)⟩
theorem two_cells (w : World) (A C : Array Value) (t s : TypeId) : (∀ j, ((w.alloc (.cells A t)).alloc (.cells C s)).cell? ⟨w.heap.size, j, none⟩ = A[j]?) ∧ (∀ j, ((w.alloc (.cells A t)).alloc (.cells C s)).cell? ⟨w.heap.size + 1, j, none⟩ = C[j]?) :=
  ⟨fun j => by rw [World.cell?_alloc_past _ _ _ (by simp), World.cell?_alloc_at _ _ _ _ rfl], fun j => by rw [World.cell?_alloc_at _ _ _ _ (by simp)]⟩
theorem eqL_lend (B : Nat → Nat) (n : Nat) : eqL n n (lendB B n) B := ⟨rfl, fun i hi => by unfold lendB; rw [if_pos hi]⟩
set_option maxRecDepth 100000 in
set_option maxHeartbeats 4000000 in
/-- BackBitmap: it is as it was; then it is written over -/
theorem back0 (W H : Int) (g : Nat) (a : Option Addr) (n cap : Nat) (B : Nat → Nat) (w : World) (hO : IsOwn w g (n + 7) (lendB B n)) (hB : IsWords w a n cap B) (hn : n ≤ 10000) :
    Calls Tryd.prog 10 #[.agg #[.int .i64 W, .int .i64 H, .slice (some ⟨g, 0, none⟩) n (n + 7)], .agg #[.int .i64 W, .int .i64 H, .slice a n cap]] w fun e w' => e = .returned (.bool true) ∧ w.grownBy w' (some g) := by
  have two : Below w.heap.size w ((w.alloc (.cells #[.int .i64 W, .int .i64 H, .slice (some ⟨g, 0, none⟩) n (n + 7)] 25)).alloc (.cells #[.int .i64 W, .int .i64 H, .slice a n cap] 25)) := ((Below.refl _ _).alloc (Nat.le_refl _) _).alloc (by simp) _
  have hgl := hO.lt
  have HO := Lib.hid (hO.below two)
  have HBW := Lib.hid (hB.below two)
  have hg2 := Lib.hid (grown_of_below two (some g))
  have hcc := two_cells w #[.int .i64 W, .int .i64 H, .slice (some ⟨g, 0, none⟩) n (n + 7)] #[.int .i64 W, .int .i64 H, .slice a n cap] 25 25
  have CC := Lib.hid hcc
  clear hO hB two hcc
  go_enter Tryd.func10, Tryd.ntmps10
  go_upto_region 1 with fail
  obtain ⟨W0, hW0⟩ : ∃ W0, w.heap.size = W0 := ⟨_, rfl⟩
  rw [hW0] at hgl CC ⊢
  clear hW0
  generalize (w.alloc (.cells #[.int .i64 W, .int .i64 H, .slice (some ⟨g, 0, none⟩) n (n + 7)] 25)).alloc (.cells #[.int .i64 W, .int .i64 H, .slice a n cap] 25) = w1 at *
  have d0 : w1.cell? ⟨W0, 0, none⟩ = some (.int .i64 W) := CC.out.1 0
  have d1 : w1.cell? ⟨W0, 1, none⟩ = some (.int .i64 H) := CC.out.1 1
  have d2 : w1.cell? ⟨W0, 2, none⟩ = some (.slice (some ⟨g, 0, none⟩) n (n + 7)) := CC.out.1 2
  have s0 : w1.cell? ⟨W0 + 1, 0, none⟩ = some (.int .i64 W) := CC.out.2 0
  have s1 : w1.cell? ⟨W0 + 1, 1, none⟩ = some (.int .i64 H) := CC.out.2 1
  have s2 : w1.cell? ⟨W0 + 1, 2, none⟩ = some (.slice a n cap) := CC.out.2 2
  go_upto_region 2 with (go_at_call 17; refine (eqbitmap0 W H (some ⟨g, 0, none⟩) n (n + 7) (lendB B n) W H a n cap B true _ ((HO.out.words (Nat.le_refl _) (by omega)).short (Nat.le_add_right _ _)) HBW.out (by simp [eqL_lend]) (by omega)).mono ?_; rintro e w2 ⟨rfl, hbel⟩)
  have hl0 := World.block_lt_of_cell? w1 _ d0
  have hl1 := World.block_lt_of_cell? w1 _ s0
  have d2 := (hbel.cell (p := ⟨W0, 2, none⟩) hl0).trans d2
  have s2 := (hbel.cell (p := ⟨W0 + 1, 2, none⟩) hl1).trans s2
  have HO2 := Lib.hid (HO.out.below hbel)
  have hg3 := Lib.hid (hg2.out.trans (grown_of_below hbel (some g)))
  clear hbel hl0 hl1 d0 d1 s0 s1 CC HO HBW hg2
  have n1 : (0 : Int) ≤ (n : Int) + 7 := by omega
  have n2 : ((n : Int) + 7) ≤ ((n + 7 : Nat) : Int) := by omega
  go_wp2_with fail
  clear d2 s2 n1 n2
  go_loop [5, 7] (fun o v => ∃ i : Nat, n ≤ i ∧ i ≤ n + 7 ∧ v = .int .i64 i ∧ o = .bool true) (fun _ v => n + 7 - (intOf v).toNat)
  case atStart => exact ⟨n, Nat.le_refl _, by omega, rfl, rfl⟩
  case round =>
    obtain ⟨i, hi1, hi2, rfl, rfl⟩ := hrel
    by_cases hlt : i < n + 7
    · have dc : w2.cell? ⟨g, i, none⟩ = some (.int .u64 42405) := by
        have h := (HO2.out.cell i hlt).1
        have e : lendB B n i = 42405 := by unfold lendB; rw [if_neg (by omega)]
        rw [e] at h
        exact h
      have hltI : (i : Int) < ((n + 7 : Nat) : Int) := by omega
      go_wp2_with fail
      go_round
      case rel => exact ⟨i + 1, by omega, by omega, by go_num, rfl⟩
      case measure => simp [intOf]; omega
    · obtain rfl : i = n + 7 := by omega
      go_wp2_with fail
      go_loopw [8] (fun v wr => ∃ j : Nat, j ≤ n + 7 ∧ v = .int .i64 j ∧ ∃ C, Hid (IsOwn wr g (n + 7) C) ∧ Hid (w2.grownBy wr (some g))) (fun v _ => n + 7 - (intOf v).toNat)
      case atStart => exact ⟨0, Nat.zero_le _, rfl, _, HO2, grown_refl _ _⟩
      case round =>
        obtain ⟨j, hj, rfl, C, hown, hgr⟩ := hrel
        by_cases hjl : j < n + 7
        · obtain ⟨dc, _, df⟩ := hown.out.cell j hjl
          have hltI : (j : Int) < ((n + 7 : Nat) : Int) := by omega
          have HS := Lib.hid (hown.out.set j 1515870810 hjl (by decide))
          have HG := Lib.hid (hgr.out.trans (grown_setCell wr ⟨g, j, none⟩ (.int .u64 1515870810)))
          go_wp2_with fail
          go_roundw
          case rel => exact ⟨j + 1, by omega, by go_num, _, HS, HG⟩
          case measure => simp [intOf]; omega
        · go_wp2_with fail
          go_ret
          exact ⟨rfl, hg3.out.trans hgr.out⟩
set_option maxHeartbeats 1000000 in
theorem small1 (g n cap : Nat) (a : Option Addr) (most : Int) (b : Bool) (w : World) (hn : n ≤ 17179869184) (c2 : w.cell? ⟨g, 2, none⟩ = some (.slice a n cap)) (hb : b = decide (64 * (n : Int) + 64 ≤ most)) :
    Calls Tryd.prog 19 #[.slice (some ⟨g, 0, none⟩) 1 1, .int .i64 most] w fun e w' => e = .returned (.bool b) ∧ w = w' := by
  go_enter Tryd.func19, Tryd.ntmps19
  go_wp2
  go_loop [5, 6] (fun s i => (i = .int .i64 0 ∧ s = .int .i64 0) ∨ (i = .int .i64 1 ∧ 64 * (n : Int) + 64 ≤ most)) (fun _ i => (1 - intOf i).toNat)
  case atStart => exact Or.inl ⟨rfl, rfl⟩
  case round =>
    rcases hrel with ⟨rfl, rfl⟩ | ⟨rfl, hle⟩
    · by_cases hm : 64 * (n : Int) + 64 ≤ most
      · have HM := Lib.hid hm
        have HB := Lib.hid hb
        clear hb
        go_wp2
        go_round
        case rel => exact Or.inr ⟨rfl, HM.out⟩
        case measure => simp [intOf]
      · rw [decide_eq_false hm] at hb
        subst hb
        have hm2 : most < 64 * (n : Int) + 64 := by omega
        go_wp2
        go_ret
        exact ⟨rfl, rfl⟩
    · rw [decide_eq_true hle] at hb
      subst hb
      go_wp2
      go_ret
      exact ⟨rfl, rfl⟩
/-- what holds of a boxed bitmap in every world from then on -/
structure BInv (w : World) (W0 : Nat) (W H : Int) (a : Option Addr) (n cap : Nat) (B : Nat → Nat) (W' : World) : Prop where
  lt : W0 < W'.heap.size
  c0 : W'.cell? ⟨W0, 0, none⟩ = some (.int .i64 W)
  c1 : W'.cell? ⟨W0, 1, none⟩ = some (.int .i64 H)
  c2 : W'.cell? ⟨W0, 2, none⟩ = some (.slice a n cap)
  k : IsWords W' a n cap B
  bel : Below W0 w W'
theorem BInv.step {w : World} {W0 : Nat} {W H : Int} {a : Option Addr} {n cap : Nat} {B : Nat → Nat} {W1 W2 : World} (h : BInv w W0 W H a n cap B W1) (hb : Below W1.heap.size W1 W2) : BInv w W0 W H a n cap B W2 :=
  ⟨Nat.lt_of_lt_of_le h.lt hb.size, (hb.cell (p := ⟨W0, 0, none⟩) h.lt).trans h.c0, (hb.cell (p := ⟨W0, 1, none⟩) h.lt).trans h.c1, (hb.cell (p := ⟨W0, 2, none⟩) h.lt).trans h.c2, h.k.below hb,
    h.bel.trans (hb.mono (Nat.le_of_lt h.lt))⟩
theorem BInv.new {w : World} {W H : Int} {a : Option Addr} {n cap : Nat} {B : Nat → Nat} (h : IsWords w a n cap B) : BInv w w.heap.size W H a n cap B (w.alloc (.cells #[.int .i64 W, .int .i64 H, .slice a n cap] 25)) :=
  ⟨by simp, by rw [World.cell?_alloc_at _ _ _ _ rfl]; rfl, by rw [World.cell?_alloc_at _ _ _ _ rfl]; rfl, by rw [World.cell?_alloc_at _ _ _ _ rfl]; rfl,
    h.below ((Below.refl _ _).alloc (Nat.le_refl _) _), (Below.refl _ _).alloc (Nat.le_refl _) _⟩
end Go.Proofs.YtgpjpmadbepblaaDoor
