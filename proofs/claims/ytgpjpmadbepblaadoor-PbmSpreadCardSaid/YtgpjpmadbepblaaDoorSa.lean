/- New, Set, Plain of package bitmap. Conditions: the bounds that each theorem names. -/
import Derived.Test.YtgpjpmadbepblaaDoorRc
namespace Go.Proofs.YtgpjpmadbepblaaDoor
open Go.RowKit Go.Bm Go.Pbm Go.Sort

/-- a map of the call's own: its box, its words -/
structure IsMapO (w : World) (g gw : Nat) (W H : Nat) (C : Nat → Nat) : Prop where
  c0 : w.cell? ⟨g, 0, none⟩ = some (.int .i64 (W : Int))
  c1 : w.cell? ⟨g, 1, none⟩ = some (.int .i64 (H : Int))
  c2 : w.cell? ⟨g, 2, none⟩ = some (.int .i64 (wd W : Int))
  c3 : w.cell? ⟨g, 3, none⟩ = some (.slice (some ⟨gw, 0, none⟩) (H * wd W) (H * wd W))
  own : IsOwn w gw (H * wd W) C
  ne : g ≠ gw
theorem IsMapO.lt {w : World} {g gw W H : Nat} {C : Nat → Nat} (h : IsMapO w g gw W H C) : g < w.heap.size := World.block_lt_of_cell? w _ h.c0
theorem IsMapO.drewN {w : World} {g gw W H : Nat} {C : Nat → Nat} (h : IsMapO w g gw W H C) (k : Nat) : IsMapO (w.drewN k) g gw W H C := ⟨h.c0, h.c1, h.c2, h.c3, h.own, h.ne⟩
theorem IsMapO.map {w : World} {g gw W H : Nat} {C : Nat → Nat} (h : IsMapO w g gw W H C) (hW : W ≤ 1048576) (hH : H ≤ 1048576) : IsMap w (.pointer (some ⟨g, 0, none⟩)) W H C :=
  ⟨g, some ⟨gw, 0, none⟩, H * wd W, rfl, h.lt, h.c0, h.c1, h.c2, h.c3, h.own.words (Nat.le_refl _) (by have := Nat.mul_le_mul hH (wd_le hW); omega)⟩
theorem IsOwn.grown {w w' : World} {g n r : Nat} {B : Nat → Nat} (h : IsOwn w g n B) (hg : w.grownBy w' (some r)) (hne : g ≠ r) : IsOwn w' g n B := by
  obtain ⟨cur, hh, hc⟩ := h
  exact ⟨cur, (hg.block g (Array.getElem?_eq_some_iff.1 hh).1 (fun e => hne (Option.some.inj e))).trans hh, hc⟩
theorem IsMapO.grown {w w' : World} {g gw r W H : Nat} {C : Nat → Nat} (h : IsMapO w g gw W H C) (hg : w.grownBy w' (some r)) (h1 : g ≠ r) (h2 : gw ≠ r) : IsMapO w' g gw W H C :=
  have far : ∀ o v, w.cell? ⟨g, o, none⟩ = some v → w'.cell? ⟨g, o, none⟩ = some v := fun _ _ hv => hg.cell hv (fun e => h1 (Option.some.inj e))
  ⟨far _ _ h.c0, far _ _ h.c1, far _ _ h.c2, far _ _ h.c3, h.own.grown hg h2, h.ne⟩

set_option maxHeartbeats 2000000 in
theorem new30_no (W H : Int) (w : World) (h : ¬ okS W H) : Calls Tryd.prog 30 #[.int .i64 W, .int .i64 H] w fun e w' => e = .returned (.tuple #[.pointer none, .int .i64 20]) ∧ w = w' := by
  have HZ := Lib.hid (decide_eq_false h).symm
  clear h
  go_enter Tryd.func30, Tryd.ntmps30
  go_wp2_with (go_at_call 46; refine (sized0 W H false HZ.out _).mono ?_; rintro e w' ⟨rfl, rfl⟩)
  go_ret2
  exact ⟨rfl, rfl⟩

set_option maxHeartbeats 4000000 in
set_option maxRecDepth 100000 in
theorem new30_ok (W H : Nat) (w : World) (h : okS W H) : Calls Tryd.prog 30 #[.int .i64 (W : Int), .int .i64 (H : Int)] w fun e w' => ∃ g gw, e = .returned (.tuple #[.pointer (some ⟨g, 0, none⟩), .int .i64 0]) ∧ IsMapO w' g gw W H (fun _ => 0) ∧ w.heap.size ≤ g ∧ w.heap.size ≤ gw ∧ Below w.heap.size w w' := by
  have hs := okS_le h
  have hW : W ≤ 1048576 := by omega
  have hH : H ≤ 1048576 := by omega
  have HZ := Lib.hid (decide_eq_true h).symm
  have h1 : H * wd W ≤ 1048576 * 16384 := Nat.mul_le_mul hH (wd_le hW)
  have hmk := fun W1 => run_make_row' (P := Tryd.prog) 23 50 (.int .u64 0) 8 Tryd.underlying23 infoW rfl .i64 .i64 (H * wd W) (by omega) (by omega) W1
  have hwr := wrap_prod hH hW
  have hwr2 : wrap64 ((H : Int) * (wd W : Int)) = ((H * wd W : Nat) : Int) := by
    rw [← Int.natCast_mul]; exact Go.IntWalk.wrap64_in _ ⟨by omega, by omega⟩
  have hwd : ((W : Int) + 63) / 64 = (wd W : Int) := by unfold wd; omega
  have HWD : Hid (wd W ≤ 16384) := wd_le hW
  clear h hs
  obtain ⟨m, hm⟩ : ∃ m, wd W = m := ⟨_, rfl⟩
  rw [hm] at hwd hwr hwr2 hmk h1
  have HM := Lib.hid hm
  clear hm
  obtain ⟨n, hn⟩ : ∃ n, H * m = n := ⟨_, rfl⟩
  rw [hn] at hwr hwr2 hmk h1
  have HN := Lib.hid hn
  clear hn
  go_enter Tryd.func30, Tryd.ntmps30
  go_wp2_with (go_at_call 46; refine (sized0 (W : Int) (H : Int) true HZ.out _).mono ?_; rintro e w' ⟨rfl, rfl⟩)
  go_ret2
  refine ⟨w.heap.size + 1, w.heap.size, rfl, ?_, by omega, Nat.le_refl _, ((Below.refl _ _).alloc (Nat.le_refl _) _).alloc (by simp) _⟩
  obtain ⟨W1, hW1⟩ : ∃ W1, w.alloc (.cells (madeCells #[.int .u64 0] n) 50) = W1 := ⟨_, rfl⟩
  have hs1 : w.heap.size + 1 = W1.heap.size := by rw [← hW1]; simp
  have hb1 : W1.heap[w.heap.size]? = some (.cells (madeCells #[.int .u64 0] n) 50 (0, 0)) := by rw [← hW1]; exact heap_alloc_new w _
  have e1 : H * wd W = n := by rw [HM.out]; exact HN.out
  rw [hW1, hs1]
  have two : ∀ j, (W1.alloc (.cells #[.int .i64 (W : Int), .int .i64 (H : Int), .int .i64 (m : Int), .slice (some ⟨w.heap.size, 0, none⟩) n n] 75)).cell? ⟨W1.heap.size, j, none⟩ = (#[.int .i64 (W : Int), .int .i64 (H : Int), .int .i64 (m : Int), .slice (some ⟨w.heap.size, 0, none⟩) n n] : Array Value)[j]? := fun j => by rw [World.cell?_alloc_at _ _ _ _ rfl]
  refine ⟨two 0, two 1, ?_, ?_, ⟨madeCells #[.int .u64 0] n, ?_, fun i hi => ⟨?_, by show 0 < 2 ^ 64; decide⟩⟩, by omega⟩
  · rw [HM.out]; exact two 2
  · rw [e1]; exact two 3
  · exact (Below.heap_alloc W1 _ _ (by omega)).trans hb1
  · rw [e1] at hi
    rw [← Array.getElem?_toList, toList_madeCells_one, List.getElem?_replicate, if_pos hi]; rfl

theorem put_val {v e : Nat} (hv : v < 2 ^ 64) (he : e < 64) : bits BinOp.or IntKind.u64 (bits BinOp.andNot IntKind.u64 (v : Int) (IntKind.u64.wrap (2 ^ min e 64))) (IntKind.u64.wrap (2 ^ min e 64)) = ((putw v e 1 : Nat) : Int) := by
  have h1 : 2 ^ e < 2 ^ 64 := Nat.pow_lt_pow_right (by decide) he
  have h2 : (2 : Int) ^ e = ((2 ^ e : Nat) : Int) := by simp
  have hm : IntKind.u64.wrap (2 ^ min e 64) = 2 ^ e := by
    rw [show min e 64 = e by omega, h2, IntKind.wrap_u64]
    generalize 2 ^ e = q at *
    omega
  have hl : v &&& (18446744073709551615 - 2 ^ e) < 2 ^ 64 := Nat.and_lt_two_pow _ (Nat.lt_of_le_of_lt (Nat.sub_le _ _) (by decide))
  rw [hm, andNot_val v e hv he, or_val _ e hl he]
  unfold putw
  rw [if_pos rfl]

set_option maxHeartbeats 4000000 in
set_option maxRecDepth 100000 in
theorem put57 (g gw W H : Nat) (C : Nat → Nat) (x y : Nat) (w : World) (hW : W ≤ 1048576) (hH : H ≤ 1048576) (hM : IsMapO w g gw W H C) (hx : x < W) (hy : y < H) :
    Calls Tryd.prog 57 #[.pointer (some ⟨g, 0, none⟩), .int .i64 x, .int .i64 y, .int .i64 1] w fun e w' => e = .returned (.tuple #[]) ∧ IsMapO w' g gw W H (setB C W x y 1) ∧ w.grownBy w' (some gw) := by
  have hlt := at_lt hx hy
  have hww := wd_le hW
  have hyw : y * wd W ≤ 1048576 * 16384 := Nat.mul_le_mul (by omega) hww
  have hyw2 : (y : Int) * (wd W : Int) ≤ 17179869184 := by
    have : ((y * wd W : Nat) : Int) ≤ 17179869184 := by omega
    rwa [Int.natCast_mul] at this
  have hyw3 : 0 ≤ (y : Int) * (wd W : Int) := Int.mul_nonneg (by omega) (by omega)
  have hwr : IntKind.i64.wrap ((y : Int) * (wd W : Int)) = (y : Int) * (wd W : Int) := IntWalk.i64_in _ (by omega)
  have hix : (y : Int) * (wd W : Int) + (x : Int) / 64 < ((H * wd W : Nat) : Int) := by
    have : ((y * wd W + x / 64 : Nat) : Int) < ((H * wd W : Nat) : Int) := by omega
    rwa [Int.natCast_add, Int.natCast_mul, Int.natCast_ediv] at this
  have c2 := hM.c2
  have c3 := hM.c3
  have HM := Lib.hid hM
  clear hM
  go_enter Tryd.func57, Tryd.ntmps57
  go_wp2_with fail
  go_region
  obtain ⟨i, hi⟩ : ∃ i, y * wd W + x / 64 = i := ⟨_, rfl⟩
  obtain ⟨r, hr⟩ : ∃ r, x % 64 = r := ⟨_, rfl⟩
  obtain ⟨e, he⟩ : ∃ e, 63 - r = e := ⟨_, rfl⟩
  rw [hi] at hlt ⊢
  obtain ⟨d0, v0, f0⟩ := HM.out.own.cell i hlt
  have HI := Lib.hid hi
  have HE : Hid (x % 64 = r ∧ 63 - r = e ∧ e < 64) := ⟨hr, he, by omega⟩
  have htm : (x : Int).tmod 64 = (r : Int) := by rw [Int.tmod_eq_emod_of_nonneg (by omega)]; omega
  have hmd : (x : Int) % 64 = (r : Int) := by omega
  have h63 : IntKind.i64.wrap (63 - (r : Int)) = (e : Int) := by rw [show 63 - (r : Int) = (e : Int) by omega]; exact IntWalk.i64_in _ (by omega)
  clear hi hr he hyw hyw2 hyw3 hwr hix c2 c3
  go_wp2_with fail
  go_region
  rw [put_val v0 HE.out.2.2]
  have HO := HM.out.own.set i (putw (C i) e 1) hlt (putw_lt _ _ _ HE.out.2.2)
  have GR : w.grownBy (w.setCell ⟨gw, i, none⟩ (.int .u64 ((putw (C i) e 1 : Nat) : Int))) (some gw) := grown_setCell w ⟨gw, i, none⟩ _
  have far : ∀ o v, w.cell? ⟨g, o, none⟩ = some v → (w.setCell ⟨gw, i, none⟩ (.int .u64 ((putw (C i) e 1 : Nat) : Int))).cell? ⟨g, o, none⟩ = some v := fun _ _ hv => GR.cell hv (fun h => HM.out.ne (Option.some.inj h))
  go_end0
  refine ⟨rfl, ⟨far _ _ HM.out.c0, far _ _ HM.out.c1, far _ _ HM.out.c2, far _ _ HM.out.c3, ?_, HM.out.ne⟩, GR.trans (grown_drewN _ 2 _)⟩
  refine IsOwn.congr (B := fun j => if j = i then putw (C i) e 1 else C j) HO (fun j _ => ?_)
  show (if j = i then putw (C i) e 1 else C j) = if j = y * wd W + x / 64 then putw (C j) (63 - x % 64) 1 else C j
  rw [HI.out, HE.out.1, HE.out.2.1]
  by_cases hj : j = i
  · rw [if_pos hj, if_pos hj, hj]
  · rw [if_neg hj, if_neg hj]

set_option maxHeartbeats 1000000 in
theorem set48 (g gw W H : Nat) (C : Nat → Nat) (x y : Nat) (w : World) (hW : W ≤ 1048576) (hH : H ≤ 1048576) (hM : IsMapO w g gw W H C) (hx : x < W) (hy : y < H) :
    Calls Tryd.prog 48 #[.pointer (some ⟨g, 0, none⟩), .int .i64 x, .int .i64 y, .int .i64 1] w fun e w' => e = .returned (.int .i64 0) ∧ IsMapO w' g gw W H (setB C W x y 1) ∧ w.grownBy w' (some gw) := by
  have HM := Lib.hid hM
  have HIN : Hid (true = true ↔ inB W H (x : Int) (y : Int)) := ⟨fun _ => ⟨by omega, by omega, by omega, by omega⟩, fun _ => rfl⟩
  clear hM
  go_enter Tryd.func48, Tryd.ntmps48
  go_wp2_with (first
    | (go_at_call 56; refine (inside0 (.pointer (some ⟨g, 0, none⟩)) W H C (x : Int) (y : Int) true _ (HM.out.map hW hH) HIN.out).mono ?_; rintro e w' ⟨rfl, rfl⟩)
    | (go_at_call 57; refine (put57 g gw W H C x y _ hW hH HM.out hx hy).mono ?_; rintro e w2 ⟨rfl, h1, h2⟩; have H1 := Lib.hid h1; have H2 := Lib.hid h2; clear h1 h2))
  go_ret
  exact ⟨rfl, H1.out, H2.out⟩

set_option maxHeartbeats 4000000 in
set_option maxRecDepth 100000 in
theorem plain33 (g gw W H : Nat) (C : Nat → Nat) (w : World) (hW : W ≤ 1048576) (hH : H ≤ 1048576) (h0 : 0 < H * wd W) (hM : IsMapO w g gw W H C) :
    Calls Tryd.prog 33 #[.pointer (some ⟨g, 0, none⟩)] w fun e w' => ∃ c cap base, e = .returned (.agg #[.int .i64 (W : Int), .int .i64 (H : Int), .slice c (H * wd W) cap]) ∧ w'.ownsRow base 50 1 (.slice c (H * wd W) cap) (H * wd W) (wvals C (H * wd W)) ∧ (∀ i, i < H * wd W → C i < 2 ^ 64) ∧ w.heap.size ≤ base ∧ Below w.heap.size w w' := by
  have hb : H * wd W ≤ 17179869184 := by have := Nat.mul_le_mul hH (wd_le hW); omega
  have c0 := hM.c0
  have c1 := hM.c1
  have c3 := hM.c3
  have HM := Lib.hid hM
  have HK := Lib.hid (hM.own.words (Nat.le_refl (H * wd W)) (by omega))
  clear hM
  obtain ⟨n, hn⟩ : ∃ n, H * wd W = n := ⟨_, rfl⟩
  rw [hn] at c3 HK h0 hb ⊢
  clear hn
  go_enter Tryd.func33, Tryd.ntmps33
  go_upto_region 1 with fail
  have hl := HM.out.lt
  obtain ⟨W0, hW0⟩ : ∃ W0, w.heap.size = W0 := ⟨_, rfl⟩
  have hbel := (Below.refl w.heap.size w).alloc (Nat.le_refl _) (.cells #[.int .i64 0, .int .i64 0, .slice none 0 0] 25)
  have hb0 : (w.alloc (.cells #[.int .i64 0, .int .i64 0, .slice none 0 0] 25)).heap[W0]? = some (.cells #[.int .i64 0, .int .i64 0, .slice none 0 0] 25 (0, 0)) := by rw [← hW0]; exact heap_alloc_new w _
  have hgW : g ≠ W0 := by omega
  have hgW2 : W0 ≠ g := hgW.symm
  have hK := HK.out.below hbel
  have HBE := Lib.hid hbel
  rw [hW0] at hbel HBE ⊢
  have d0 := (hbel.cell (p := ⟨g, 0, none⟩) (by rw [← hW0]; exact hl)).trans c0
  have d1 := (hbel.cell (p := ⟨g, 1, none⟩) (by rw [← hW0]; exact hl)).trans c1
  have d3 := (hbel.cell (p := ⟨g, 3, none⟩) (by rw [← hW0]; exact hl)).trans c3
  have HK2 := Lib.hid hK
  have HWE := Lib.hid hW0
  clear hbel hK c0 c1 c3 HK hl hW0
  generalize w.alloc (.cells #[.int .i64 0, .int .i64 0, .slice none 0 0] 25) = w1 at *
  have hl1 : W0 < w1.heap.size := (Array.getElem?_eq_some_iff.1 hb0).1
  have e0 : w1.cell? ⟨W0, 0, none⟩ = some (.int .i64 0) := Joins.cell_of_block hb0 0
  have e1 : w1.cell? ⟨W0, 1, none⟩ = some (.int .i64 0) := Joins.cell_of_block hb0 1
  have e2 : w1.cell? ⟨W0, 2, none⟩ = some (.slice none 0 0) := Joins.cell_of_block hb0 2
  have z0 := Joins.unfrozen_of_block hb0 0
  have z1 := Joins.unfrozen_of_block hb0 1
  have z2 := Joins.unfrozen_of_block hb0 2
  have HB0 := Lib.hid hb0
  clear hb0
  go_region_held (fun w' => w'.cell? ⟨g, 0, none⟩ = some (.int .i64 (W : Int)) ∧ w'.cell? ⟨g, 1, none⟩ = some (.int .i64 (H : Int)) ∧ w'.cell? ⟨g, 3, none⟩ = some (.slice (some ⟨gw, 0, none⟩) n n)) (go_keep)
    ((go_at_call 41; refine (clone0 (some ⟨gw, 0, none⟩) n n C _ ?_ h0 hb).mono ?_; exact HK2.out; rintro e w2 ⟨v, rfl, hk, hbel⟩; obtain ⟨c, cap, rfl, -⟩ := isWords_of_owns hk (IsWords.lt HK2.out); have HBC := Lib.hid (Below.trans (Below.drew (Below.refl w1.heap.size w1)) hbel); have HKC := Lib.hid hk; have d0 := (HBC.out.cell (p := ⟨g, 0, none⟩) (by exact World.block_lt_of_cell? w1 _ d0)).trans d0; have d1 := (HBC.out.cell (p := ⟨g, 1, none⟩) (by exact World.block_lt_of_cell? w1 _ d1)).trans d1; have d3 := (HBC.out.cell (p := ⟨g, 3, none⟩) (by exact World.block_lt_of_cell? w1 _ d3)).trans d3; have hb2 := (HBC.out.block W0 hl1).trans HB0.out; have e0 : w2.cell? ⟨W0, 0, none⟩ = some (.int .i64 0) := Joins.cell_of_block hb2 0; have e1 : w2.cell? ⟨W0, 1, none⟩ = some (.int .i64 0) := Joins.cell_of_block hb2 1; have e2 : w2.cell? ⟨W0, 2, none⟩ = some (.slice none 0 0) := Joins.cell_of_block hb2 2; have z0 := Joins.unfrozen_of_block hb2 0; have z1 := Joins.unfrozen_of_block hb2 1; have z2 := Joins.unfrozen_of_block hb2 2; have HB2 := Lib.hid hb2; clear hb2 hk hbel))
  have HNE := Lib.hid hgW2
  go_wp2_with fail
  refine bodyPost_ret (v := .agg #[.int .i64 (W : Int), .int .i64 (H : Int), .slice c n cap]) (by simp [results, Tryd.results33, go_sem, e0, e1, e2]) rfl ⟨c, cap, w1.heap.size, rfl, ?_, IsWords.lt HK2.out, ?_, ?_⟩
  · have h1 := ownsRow_setCell_below (a := ⟨W0, 0, none⟩) HKC.out hl1 (.int .i64 (W : Int))
    have h2 := ownsRow_setCell_below (a := ⟨W0, 1, none⟩) h1 hl1 (.int .i64 (H : Int))
    exact ownsRow_setCell_below (a := ⟨W0, 2, none⟩) h2 hl1 (.slice c n cap)
  · rw [HWE.out]
    exact Nat.le_of_lt hl1
  · have hB : Below W0 w w2 := HBE.out.trans (HBC.out.mono (Nat.le_of_lt hl1))
    rw [HWE.out]
    exact ((hB.setCell (p := ⟨W0, 0, none⟩) (Nat.le_refl _) _).setCell (p := ⟨W0, 1, none⟩) (Nat.le_refl _) _).setCell (p := ⟨W0, 2, none⟩) (Nat.le_refl _) _
end Go.Proofs.YtgpjpmadbepblaaDoor
