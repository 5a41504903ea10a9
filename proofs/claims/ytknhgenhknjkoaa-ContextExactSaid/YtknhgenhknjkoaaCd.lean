/- Package context: the contexts of a row (Row). Conditions: the bounds that each theorem names. -/
import Derived.Test.YtknhgenhknjkoaaCc
import Derived.Deep.OwnRows
import Derived.Deep.LoopGhost
namespace Go.Bm
theorem ivals_start (n : Nat) : madeCells #[.int .i64 0] n = ivals (fun _ => 0) n := by
  apply Array.toList_inj.1
  rw [toList_madeCells_one]
  unfold ivals
  rw [List.toList_toArray]
  apply List.ext_getElem?
  intro j
  by_cases hj : j < n
  · rw [List.getElem?_map, List.getElem?_range hj, List.getElem?_replicate, if_pos hj]; rfl
  · rw [List.getElem?_eq_none (by simp; omega), List.getElem?_eq_none (by simp; omega)]
end Go.Bm
namespace Go.Proofs.Ytknhgenhknjkoaa
open Go.RowKit Go.Bm

theorem info3 : (Try.prog.info? 3).map (fun i => (i.zero, i.size, i.bytes)) = some (some (.int .i64 0), 1, 8) := by kernel_rfl

set_option maxRecDepth 100000 in
set_option maxHeartbeats 4000000 in
theorem row_ok (W H : Nat) (a : Option Addr) (n cap : Nat) (B : Nat → Nat) (t y : Nat) (w : World) (hB : IsWords w a n cap B) (hb : okB W H n B) (ht : t < 4) (hy : y < H) :
    Calls Try.prog 15 #[.agg #[.int .i64 (W : Int), .int .i64 (H : Int), .slice a n cap], .int .i64 (t : Int), .int .i64 (y : Int)] w
      fun e w' => ∃ g, w.heap.size ≤ g ∧ e = .returned (.tuple #[.slice (some ⟨g, 0, none⟩) W W, .int .i64 0]) ∧ w'.heap[g]? = some (.cells (ivals (fun x => ctx t (px W H B) x y) W) 3 (0, 0)) ∧ Below w.heap.size w w' := by
  have hn : ∀ w a n c, (binOp BinOp.eql 56 (.slice (some a) n c) (.slice none 0 0)).run Try.prog w = .ok (.bool false) w := fun w a n c => (Lib.run_eql_slice_nil w _ _ _ _ _ _ _ Try.underlying56)
  have hw0 : 1 ≤ W := by have := hb.1.1; omega
  have hw1 : W ≤ 1048576 := by have := (okS_le hb.1).1; omega
  have hw2 : H ≤ 1048576 := by have := (okS_le hb.1).2; omega
  have hmk := fun W1 => run_make_row' (P := Try.prog) 25 3 (.int .i64 0) 8 Try.underlying25 info3 rfl .i64 .i64 W (by omega) (by omega) W1
  have hb3 := spn_bd t
  have hwl := wd_le hw1
  have hwd : ((W : Int) + 63) / 64 = (wd W : Int) := by unfold wd; omega
  have HB := Lib.hid hB
  have HO := Lib.hid hb
  have hbel := (Below.refl w.heap.size w).alloc (Nat.le_refl _) (.cells #[.int .i64 (W : Int), .int .i64 (H : Int), .slice a n cap] 24)
  have HL := Lib.hid hbel
  clear hB hb hbel
  go_enter Try.func15, Try.ntmps15
  go_upto_region 4 with (go_at_call 31; refine (spans_ok t ht _).mono ?_; rintro e w1 ⟨g0, rfl, hsp, hbel⟩)
  obtain ⟨c0, c1, c2⟩ := box_cells w W H a n cap hbel
  have hlt0 : w.heap.size < w1.heap.size := Nat.lt_of_lt_of_le (by simp) hbel.size
  have HB1 := Lib.hid (HL.out.trans (hbel.mono (by simp)))
  have HW := Lib.hid (HB.out.below HB1.out)
  have HS := Lib.hid hsp
  clear hsp hbel HL HB
  go_upto_region 6 with (go_at_call 34; refine (check0 W H a n cap B true _ HW.out (by simp [HO.out])).mono ?_; rintro e w2 ⟨rfl, hbel⟩)
  have c0 := (hbel.cell (p := ⟨w.heap.size, 0, none⟩) hlt0).trans c0
  have c1 := (hbel.cell (p := ⟨w.heap.size, 1, none⟩) hlt0).trans c1
  have c2 := (hbel.cell (p := ⟨w.heap.size, 2, none⟩) hlt0).trans c2
  have hlt2 : w.heap.size < w2.heap.size := Nat.lt_of_lt_of_le hlt0 hbel.size
  have HB2 := Lib.hid (HB1.out.trans (hbel.mono HB1.out.size))
  have HW2 := Lib.hid (HW.out.below hbel)
  have HS2 := Lib.hid (HS.out.below hbel)
  clear hbel HB1 HW HS hlt0
  obtain ⟨W0, hW0⟩ : ∃ W0, w.heap.size = W0 := ⟨_, rfl⟩
  rw [hW0] at c0 c1 c2 hlt2 ⊢
  have hy1 : (y : Int) < (H : Int) := by omega
  have hy2 : decide (H ≤ y) = false := by simp; omega
  have hy3 : decide ((y : Int) < 0) = false := by simp
  go_upto_region 10 with fail
  rw [hwd]
  have h3 : (w2.alloc (.cells (madeCells #[.int .i64 0] W) 3)).heap[w2.heap.size]? = some (.cells (ivals (fun _ => 0) W) 3 (0, 0)) := by
    rw [ivals_start]; exact heap_alloc_new w2 _
  have hb0 : Below w2.heap.size w2 (w2.alloc (.cells (madeCells #[.int .i64 0] W) 3)) := (Below.refl _ _).alloc (Nat.le_refl _) _
  obtain ⟨gg, hgg⟩ : ∃ gg, w2.heap.size = gg := ⟨_, rfl⟩
  rw [hgg] at h3 hb0 hlt2 ⊢
  have HGG := Lib.hid hgg
  have HW0 := Lib.hid hW0
  have H3 := Lib.hid h3
  have HB3 := Lib.hid hb0
  clear hgg hW0 hmk h3 hb0 hn hwd
  generalize w2.alloc (.cells (madeCells #[.int .i64 0] W) 3) = w3 at *
  obtain ⟨g, hg1, hg2, hg3⟩ := HS2.out
  cases hg1
  rw [HGG.out] at hg2
  have HS3 := Lib.hid hg3
  clear hg3 HS2
  have C0 := Lib.hid c0
  have C1 := Lib.hid c1
  have C2 := Lib.hid c2
  clear c0 c1 c2
  go_wp2_with fail
  go_loopw [44] (fun i wr => ∃ k : Nat, k ≤ spn t ∧ i = .int .i64 k ∧ Hid (wr.heap[gg]? = some (.cells (ivals (fun x => ctxK t (px W H B) x y k) W) 3 (0, 0))) ∧ Below gg w2 wr) (fun i _ => spn t - (intOf i).toNat)
  case atStart => exact ⟨0, Nat.zero_le _, rfl, H3.out, HB3.out⟩
  case round =>
    obtain ⟨k, hk, rfl, hheap, hbr⟩ := hrel
    by_cases hlt : k < spn t
    · obtain ⟨c0, c1, c2⟩ := HS3.out k hlt
      have c0 := (hbr.cell (p := ⟨g, k * 3, none⟩) hg2).trans c0
      have c1 := (hbr.cell (p := ⟨g, k * 3 + 1, none⟩) hg2).trans c1
      have c2 := (hbr.cell (p := ⟨g, k * 3 + 2, none⟩) hg2).trans c2
      obtain ⟨q1, q2, q3, q4, q5, q6, q7⟩ := sp_bd t ht k hlt
      have hck : Hid (∀ x, ctxK t (px W H B) x y (k + 1) = rowF (px W H B) x y (spf t k) (spd t k) (ctxK t (px W H B) x y k) (spt t k - spf t k + 1).toNat) := fun _ => rfl
      have HR := Lib.hid hbr
      have hgl : gg < wr.heap.size := (Array.getElem?_eq_some_iff.1 hheap.out).1
      clear hbr
      generalize spf t k = f at *
      generalize spt t k = u at *
      generalize spd t k = d at *
      go_upto_region 13 with fail
      have e0 : (wr.alloc (.cells #[.int .i64 d, .int .i64 f, .int .i64 u] 59)).cell? ⟨wr.heap.size, 0, none⟩ = some (.int .i64 d) := by rw [World.cell?_alloc_at _ _ _ _ rfl]; rfl
      have e1 : (wr.alloc (.cells #[.int .i64 d, .int .i64 f, .int .i64 u] 59)).cell? ⟨wr.heap.size, 1, none⟩ = some (.int .i64 f) := by rw [World.cell?_alloc_at _ _ _ _ rfl]; rfl
      have e2 : (wr.alloc (.cells #[.int .i64 d, .int .i64 f, .int .i64 u] 59)).cell? ⟨wr.heap.size, 2, none⟩ = some (.int .i64 u) := by rw [World.cell?_alloc_at _ _ _ _ rfl]; rfl
      have HX := Lib.hid (HR.out.alloc (Nat.le_of_lt hgl) (.cells #[.int .i64 d, .int .i64 f, .int .i64 u] 59))
      have hh2 : Hid ((wr.alloc (.cells #[.int .i64 d, .int .i64 f, .int .i64 u] 59)).heap[gg]? = some (.cells (ivals (fun x => ctxK t (px W H B) x y k) W) 3 (0, 0))) := by
        show _ = _
        rw [Below.heap_alloc _ _ _ hgl]; exact hheap.out
      have hgs2 : wr.heap.size < (wr.alloc (.cells #[.int .i64 d, .int .i64 f, .int .i64 u] 59)).heap.size := by simp
      obtain ⟨gs, hgs⟩ : ∃ gs, wr.heap.size = gs := ⟨_, rfl⟩
      rw [hgs] at e0 e1 e2 hgl hgs2 ⊢
      clear c0 c1 c2 HR hgs hheap
      generalize wr.alloc (.cells #[.int .i64 d, .int .i64 f, .int .i64 u] 59) = w4 at *
      by_cases hr : 0 ≤ (y : Int) + d
      · have C0' := Lib.hid ((HX.out.cell (p := ⟨W0, 0, none⟩) hlt2).trans C0.out)
        have c2 := (HX.out.cell (p := ⟨W0, 2, none⟩) hlt2).trans C2.out
        obtain ⟨r, hrr⟩ : ∃ r : Nat, (y : Int) + d = r := ⟨((y : Int) + d).toNat, by omega⟩
        have hrH : r < H := by omega
        obtain rfl : n = H * wd W := by have := HO.out.2.1; simpa using this
        have hp1 : (r + 1) * wd W ≤ H * wd W := Nat.mul_le_mul_right _ hrH
        have hp2 : (r + 1) * wd W = r * wd W + wd W := by rw [Nat.add_mul, Nat.one_mul]
        have hwp : 1 ≤ wd W := by unfold wd; omega
        rcases HW2.out with h0 | ⟨bb, off, rfl, hnc, hcap, hbs, hcell⟩
        · omega
        · have hHw : H * wd W ≤ 1048576 * 16384 := Nat.mul_le_mul (by omega) hwl
          have z1 : ((y : Int) + d) * (wd W : Int) = ((r * wd W : Nat) : Int) := by rw [hrr, Int.natCast_mul]
          have z2 : ((y : Int) + d + 1) * (wd W : Int) = ((r * wd W + wd W : Nat) : Int) := by rw [← hp2, hrr, Int.natCast_mul]; rfl
          have y1 : IntKind.i64.wrap (((y : Int) + d) * (wd W : Int)) = ((y : Int) + d) * (wd W : Int) := IntWalk.i64_in _ (by rw [z1]; omega)
          have y2 : IntKind.i64.wrap (((y : Int) + d + 1) * (wd W : Int)) = ((y : Int) + d + 1) * (wd W : Int) := IntWalk.i64_in _ (by rw [z2]; omega)
          have y3 : 0 ≤ ((y : Int) + d) * (wd W : Int) := by rw [z1]; omega
          have y4 : ((y : Int) + d) * (wd W : Int) ≤ ((y : Int) + d + 1) * (wd W : Int) := by rw [z1, z2]; omega
          have y5 : ((y : Int) + d + 1) * (wd W : Int) ≤ (cap : Int) := by rw [z2]; omega
          have y6 : ((y : Int) + d) * (wd W : Int) < (cap : Int) := by rw [z1]; omega
          have y7 : ((y : Int) + d + 1) * (wd W : Int) ≤ 17179869184 := by rw [z2]; omega
          have Z1 := Lib.hid z1
          have Z2 := Lib.hid z2
          have HRR := Lib.hid hrr
          have HC := Lib.hid hcell
          clear z1 z2 hrr hcell hp2 hp1
          have t1 : (((y : Int) + d) * (wd W : Int)).toNat = r * wd W := by rw [Z1.out]; omega
          have t2 : (((y : Int) + d + 1) * (wd W : Int)).toNat = r * wd W + wd W := by rw [Z2.out]; omega
          have t3 : r * wd W + wd W ≠ r * wd W := by omega
          have t4 : r * wd W + wd W - r * wd W = wd W := by omega
          have T := Lib.hid (And.intro t1 (And.intro t2 (And.intro t3 t4)))
          clear t1 t2 t3 t4
          go_upto_region 18 with fail
          rw [T.out.1, T.out.2.1, if_neg T.out.2.2.1, T.out.2.2.2]
          have l0 : (w4.alloc (.cells #[.slice (some ⟨bb, off + r * wd W, none⟩) (wd W) (wd W)] 22)).cell? ⟨w4.heap.size, 0, none⟩ = some (.slice (some ⟨bb, off + r * wd W, none⟩) (wd W) (wd W)) := by rw [World.cell?_alloc_at _ _ _ _ rfl]; rfl
          have hbx := (Below.refl w4.heap.size w4).alloc (Nat.le_refl _) (.cells #[.slice (some ⟨bb, off + r * wd W, none⟩) (wd W) (wd W)] 22)
          have e1 := (hbx.cell (p := ⟨gs, 1, none⟩) hgs2).trans e1
          have e2 := (hbx.cell (p := ⟨gs, 2, none⟩) hgs2).trans e2
          have hh3 : Hid ((w4.alloc (.cells #[.slice (some ⟨bb, off + r * wd W, none⟩) (wd W) (wd W)] 22)).heap[gg]? = some (.cells (ivals (fun x => ctxK t (px W H B) x y k) W) 3 (0, 0))) := by
            show _ = _
            rw [Below.heap_alloc _ _ _ (Nat.lt_trans hgl hgs2)]; exact hh2.out
          have HY := Lib.hid (HX.out.alloc (Nat.le_trans (Nat.le_of_lt hgl) (Nat.le_of_lt hgs2)) (.cells #[.slice (some ⟨bb, off + r * wd W, none⟩) (wd W) (wd W)] 22))
          have hgl2 : w4.heap.size < (w4.alloc (.cells #[.slice (some ⟨bb, off + r * wd W, none⟩) (wd W) (wd W)] 22)).heap.size := by simp
          obtain ⟨gl, hgll⟩ : ∃ gl, w4.heap.size = gl := ⟨_, rfl⟩
          rw [hgll] at l0 hgl2 hgs2 ⊢
          clear hgll hh2 HX e0 hbx c2 y1 y2 y3 y4 y5 y6 y7 Z1 Z2 T C0'
          generalize w4.alloc (.cells #[.slice (some ⟨bb, off + r * wd W, none⟩) (wd W) (wd W)] 22) = w5 at *
          have hbb : bb < gg := by rw [← HGG.out]; exact hbs
          have hbit : ∀ (x : Int) (wx : World), w5.grownBy wx (some gg) → Calls Try.prog 36 #[.int .i64 x, .pointer (some ⟨W0, 0, none⟩), .pointer (some ⟨gl, 0, none⟩)] wx fun e w' => e = .returned (.int .i64 (px W H B x (y + d) : Nat)) ∧ wx = w' := by
            intro x wx hg
            have hsz : gg < w5.heap.size := (Array.getElem?_eq_some_iff.1 hh3.out).1
            rw [HRR.out]
            refine bit36 W H B x r W0 gl bb (off + r * wd W) wx hw1 hrH ?_ ?_ ?_
            · exact (hg.cell_far ⟨W0, 0, none⟩ (Nat.lt_trans hlt2 hsz) (by simp; omega)).trans ((HY.out.cell (p := ⟨W0, 0, none⟩) hlt2).trans C0.out)
            · exact (hg.cell_far ⟨gl, 0, none⟩ hgl2 (by simp; omega)).trans l0
            · intro i hi
              have hp1 : (r + 1) * wd W ≤ H * wd W := Nat.mul_le_mul_right _ hrH
              have hp2 : (r + 1) * wd W = r * wd W + wd W := by rw [Nat.add_mul, Nat.one_mul]
              have hc := HC.out (r * wd W + i) (by omega)
              refine ⟨?_, hc.2⟩
              rw [Nat.add_assoc]
              exact (hg.cell_far ⟨bb, off + (r * wd W + i), none⟩ (Nat.lt_trans hbb hsz) (by simp; omega)).trans ((HY.out.cell (p := ⟨bb, off + (r * wd W + i), none⟩) hbb).trans hc.1)
          have HBIT := Lib.hid hbit
          clear hbit l0 HC
          have hm : (u - f).toNat + 1 ≤ 8 := by omega
          have hm1 : (u - f + 1).toNat = (u - f).toNat + 1 := by omega
          go_wp2_with fail
          go_loop [17, 18] (fun n i => ∃ j : Nat, j ≤ (u - f).toNat ∧ i = .int .i64 (f + j) ∧ n = .int .i64 (rowF (px W H B) 0 y f d 0 j : Nat)) (fun _ i => (u - intOf i).toNat)
          case atStart => exact ⟨0, Nat.zero_le _, by simp, rfl⟩
          case round =>
            obtain ⟨j, hj, rfl, rfl⟩ := hrel
            by_cases hju : j < (u - f).toNat
            · have hfj : f + (j : Int) < u := by omega
              have hlt2 : rowF (px W H B) 0 y f d 0 j < 2 ^ 24 := Nat.lt_of_lt_of_le (rowF_lt0 (px_le W H B) _ _ _ _ _) (Nat.pow_le_pow_right (by decide) (by omega))
              have hsc : Hid (rowF (px W H B) 0 y f d 0 (j + 1) = 2 * rowF (px W H B) 0 y f d 0 j + px W H B (f + j) (y + d)) := by show _ = _; rw [rowF, Int.zero_add]
              have hpl := px_le W H B (f + j) (y + d)
              generalize rowF (px W H B) 0 y f d 0 j = r0 at *
              go_wp2_with (go_at_call 36; refine (HBIT.out _ _ (grown_refl _ _)).mono ?_; rintro e w' ⟨rfl, rfl⟩)
              go_round
              case rel => exact ⟨j + 1, by omega, by congr 1; omega, by rw [or_bit _ _ (by omega) hpl, hsc.out]⟩
              case measure => simp [intOf]; omega
            · obtain rfl : j = (u - f).toNat := by omega
              have hfj : f + ((u - f).toNat : Int) = u := by omega
              have hfj1 : ¬ f + ((u - f).toNat : Int) < u := by omega
              have hfj2 : decide (f + ((u - f).toNat : Int) < u) = false := by simp; omega
              have HF := Lib.hid hfj
              clear hfj
              go_wp2_with fail
              go_loopw [17, 91] (fun wn i wx => ∃ q : Nat, q ≤ W ∧ i = .int .i64 q ∧ (∃ v : Nat, wn = .int .i64 v ∧ v < 2 ^ ((u - f).toNat + 1) ∧ Hid (v % 2 ^ (u - f).toNat = rowF (px W H B) q y f d 0 (u - f).toNat)) ∧
                Hid (wx.heap[gg]? = some (.cells (ivals (fun x => if x < q then ctxK t (px W H B) x y (k + 1) else ctxK t (px W H B) x y k) W) 3 (0, 0))) ∧ w5.grownBy wx (some gg)) (fun _ i _ => W - (intOf i).toNat)
              case atStart =>
                refine ⟨0, Nat.zero_le _, rfl, ⟨_, rfl, ?_, ?_⟩, ?_, grown_refl _ _⟩
                · exact Nat.lt_of_lt_of_le (rowF_lt0 (px_le W H B) _ _ _ _ _) (Nat.pow_le_pow_right (by decide) (by omega))
                · show _ = _
                  exact Nat.mod_eq_of_lt (rowF_lt0 (px_le W H B) _ _ _ _ _)
                · exact hh3
              case round =>
                obtain ⟨q, hq, rfl, ⟨v, rfl, hv, hvm⟩, hheap, hgr⟩ := hrel
                have hsz : gs < w5.heap.size := Nat.lt_trans hgs2 hgl2
                have e2 := (hgr.cell_far ⟨gs, 2, none⟩ hsz (by simp; omega)).trans e2
                have HG := Lib.hid hgr
                clear hgr
                by_cases hqw : q < W
                · have co : wr.cell? ⟨gg, q, none⟩ = some (.int .i64 (ctxK t (px W H B) q y k : Nat)) := by
                    have h := Joins.cell_of_block hheap.out q
                    rw [ivals_get _ _ hqw, if_neg (Nat.lt_irrefl _)] at h
                    exact h
                  have cf : wr.frozen? ⟨gg, q, none⟩ = false := Joins.unfrozen_of_block hheap.out _
                  have hol := Nat.lt_of_lt_of_le (ctxK_lt (px_le W H B) t q y k) (Nat.pow_le_pow_right (by decide : 0 < 2) q7)
                  have hv2 : v < 2 ^ 8 := Nat.lt_of_lt_of_le hv (Nat.pow_le_pow_right (by decide) hm)
                  have hpl := px_le W H B (q + u) (y + d)
                  go_upto_region 27 with fail
                  go_quiet ((go_at_call 36; exact quiet0 (HBIT.out _ _ (HG.out.trans (grown_drewN _ _ _)))))
                  have hst := window_step (px_le W H B) q y f d (u - f).toNat v hvm.out
                  rw [HF.out] at hst
                  rw [win_val _ _ _ hv2 hpl hm]
                  have hnl : (2 * v + px W H B (q + u) (y + d)) % 2 ^ ((u - f).toNat + 1) < 2 ^ ((u - f).toNat + 1) := Nat.mod_lt _ (Nat.two_pow_pos _)
                  have HNL := Lib.hid hnl
                  have HST := Lib.hid hst
                  have hnl2 := Nat.lt_of_lt_of_le hnl (Nat.pow_le_pow_right (by decide : 0 < 2) hm)
                  clear hnl hst hvm hv hpl
                  generalize (2 * v + px W H B (q + u) (y + d)) % 2 ^ ((u - f).toNat + 1) = nv at *
                  generalize hoo : ctxK t (px W H B) q y k = o at co hol
                  have HOO := Lib.hid hoo
                  clear hoo
                  go_wp2_with fail
                  rw [out_val o nv _ hol HNL.out hm]
                  go_roundw
                  case rel =>
                    refine ⟨q + 1, by omega, by go_num, ⟨nv, rfl, HNL.out, ?_⟩, ?_, ?_⟩
                    · show _ = _
                      rw [HST.out.1, HST.out.2]; rfl
                    · show _ = _
                      rw [Joins.block_setCell (w := wr.drewN nq) hheap.out, ivals_set _ _ _ _ hqw]
                      congr 2
                      apply ivals_ext
                      intro x hx
                      by_cases e : x = q
                      · subst e
                        rw [if_pos rfl, if_pos (by omega), hck.out, hm1, rowF_off, HOO.out, HST.out.1]
                      · rw [if_neg e]
                        by_cases e2 : x < q
                        · rw [if_pos e2, if_pos (by omega)]
                        · rw [if_neg e2, if_neg (by omega)]
                    · exact (HG.out.trans (grown_drewN _ _ _)).trans (grown_setCell _ _ _)
                  case measure => simp [intOf]; omega
                · obtain rfl : q = W := by omega
                  go_wp2_with fail
                  go_roundw
                  case rel =>
                    refine ⟨k + 1, by omega, by go_num, ?_, ?_⟩
                    · show _ = _
                      rw [hheap.out]
                      congr 2
                      apply ivals_ext
                      intro x hx
                      rw [if_pos hx]
                    · exact HY.out.grown HG.out (Nat.le_of_lt (Nat.lt_trans hgl hsz)) (fun k e => by cases e; exact Nat.le_refl _)
                  case measure => simp [intOf]; omega
      · have hh3 := hh2
        have HY := HX
        have hsz0 := hgs2
        have hbit : ∀ (x : Int) (wx : World), w4.grownBy wx (some gg) → Calls Try.prog 35 #[.int .i64 x] wx fun e w' => e = .returned (.int .i64 (px W H B x (y + d) : Nat)) ∧ wx = w' := by
          intro x wx hg
          have e : px W H B x (y + d) = 0 := px_far (by omega)
          rw [e]
          exact bit35 x wx
        have HBIT := Lib.hid hbit
        clear hbit hh2 HX
        have hm : (u - f).toNat + 1 ≤ 8 := by omega
        have hm1 : (u - f + 1).toNat = (u - f).toNat + 1 := by omega
        go_upto_region 18 with fail
        clear e0
        go_wp2_with fail
        go_loop [17, 18] (fun n i => ∃ j : Nat, j ≤ (u - f).toNat ∧ i = .int .i64 (f + j) ∧ n = .int .i64 (rowF (px W H B) 0 y f d 0 j : Nat)) (fun _ i => (u - intOf i).toNat)
        case atStart => exact ⟨0, Nat.zero_le _, by simp, rfl⟩
        case round =>
          obtain ⟨j, hj, rfl, rfl⟩ := hrel
          by_cases hju : j < (u - f).toNat
          · have hfj : f + (j : Int) < u := by omega
            have hlt2 : rowF (px W H B) 0 y f d 0 j < 2 ^ 24 := Nat.lt_of_lt_of_le (rowF_lt0 (px_le W H B) _ _ _ _ _) (Nat.pow_le_pow_right (by decide) (by omega))
            have hsc : Hid (rowF (px W H B) 0 y f d 0 (j + 1) = 2 * rowF (px W H B) 0 y f d 0 j + px W H B (f + j) (y + d)) := by show _ = _; rw [rowF, Int.zero_add]
            have hpl := px_le W H B (f + j) (y + d)
            generalize rowF (px W H B) 0 y f d 0 j = r0 at *
            go_wp2_with (go_at_call 35; refine (HBIT.out _ _ (grown_refl _ _)).mono ?_; rintro e w' ⟨rfl, rfl⟩)
            go_round
            case rel => exact ⟨j + 1, by omega, by congr 1; omega, by rw [or_bit _ _ (by omega) hpl, hsc.out]⟩
            case measure => simp [intOf]; omega
          · obtain rfl : j = (u - f).toNat := by omega
            have hfj : f + ((u - f).toNat : Int) = u := by omega
            have hfj1 : ¬ f + ((u - f).toNat : Int) < u := by omega
            have hfj2 : decide (f + ((u - f).toNat : Int) < u) = false := by simp; omega
            have HF := Lib.hid hfj
            clear hfj
            go_wp2_with fail
            go_loopw [17, 91] (fun wn i wx => ∃ q : Nat, q ≤ W ∧ i = .int .i64 q ∧ (∃ v : Nat, wn = .int .i64 v ∧ v < 2 ^ ((u - f).toNat + 1) ∧ Hid (v % 2 ^ (u - f).toNat = rowF (px W H B) q y f d 0 (u - f).toNat)) ∧
              Hid (wx.heap[gg]? = some (.cells (ivals (fun x => if x < q then ctxK t (px W H B) x y (k + 1) else ctxK t (px W H B) x y k) W) 3 (0, 0))) ∧ w4.grownBy wx (some gg)) (fun _ i _ => W - (intOf i).toNat)
            case atStart =>
              refine ⟨0, Nat.zero_le _, rfl, ⟨_, rfl, ?_, ?_⟩, ?_, grown_refl _ _⟩
              · exact Nat.lt_of_lt_of_le (rowF_lt0 (px_le W H B) _ _ _ _ _) (Nat.pow_le_pow_right (by decide) (by omega))
              · show _ = _
                exact Nat.mod_eq_of_lt (rowF_lt0 (px_le W H B) _ _ _ _ _)
              · exact hh3
            case round =>
              obtain ⟨q, hq, rfl, ⟨v, rfl, hv, hvm⟩, hheap, hgr⟩ := hrel
              have hsz := hsz0
              have e2 := (hgr.cell_far ⟨gs, 2, none⟩ hsz (by simp; omega)).trans e2
              have HG := Lib.hid hgr
              clear hgr
              by_cases hqw : q < W
              · have co : wr.cell? ⟨gg, q, none⟩ = some (.int .i64 (ctxK t (px W H B) q y k : Nat)) := by
                  have h := Joins.cell_of_block hheap.out q
                  rw [ivals_get _ _ hqw, if_neg (Nat.lt_irrefl _)] at h
                  exact h
                have cf : wr.frozen? ⟨gg, q, none⟩ = false := Joins.unfrozen_of_block hheap.out _
                have hol := Nat.lt_of_lt_of_le (ctxK_lt (px_le W H B) t q y k) (Nat.pow_le_pow_right (by decide : 0 < 2) q7)
                have hv2 : v < 2 ^ 8 := Nat.lt_of_lt_of_le hv (Nat.pow_le_pow_right (by decide) hm)
                have hpl := px_le W H B (q + u) (y + d)
                go_upto_region 27 with fail
                go_quiet ((go_at_call 35; exact quiet0 (HBIT.out _ _ (HG.out.trans (grown_drewN _ _ _)))))
                have hst := window_step (px_le W H B) q y f d (u - f).toNat v hvm.out
                rw [HF.out] at hst
                rw [win_val _ _ _ hv2 hpl hm]
                have hnl : (2 * v + px W H B (q + u) (y + d)) % 2 ^ ((u - f).toNat + 1) < 2 ^ ((u - f).toNat + 1) := Nat.mod_lt _ (Nat.two_pow_pos _)
                have HNL := Lib.hid hnl
                have HST := Lib.hid hst
                have hnl2 := Nat.lt_of_lt_of_le hnl (Nat.pow_le_pow_right (by decide : 0 < 2) hm)
                clear hnl hst hvm hv hpl
                generalize (2 * v + px W H B (q + u) (y + d)) % 2 ^ ((u - f).toNat + 1) = nv at *
                generalize hoo : ctxK t (px W H B) q y k = o at co hol
                have HOO := Lib.hid hoo
                clear hoo
                go_wp2_with fail
                rw [out_val o nv _ hol HNL.out hm]
                go_roundw
                case rel =>
                  refine ⟨q + 1, by omega, by go_num, ⟨nv, rfl, HNL.out, ?_⟩, ?_, ?_⟩
                  · show _ = _
                    rw [HST.out.1, HST.out.2]; rfl
                  · show _ = _
                    rw [Joins.block_setCell (w := wr.drewN nq) hheap.out, ivals_set _ _ _ _ hqw]
                    congr 2
                    apply ivals_ext
                    intro x hx
                    by_cases e : x = q
                    · subst e
                      rw [if_pos rfl, if_pos (by omega), hck.out, hm1, rowF_off, HOO.out, HST.out.1]
                    · rw [if_neg e]
                      by_cases e2 : x < q
                      · rw [if_pos e2, if_pos (by omega)]
                      · rw [if_neg e2, if_neg (by omega)]
                  · exact (HG.out.trans (grown_drewN _ _ _)).trans (grown_setCell _ _ _)
                case measure => simp [intOf]; omega
              · obtain rfl : q = W := by omega
                go_wp2_with fail
                go_roundw
                case rel =>
                  refine ⟨k + 1, by omega, by go_num, ?_, ?_⟩
                  · show _ = _
                    rw [hheap.out]
                    congr 2
                    apply ivals_ext
                    intro x hx
                    rw [if_pos hx]
                  · exact HY.out.grown HG.out (Nat.le_of_lt (Nat.lt_trans hgl hsz)) (fun k e => by cases e; exact Nat.le_refl _)
                case measure => simp [intOf]; omega
    · obtain rfl : k = spn t := by omega
      have HR := Lib.hid hbr
      clear hbr
      go_wp2_with fail
      go_ret2
      refine ⟨gg, ?_, rfl, hheap.out, ?_⟩
      · rw [← HGG.out]; exact HB2.out.size
      · exact HB2.out.trans (HR.out.mono (by rw [← HGG.out]; exact HB2.out.size))
end Go.Proofs.Ytknhgenhknjkoaa
