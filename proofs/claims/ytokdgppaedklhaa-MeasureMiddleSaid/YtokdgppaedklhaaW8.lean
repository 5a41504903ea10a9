/- The walk of Bins of package measure, and of EqInts. Conditions: the bounds that each theorem names. -/
import Derived.Test.YtokdgppaedklhaaW7
namespace Go.Proofs.Ytokdgppaedklhaa
open Go.RowKit Fl Go.FlW

theorem run_store_float (P : Program) (w : World) (a : Addr) (m : Mode) (k : FloatKind) (b : Nat) : (store a (.float k b) m).run P w = stored P w a (.float k b) m := run_store P w a _ m rfl
attribute [local go_sem] run_store_float

theorem IsFl.below {w w' : World} {v : Value} {n : Nat} {L : Nat → Nat} (h : IsFl w v n L) (hb : Below w.heap.size w w') : IsFl w' v n L := by
  obtain ⟨a, cap, rfl, h⟩ := h
  refine ⟨a, cap, rfl, ?_⟩
  rcases h with h | ⟨g, h1, h2, h3, h4, h5⟩
  · exact Or.inl h
  · exact Or.inr ⟨g, h1, h2, h3, Nat.lt_of_lt_of_le h4 hb.size, fun i hi => ⟨(hb.cell (p := ⟨g, i, none⟩) h4).trans (h5 i hi).1, (h5 i hi).2⟩⟩

set_option maxRecDepth 100000 in
set_option maxHeartbeats 2000000 in
theorem bins25 (v u : Value) (n ne : Nat) (L E : Nat → Nat) (w : World) (hv : IsFl w v n L) (hu : IsFl w u ne E) (hn : n ≤ 2000) (hne : ne ≤ 200) :
    Calls Try.prog 25 #[v, u] w (BinsOk E ne L n w) := by
  have hu0 := hu
  obtain ⟨a1, cap1, rfl, h1⟩ := hv
  obtain ⟨a2, cap2, rfl, h2⟩ := hu
  have hmf : ∀ (fn : Fn) (first cap : Array Value) (w : World), (Instr.makeFunc fn first cap).run Try.prog w = .ok (.func fn first cap) w := fun _ _ _ _ => rfl
  have hmk := fun W => run_make_row' (P := Try.prog) 48 3 (.int .i64 0) 8 Try.underlying48 info3 rfl .i64 .i64 (ne + 2) (by omega) (by omega) W
  have ec : ((ne + 2 : Nat) : Int) = (ne : Int) + 2 := by omega
  simp only [ec] at hmk
  clear ec
  go_enter Try.func25, Try.ntmps25
  go_wp2
  go_loopw [6, 13] (fun _ i wr => ∃ k : Nat, k ≤ ne ∧ i = .int .i64 k ∧ Hid (okE E k) ∧ Below w.heap.size w wr) (fun _ i _ => ne - (intOf i).toNat)
  case atStart => exact ⟨0, Nat.zero_le _, rfl, fun i hi => absurd hi (Nat.not_lt_zero _), Below.refl _ _⟩
  case round =>
    obtain ⟨k, hk, rfl, hok, hbel⟩ := hrel
    by_cases hlt : k < ne
    · rcases h2 with rfl | ⟨g, rfl, hl, hc, hb, hcell⟩
      · omega
      · obtain ⟨c1, b1⟩ := hcell k hlt
        have c1 := (hbel.cell (p := ⟨g, k, none⟩) hb).trans c1
        cases nk : isNaN D (E k)
        · by_cases hk0 : 0 < k
          · obtain ⟨c2, b2⟩ := hcell (k - 1) (by omega)
            have c2 := (hbel.cell (p := ⟨g, k - 1, none⟩) hb).trans c2
            have nk1 := (hok.out (k - 1) (by omega)).1
            have tk : ((k : Int) - 1).toNat = k - 1 := by omega
            have hk1 : (0 : Int) < (k : Int) := by omega
            have hk2 : (0 : Int) ≤ (k : Int) - 1 := by omega
            have hk3 : (k : Int) - 1 < (ne : Int) := by omega
            have hk4 : (1 : Int) ≤ (k : Int) := by omega
            have hk5 : 1 ≤ k := by omega
            have hk6 : (k : Int) ≤ (ne : Int) := by omega
            have ew : IntKind.i64.wrap ((k : Int) - 1) = (k : Int) - 1 := IntWalk.i64_in _ (by omega)
            clear hcell hmk
            by_cases hkey : key D (E (k - 1)) < key D (E k)
            · have ho : (FloatKind.f64.format.order (E (k - 1)) (E k) == some .gt || FloatKind.f64.format.order (E (k - 1)) (E k) == some .eq) = false := by
                rw [ord_ge, nk, nk1, decide_eq_false (by omega)]; rfl
              have HK := Lib.hid hkey; clear hkey
              go_wp2
              go_quiet ((go_at_call 33; exact quietL0 (nan33_of _ nk)))
              clear ew
              go_wp2
              go_roundw
              case rel => exact ⟨k + 1, by omega, by go_num, okE_succ hok.out nk (fun _ => HK.out), below_drewN hbel _⟩
              case measure => simp [intOf]; omega
            · have ho : (FloatKind.f64.format.order (E (k - 1)) (E k) == some .gt || FloatKind.f64.format.order (E (k - 1)) (E k) == some .eq) = true := by
                rw [ord_ge, nk, nk1, decide_eq_true (by omega)]; rfl
              have HK := Lib.hid hkey; clear hkey
              go_wp2
              go_quiet ((go_at_call 33; exact quietL0 (nan33_of _ nk)))
              clear ew
              go_wp2
              go_ret2
              exact ⟨below_drewN hbel _, Or.inl ⟨fun g => by have h1 := HK.out; have h2 := (g k hlt).2 (by omega); omega, rfl⟩⟩
          · have hg0 : decide ((0 : Int) < (k : Int)) = false := by simp; omega
            have hg1 : decide (0 < k) = false := decide_eq_false hk0
            have HK := Lib.hid hk0
            clear hcell hmk hk0
            go_wp2
            go_quiet ((go_at_call 33; exact quietL0 (nan33_of _ nk)))
            go_wp2
            go_roundw
            case rel => exact ⟨k + 1, by omega, by go_num, okE_succ hok.out nk (fun g => absurd g HK.out), below_drewN hbel _⟩
            case measure => simp [intOf]; omega
        · clear hcell hmk
          go_wp2
          go_quiet ((go_at_call 33; exact quietL0 (nan33_of _ nk)))
          go_wp2
          go_ret2
          exact ⟨below_drewN hbel _, Or.inl ⟨(fun g => by rw [(g k hlt).1] at nk; cases nk), rfl⟩⟩
    · obtain rfl : k = ne := by omega
      have hmk1 := hmk wr
      clear hmk h2
      go_wp2
      have hs0 : (wr.alloc (.cells (madeCells #[.int .i64 0] (k + 2)) 3)).heap[wr.heap.size]? = some (.cells (cntArr E k L 0) 3 (0, 0)) := by
        rw [cntArr_start]; exact heap_alloc_new wr _
      have hb0 : Below w.heap.size w (wr.alloc (.cells (madeCells #[.int .i64 0] (k + 2)) 3)) := hbel.alloc hbel.size _
      have hge := hbel.size
      obtain ⟨gg, hgg⟩ : ∃ gg, wr.heap.size = gg := ⟨_, rfl⟩
      rw [hgg] at hs0 hge ⊢
      clear hmk1 hbel hgg
      generalize wr.alloc (.cells (madeCells #[.int .i64 0] (k + 2)) 3) = w0 at *
      go_loopw [9, 10, 44] (fun _ _ i wx => ∃ m : Nat, m ≤ n ∧ i = .int .i64 m ∧ Hid (wx.heap[gg]? = some (.cells (cntArr E k L m) 3 (0, 0))) ∧ Below w.heap.size w wx) (fun _ _ i _ => n - (intOf i).toNat)
      case atStart => exact ⟨0, Nat.zero_le _, rfl, hs0, hb0⟩
      case round =>
        obtain ⟨m, hm, rfl, hheap, hbx⟩ := hrel
        by_cases hlt2 : m < n
        · rcases h1 with rfl | ⟨g1, rfl, hl1, hc1, hb1, hcell1⟩
          · omega
          · obtain ⟨d1, e1⟩ := hcell1 m hlt2
            have d1 := (hbx.cell (p := ⟨g1, m, none⟩) hb1).trans d1
            clear hcell1
            go_upto_region 11 with fail
            have hx0 : (wr.alloc (.cells #[.float .f64 (L m)] 23)).cell? ⟨wr.heap.size, 0, none⟩ = some (.float .f64 (L m)) := by
              rw [World.cell?_alloc_at _ _ _ _ rfl]; rfl
            have hgl : gg < wr.heap.size := (Array.getElem?_eq_some_iff.1 hheap.out).1
            have hh2 : Hid ((wr.alloc (.cells #[.float .f64 (L m)] 23)).heap[gg]? = some (.cells (cntArr E k L m) 3 (0, 0))) := by
              show _ = _
              rw [Below.heap_alloc _ _ _ hgl]; exact hheap.out
            have hb2 : Below w.heap.size w (wr.alloc (.cells #[.float .f64 (L m)] 23)) := hbx.alloc hbx.size _
            have hfl2 := hu0.below hb2
            obtain ⟨bx, hbxn⟩ : ∃ bx, wr.heap.size = bx := ⟨_, rfl⟩
            rw [hbxn] at hx0 hgl ⊢
            clear hbxn d1 hheap hbx
            generalize wr.alloc (.cells #[.float .f64 (L m)] 23) = w2 at *
            have HF := Lib.hid hfl2; clear hfl2
            cases nx : isNaN D (L m)
            · go_upto_region 14 with (first | (go_at_call 33; refine (nan33_of _ nx).mono ?_; rintro e w' ⟨rfl, rfl⟩) | (go_at_call 38; refine (index38 _ _ _ _ _ _ HF.out hx0).mono ?_; rintro e w' ⟨i, rfl, hi, rfl⟩))
              rcases hi with ⟨rfl, hi⟩ | ⟨j, hj, rfl, hi⟩
              · have hbin : bin E k (L m) = k := by unfold bin; rw [nx]; exact hi
                have hcb := cntArr_get E k L m (j := k) (by omega)
                have hc1 : w2.cell? ⟨gg, k, none⟩ = some (.int .i64 (cnt E k L m (k) : Nat)) := by
                  rw [← hcb]; exact Joins.cell_of_block hh2.out _
                have hf1 : w2.frozen? ⟨gg, k, none⟩ = false := Joins.unfrozen_of_block hh2.out _
                have hcl := cnt_le E k L m (k)
                have hst : Hid ((w2.setCell ⟨gg, k, none⟩ (.int .i64 ((cnt E k L m (k) : Nat) + 1))).heap[gg]? = some (.cells (cntArr E k L (m + 1)) 3 (0, 0))) := by
                  have := Joins.block_setCell hh2.out (i := k) (.int .i64 ((cnt E k L m (k) : Nat) + 1))
                  show _ = _
                  rw [this, cntArr_step, hbin]
                have HB := Lib.hid hbin; clear hbin hcb hi
                go_wp2_with fail
                go_roundw
                case rel => exact ⟨m + 1, by omega, by go_num, hst, hb2.setCell hge _⟩
                case measure => simp [intOf]; omega
              · have hbin : bin E k (L m) = j := by unfold bin; rw [nx]; exact hi
                have hcb := cntArr_get E k L m (j := j) (by omega)
                have hc1 : w2.cell? ⟨gg, j, none⟩ = some (.int .i64 (cnt E k L m (j) : Nat)) := by
                  rw [← hcb]; exact Joins.cell_of_block hh2.out _
                have hf1 : w2.frozen? ⟨gg, j, none⟩ = false := Joins.unfrozen_of_block hh2.out _
                have hcl := cnt_le E k L m (j)
                have hst : Hid ((w2.setCell ⟨gg, j, none⟩ (.int .i64 ((cnt E k L m (j) : Nat) + 1))).heap[gg]? = some (.cells (cntArr E k L (m + 1)) 3 (0, 0))) := by
                  have := Joins.block_setCell hh2.out (i := j) (.int .i64 ((cnt E k L m (j) : Nat) + 1))
                  show _ = _
                  rw [this, cntArr_step, hbin]
                have HB := Lib.hid hbin; clear hbin hcb hi
                go_wp2_with fail
                go_roundw
                case rel => exact ⟨m + 1, by omega, by go_num, hst, hb2.setCell hge _⟩
                case measure => simp [intOf]; omega
            · have hbin : bin E k (L m) = k + 1 := by unfold bin; rw [nx]; rfl
              have hcb := cntArr_get E k L m (j := k + 1) (by omega)
              have hc1 : w2.cell? ⟨gg, k + 1, none⟩ = some (.int .i64 (cnt E k L m (k + 1) : Nat)) := by
                rw [← hcb]; exact Joins.cell_of_block hh2.out _
              have hf1 : w2.frozen? ⟨gg, k + 1, none⟩ = false := Joins.unfrozen_of_block hh2.out _
              have hcl := cnt_le E k L m (k + 1)
              have hst : Hid ((w2.setCell ⟨gg, k + 1, none⟩ (.int .i64 ((cnt E k L m (k + 1) : Nat) + 1))).heap[gg]? = some (.cells (cntArr E k L (m + 1)) 3 (0, 0))) := by
                have := Joins.block_setCell hh2.out (i := k + 1) (.int .i64 ((cnt E k L m (k + 1) : Nat) + 1))
                show _ = _
                rw [this, cntArr_step, hbin]
              have tk : ((k : Int) + 1).toNat = k + 1 := by omega
              have HB := Lib.hid hbin; clear hbin hcb
              go_wp2_with (go_at_call 33; refine (nan33_of _ nx).mono ?_; rintro e w' ⟨rfl, rfl⟩)
              go_roundw
              case rel => exact ⟨m + 1, by omega, by go_num, hst, hb2.setCell hge _⟩
              case measure => simp [intOf]; omega
        · obtain rfl : m = n := by omega
          go_wp2
          go_ret2
          exact ⟨hbx, Or.inr ⟨hok.out, gg, hge, rfl, hheap.out⟩⟩
end Go.Proofs.Ytokdgppaedklhaa
