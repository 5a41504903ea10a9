/- The walks of Bins of package measure and of its reference. Conditions: the bounds that each theorem names. -/
import Derived.Test.YtokdgppaedklhaaW6
import Derived.Test.YtokdgppaedklhaaFlB
import Derived.Deep.Cut
import Derived.Deep.OwnRows
import Derived.BigQuiet
import Derived.Deep.QuietTactic
import Derived.Deep.RegionHeld3
namespace Go.Proofs.Ytokdgppaedklhaa
open Go.RowKit Fl Go.FlW

set_option maxHeartbeats 400000 in
theorem below39 (e x bx : Nat) (w : World) (hx : w.cell? ⟨bx, 0, none⟩ = some (.float .f64 x)) :
    Calls Try.prog 39 #[.float .f64 e, .pointer (some ⟨bx, 0, none⟩)] w fun r w' => r = .returned (.bool (ltB x e)) ∧ w = w' := by
  have ho := ltB_order x e
  go_enter Try.func39, Try.ntmps39
  go_wp2
  go_ret
  exact ⟨rfl, rfl⟩

def IsIdx (E : Nat → Nat) (x ne : Nat) (r : Int) : Prop := (r = -1 ∧ firstLt E x ne 0 = ne) ∨ ∃ i : Nat, i < ne ∧ r = i ∧ firstLt E x ne 0 = i

set_option maxRecDepth 100000 in
set_option maxHeartbeats 1000000 in
theorem index38 (v : Value) (ne : Nat) (E : Nat → Nat) (x bx : Nat) (w : World) (h : IsFl w v ne E) (hx : w.cell? ⟨bx, 0, none⟩ = some (.float .f64 x)) :
    Calls Try.prog 38 #[v, .func (.func 39) #[] #[.pointer (some ⟨bx, 0, none⟩)]] w fun r w' => ∃ i, r = .returned (.int .i64 i) ∧ IsIdx E x ne i ∧ w = w' := by
  obtain ⟨a, cap, rfl, h⟩ := h
  rcases h with rfl | ⟨g, rfl, hl, hc, hb, hcell⟩
  · go_enter Try.func38, Try.ntmps38
    go_wp2
    go_loop [8] (fun i => i = .int .i64 0) (fun _ => 0)
    case atStart => exact rfl
    case round =>
      obtain rfl := hrel
      go_wp2
      go_ret
      exact ⟨_, rfl, Or.inl ⟨rfl, rfl⟩, rfl⟩
  · go_enter Try.func38, Try.ntmps38
    go_wp2
    go_loop [5, 8] (fun _ i => ∃ k : Nat, k ≤ ne ∧ i = .int .i64 k ∧ Hid (∀ j, j < k → ltB x (E j) = false)) (fun _ i => ne - (intOf i).toNat)
    case atStart => exact ⟨0, Nat.zero_le _, rfl, fun j hj => absurd hj (Nat.not_lt_zero _)⟩
    case round =>
      obtain ⟨k, hk, rfl, hbelow⟩ := hrel
      by_cases hlt : k < ne
      · obtain ⟨c1, b1⟩ := hcell k hlt
        clear hcell
        cases hq : ltB x (E k)
        · go_wp2_with (go_at_call 39; refine (below39 _ _ _ _ hx).mono ?_; rintro e w' ⟨rfl, rfl⟩)
          go_round
          case rel =>
            refine ⟨k + 1, by omega, by go_num, fun j hj => ?_⟩
            by_cases e : j = k
            · rw [e]; exact hq
            · exact hbelow.out j (by omega)
          case measure => simp [intOf]; omega
        · go_wp2_with (go_at_call 39; refine (below39 _ _ _ _ hx).mono ?_; rintro e w' ⟨rfl, rfl⟩)
          go_ret
          exact ⟨_, rfl, Or.inr ⟨k, hlt, rfl, firstLt_eq (by omega) hbelow.out (fun _ => hq)⟩, rfl⟩
      · clear hcell
        go_wp2
        go_ret
        exact ⟨_, rfl, Or.inl ⟨rfl, firstLt_eq (Nat.le_refl _) (fun j hj => hbelow.out j (by omega)) (fun g => by omega)⟩, rfl⟩

/-- what Bins hands back -/
def BinsOk (E : Nat → Nat) (ne : Nat) (L : Nat → Nat) (n : Nat) (w : World) (e : Ending) (w' : World) : Prop :=
  Below w.heap.size w w' ∧ ((¬ okE E ne ∧ e = .returned (.tuple #[.slice none 0 0, .int .i64 102])) ∨
    (okE E ne ∧ ∃ g, w.heap.size ≤ g ∧ e = .returned (.tuple #[.slice (some ⟨g, 0, none⟩) (ne + 2) (ne + 2), .int .i64 0]) ∧ w'.heap[g]? = some (.cells (cntArr E ne L n) 3 (0, 0))))

theorem info3 : (Try.prog.info? 3).map (fun i => (i.zero, i.size, i.bytes)) = some (some (.int .i64 0), 1, 8) := by kernel_rfl

theorem quietL {f : FuncId} {args : Array Value} {w : World} {a n : Nat} {v : Value}
    (h : Calls Try.prog f args (w.drewN (a + n)) fun e w' => e = .returned v ∧ w.drewN (a + n) = w') :
    Calls Try.prog f args (w.drewN (a + n)) fun e w'' => e = .returned v ∧ ∃ m, w'' = w.drewN (a + m) :=
  h.mono fun _ _ ⟨he, hm⟩ => ⟨he, n, hm.symm⟩
theorem quietL0 {f : FuncId} {args : Array Value} {w : World} {n : Nat} {v : Value}
    (h : Calls Try.prog f args (w.drewN n) fun e w' => e = .returned v ∧ w.drewN n = w') :
    Calls Try.prog f args (w.drewN n) fun e w'' => e = .returned v ∧ ∃ m, w'' = w.drewN m :=
  h.mono fun _ _ ⟨he, hm⟩ => ⟨he, n, hm.symm⟩

theorem nan31_of {x : Nat} {b : Bool} (w : World) (h : isNaN D x = b) : Calls Try.prog 31 #[.float .f64 x] w fun e w' => e = .returned (.bool b) ∧ w = w' :=
  (nan31 x w).mono fun e w' ⟨he, hw⟩ => ⟨by rw [he, h], hw⟩
theorem nan33_of {x : Nat} {b : Bool} (w : World) (h : isNaN D x = b) : Calls Try.prog 33 #[.float .f64 x] w fun e w' => e = .returned (.bool b) ∧ w = w' :=
  (isnan33 x w).mono fun e w' ⟨he, hw⟩ => ⟨by rw [he, h], hw⟩

theorem okE_succ {E : Nat → Nat} {k : Nat} (h : okE E k) (h1 : isNaN D (E k) = false) (h2 : 0 < k → key D (E (k - 1)) < key D (E k)) : okE E (k + 1) := by
  intro i hi
  by_cases e : i = k
  · rw [e]; exact ⟨h1, h2⟩
  · exact h i (by omega)

set_option maxRecDepth 100000 in
set_option maxHeartbeats 2000000 in
theorem bins26 (v u : Value) (n ne : Nat) (L E : Nat → Nat) (w : World) (hv : IsFl w v n L) (hu : IsFl w u ne E) (hn : n ≤ 2000) (hne : ne ≤ 200) :
    Calls Try.prog 26 #[v, u] w (BinsOk E ne L n w) := by
  obtain ⟨a1, cap1, rfl, h1⟩ := hv
  obtain ⟨a2, cap2, rfl, h2⟩ := hu
  have hmk := fun W => run_make_row' (P := Try.prog) 48 3 (.int .i64 0) 8 Try.underlying48 info3 rfl .i64 .i64 (ne + 2) (by omega) (by omega) W
  have ec : ((ne + 2 : Nat) : Int) = (ne : Int) + 2 := by omega
  simp only [ec] at hmk
  clear ec
  go_enter Try.func26, Try.ntmps26
  go_wp2
  go_loopw [6] (fun i wr => ∃ k : Nat, k ≤ ne ∧ i = .int .i64 k ∧ Hid (okE E k) ∧ Below w.heap.size w wr) (fun i _ => ne - (intOf i).toNat)
  case atStart => exact ⟨0, Nat.zero_le _, rfl, fun i hi => absurd hi (Nat.not_lt_zero _), Below.refl _ _⟩
  case round =>
    obtain ⟨k, hk, rfl, hok, hbel⟩ := hrel
    by_cases hlt : k < ne
    · rcases h2 with rfl | ⟨g, rfl, hl, hc, hb, hcell⟩
      · omega
      · obtain ⟨c1, b1⟩ := hcell k hlt
        have c1 := (hbel.cell (p := ⟨g, k, none⟩) hb).trans c1
        cases nk : isNaN D (E k)
        · by_cases hk0 : 0 < k
          · obtain ⟨c2, b2⟩ := hcell (k - 1) (by omega)
            have c2 := (hbel.cell (p := ⟨g, k - 1, none⟩) hb).trans c2
            have nk1 := (hok.out (k - 1) (by omega)).1
            have tk : ((k : Int) - 1).toNat = k - 1 := by omega
            have hk1 : (0 : Int) < (k : Int) := by omega
            have hk2 : (0 : Int) ≤ (k : Int) - 1 := by omega
            have hk3 : (k : Int) - 1 < (ne : Int) := by omega
            have hk4 : (1 : Int) ≤ (k : Int) := by omega
            have hk5 : 1 ≤ k := by omega
            have hk6 : (k : Int) ≤ (ne : Int) := by omega
            have ew : IntKind.i64.wrap ((k : Int) - 1) = (k : Int) - 1 := IntWalk.i64_in _ (by omega)
            clear hcell hmk
            by_cases hkey : key D (E (k - 1)) < key D (E k)
            · have ho : (FloatKind.f64.format.order (E k) (E (k - 1)) == some .gt) = true := by rw [ord_gt, nk, nk1, decide_eq_true hkey]; rfl
              have HK := Lib.hid hkey; clear hkey
              go_wp2
              go_quiet ((go_at_call 31; exact quietL0 (nan31_of _ nk)))
              clear ew
              go_wp2
              go_roundw
              case rel => exact ⟨k + 1, by omega, by go_num, okE_succ hok.out nk (fun _ => HK.out), below_drewN hbel _⟩
              case measure => simp [intOf]; omega
            · have ho : (FloatKind.f64.format.order (E k) (E (k - 1)) == some .gt) = false := by rw [ord_gt, nk, nk1, decide_eq_false hkey]; rfl
              have HK := Lib.hid hkey; clear hkey
              go_wp2
              go_quiet ((go_at_call 31; exact quietL0 (nan31_of _ nk)))
              clear ew
              go_wp2
              go_ret2
              exact ⟨below_drewN hbel _, Or.inl ⟨fun g => by have h1 := HK.out; have h2 := (g k hlt).2 (by omega); omega, rfl⟩⟩
          · have hg0 : decide ((0 : Int) < (k : Int)) = false := by simp; omega
            have hg1 : decide (0 < k) = false := decide_eq_false hk0
            have HK := Lib.hid hk0
            clear hcell hmk hk0
            go_wp2
            go_quiet ((go_at_call 31; exact quietL0 (nan31_of _ nk)))
            go_wp2
            go_roundw
            case rel => exact ⟨k + 1, by omega, by go_num, okE_succ hok.out nk (fun g => absurd g HK.out), below_drewN hbel _⟩
            case measure => simp [intOf]; omega
        · clear hcell hmk
          go_wp2
          go_quiet ((go_at_call 31; exact quietL0 (nan31_of _ nk)))
          go_wp2
          go_ret2
          exact ⟨below_drewN hbel _, Or.inl ⟨(fun g => by rw [(g k hlt).1] at nk; cases nk), rfl⟩⟩
    · obtain rfl : k = ne := by omega
      have hmk1 := hmk wr
      clear hmk
      go_wp2
      have hs0 : (wr.alloc (.cells (madeCells #[.int .i64 0] (k + 2)) 3)).heap[wr.heap.size]? = some (.cells (cntArr E k L 0) 3 (0, 0)) := by
        rw [cntArr_start]; exact heap_alloc_new wr _
      have hb0 : Below w.heap.size w (wr.alloc (.cells (madeCells #[.int .i64 0] (k + 2)) 3)) := hbel.alloc hbel.size _
      have hge := hbel.size
      obtain ⟨gg, hgg⟩ : ∃ gg, wr.heap.size = gg := ⟨_, rfl⟩
      rw [hgg] at hs0 hge ⊢
      clear hmk1 hbel hgg
      generalize wr.alloc (.cells (madeCells #[.int .i64 0] (k + 2)) 3) = w0 at *
      go_loopw [8, 9] (fun i _ wx => ∃ m : Nat, m ≤ n ∧ i = .int .i64 m ∧ Hid (wx.heap[gg]? = some (.cells (cntArr E k L m) 3 (0, 0))) ∧ Below w.heap.size w wx) (fun i _ _ => n - (intOf i).toNat)
      case atStart => exact ⟨0, Nat.zero_le _, rfl, hs0, hb0⟩
      case round =>
        obtain ⟨m, hm, rfl, hheap, hbx⟩ := hrel
        by_cases hlt2 : m < n
        · rcases h1 with rfl | ⟨g1, rfl, hl1, hc1, hb1, hcell1⟩
          · omega
          · obtain ⟨d1, e1⟩ := hcell1 m hlt2
            have d1 := (hbx.cell (p := ⟨g1, m, none⟩) hb1).trans d1
            cases nx : isNaN D (L m)
            · clear hcell1
              go_upto_region 12 with (go_at_call 31; refine (nan31_of _ nx).mono ?_; rintro e w' ⟨rfl, rfl⟩)
              go_wp2_with fail
              go_loopw [9] (fun i wy => ∃ j : Nat, j ≤ k ∧ i = .int .i64 j ∧ Hid (∀ q, q < j → ltB (L m) (E q) = false) ∧ Hid (wy.heap[gg]? = some (.cells (cntArr E k L m) 3 (0, 0))) ∧ Below w.heap.size w wy) (fun i _ => k - (intOf i).toNat)
              case atStart => exact ⟨0, Nat.zero_le _, rfl, fun q hq => absurd hq (Nat.not_lt_zero _), hheap, hbx⟩
              case round =>
                obtain ⟨j, hj, rfl, hlo, hheap2, hby⟩ := hrel
                have d2 : wr.cell? ⟨g1, m, none⟩ = some (.float .f64 (L m)) := by
                  obtain ⟨_, d2⟩ := And.intro trivial d1
                  exact (hby.cell (p := ⟨g1, m, none⟩) hb1).trans ((hbx.cell (p := ⟨g1, m, none⟩) hb1).symm.trans d2)
                by_cases hjk : j < k
                · rcases h2 with rfl | ⟨g2, rfl, hl2, hc2, hb2, hcell2⟩
                  · omega
                  · obtain ⟨d3, e3⟩ := hcell2 j hjk
                    have d3 := (hby.cell (p := ⟨g2, j, none⟩) hb2).trans d3
                    have nE := (hok.out j hjk).1
                    clear hcell2
                    cases hq : ltB (L m) (E j)
                    · have hgeq : (FloatKind.f64.format.order (L m) (E j) == some .gt || FloatKind.f64.format.order (L m) (E j) == some .eq) = true := by
                        unfold ltB at hq
                        rw [nx, nE] at hq
                        rw [ord_ge, nx, nE]
                        simp at hq ⊢
                        exact hq
                      have HQ := Lib.hid hq; clear hq
                      go_wp2
                      go_quiet (fail)
                      go_wp2
                      go_roundw
                      case rel =>
                        refine ⟨j + 1, by omega, by go_num, fun q hq => ?_, hheap2.out, below_drewN hby _⟩
                        by_cases e : q = j
                        · rw [e]; exact HQ.out
                        · exact hlo.out q (by omega)
                      case measure => simp [intOf]; omega
                    · have hgeq : (FloatKind.f64.format.order (L m) (E j) == some .gt || FloatKind.f64.format.order (L m) (E j) == some .eq) = false := by
                        have hq' := hq
                        unfold ltB at hq'
                        rw [nx, nE] at hq'
                        rw [ord_ge, nx, nE]
                        simp at hq' ⊢
                        exact hq'
                      have HQ := Lib.hid hq; clear hq
                      have hbin : bin E k (L m) = j := by
                        unfold bin; rw [nx]
                        exact firstLt_eq hj hlo.out (fun _ => HQ.out)
                      have hcb := cntArr_get E k L m (j := j) (by omega)
                      have hc1 : wr.cell? ⟨gg, j, none⟩ = some (.int .i64 (cnt E k L m j : Nat)) := by
                        rw [← hcb]; exact Joins.cell_of_block hheap2.out _
                      have hf1 : wr.frozen? ⟨gg, j, none⟩ = false := Joins.unfrozen_of_block hheap2.out _
                      have hcl := cnt_le E k L m j
                      have hst : ∀ q, Hid ((((wr.drewN q).setCell ⟨gg, j, none⟩ (.int .i64 ((cnt E k L m j : Nat) + 1)))).heap[gg]? = some (.cells (cntArr E k L (m + 1)) 3 (0, 0))) := by
                        intro q
                        have := Joins.block_setCell (w := wr.drewN q) hheap2.out (i := j) (.int .i64 ((cnt E k L m j : Nat) + 1))
                        show _ = _
                        rw [this, cntArr_step, hbin]
                      have HS := Lib.hid hst
                      clear hcb hbin hst
                      go_wp2
                      go_quiet (fail)
                      go_wp2
                      go_roundw
                      case rel => exact ⟨m + 1, by omega, by go_num, HS.out _, (below_drewN hby _).setCell hge _⟩
                      case measure => simp [intOf]; omega
                · have hjf : decide (j < k) = false := decide_eq_false hjk
                  have hjf2 : decide ((j : Int) < (k : Int)) = false := by simp; omega
                  have HJ := Lib.hid hjk; clear hjk
                  have hbin : bin E k (L m) = j := by
                    unfold bin; rw [nx]
                    exact firstLt_eq hj hlo.out (fun g => absurd g HJ.out)
                  have hcb := cntArr_get E k L m (j := j) (by omega)
                  have hc1 : wr.cell? ⟨gg, j, none⟩ = some (.int .i64 (cnt E k L m j : Nat)) := by
                    rw [← hcb]; exact Joins.cell_of_block hheap2.out _
                  have hf1 : wr.frozen? ⟨gg, j, none⟩ = false := Joins.unfrozen_of_block hheap2.out _
                  have hcl := cnt_le E k L m j
                  have hst : ∀ q, Hid ((((wr.drewN q).setCell ⟨gg, j, none⟩ (.int .i64 ((cnt E k L m j : Nat) + 1)))).heap[gg]? = some (.cells (cntArr E k L (m + 1)) 3 (0, 0))) := by
                    intro q
                    have := Joins.block_setCell (w := wr.drewN q) hheap2.out (i := j) (.int .i64 ((cnt E k L m j : Nat) + 1))
                    show _ = _
                    rw [this, cntArr_step, hbin]
                  have HS := Lib.hid hst
                  clear hcb hbin hst
                  go_wp2
                  go_quiet (fail)
                  go_wp2
                  go_roundw
                  case rel => exact ⟨m + 1, by omega, by go_num, HS.out _, (below_drewN hby _).setCell hge _⟩
                  case measure => simp [intOf]; omega
            · have hbin : bin E k (L m) = k + 1 := by unfold bin; rw [nx]; rfl
              have hcb := cntArr_get E k L m (j := k + 1) (by omega)
              have hc1 : wr.cell? ⟨gg, k + 1, none⟩ = some (.int .i64 (cnt E k L m (k + 1) : Nat)) := by
                rw [← hcb]; exact Joins.cell_of_block hheap.out _
              have hf1 : wr.frozen? ⟨gg, k + 1, none⟩ = false := Joins.unfrozen_of_block hheap.out _
              have hcl := cnt_le E k L m (k + 1)
              have hst : Hid (((wr.setCell ⟨gg, k + 1, none⟩ (.int .i64 ((cnt E k L m (k + 1) : Nat) + 1)))).heap[gg]? = some (.cells (cntArr E k L (m + 1)) 3 (0, 0))) := by
                have := Joins.block_setCell hheap.out (i := k + 1) (.int .i64 ((cnt E k L m (k + 1) : Nat) + 1))
                show _ = _
                rw [this, cntArr_step, hbin]
              have tk : ((k : Int) + 1).toNat = k + 1 := by omega
              have HB := Lib.hid hbin
              clear hcb hcell1 hbin
              go_wp2_with (go_at_call 31; refine (nan31_of _ nx).mono ?_; rintro e w' ⟨rfl, rfl⟩)
              go_roundw
              case rel => exact ⟨m + 1, by omega, by go_num, hst, hbx.setCell hge _⟩
              case measure => simp [intOf]; omega
        · obtain rfl : m = n := by omega
          go_wp2
          go_ret2
          exact ⟨hbx, Or.inr ⟨hok.out, gg, hge, rfl, hheap.out⟩⟩
end Go.Proofs.Ytokdgppaedklhaa
