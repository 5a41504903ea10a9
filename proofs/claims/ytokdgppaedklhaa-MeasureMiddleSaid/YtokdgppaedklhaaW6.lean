/- The walk of 'floats' (a list of floats out of their bits) and of Mean of package measure and of its reference. Conditions: the bounds that each theorem names. -/
import Derived.Test.YtokdgppaedklhaaOp
import Derived.Test.YtokdgppaedklhaaFlM
import Derived.OwnWalk
namespace Go.Proofs.Ytokdgppaedklhaa
open Go.RowKit Fl Go.FlW

theorem info23 : (Try.prog.info? 23).map (fun i => (i.zero, i.size, i.bytes)) = some (some (.float .f64 0), 1, 8) := by kernel_rfl

/-- the values of the first n floats -/
def flts (L : Nat → Nat) (n : Nat) : List Value := (List.range n).map fun i => .float .f64 (L i)
theorem flts_succ (L : Nat → Nat) (n : Nat) : flts L (n + 1) = flts L n ++ [.float .f64 (L n)] := by unfold flts; rw [List.range_succ, List.map_append]; rfl
theorem flts_length (L : Nat → Nat) (n : Nat) : (flts L n).length = n := by unfold flts; simp

set_option maxRecDepth 100000 in
set_option maxHeartbeats 1000000 in
theorem floats24 (a : Option Addr) (len cap : Nat) (L : Nat → Nat) (w : World) (h : IsWords w a len cap L) (hlen : len ≤ 2000) :
    Calls Try.prog 24 #[.slice a len cap] w fun e w' => ∃ v, e = .returned v ∧ w'.ownsRow w.heap.size 23 1 v len (flts L len) ∧ Below w.heap.size w w' := by
  obtain ⟨i0, hi, hz0, hz1, hz2⟩ := info_parts info23
  rcases h with rfl | ⟨b, off, rfl, hl, hc, hb, hcell⟩
  · go_enter Try.func24, Try.ntmps24
    go_wp2
    go_loopw [3, 4] (fun v i wr => v = .slice none 0 0 ∧ i = .int .i64 0 ∧ wr = w) (fun _ i _ => 0)
    case atStart => exact ⟨rfl, rfl, rfl⟩
    case round =>
      obtain ⟨rfl, rfl, rfl⟩ := hrel
      go_wp2
      go_ret
      exact ⟨_, rfl, World.ownsRow_nil _ _ _ _, Below.refl _ _⟩
  · go_enter Try.func24, Try.ntmps24
    go_wp2
    go_loopw [3, 4] (fun v i wr => ∃ k : Nat, k ≤ len ∧ i = .int .i64 k ∧ wr.ownsRow w.heap.size 23 1 v k (flts L k) ∧ Below w.heap.size w wr) (fun _ i _ => len - (intOf i).toNat)
    case atStart => exact ⟨0, Nat.zero_le _, rfl, World.ownsRow_nil _ _ _ _, Below.refl _ _⟩
    case round =>
      obtain ⟨k, hk, rfl, hown, hnx⟩ := hrel
      by_cases hlt : k < len
      · obtain ⟨c1, b1⟩ := hcell k hlt
        have hcx := (hnx.cell (p := ⟨b, off + k, none⟩) hb).trans c1
        go_wp2_with (first
          | (at_builtin; refine wpList_append_own _ rfl _ _ 40 rfl w.heap.size 23 i0 (.float .f64 0) 1 8 Try.underlying40 hi hz0 hz1 hz2 rfl (by decide) _ _ _ rfl (hown.alloc _) ⟨wr.heap.size, 0, none⟩ 1 1 [.float .f64 (L k)] rfl rfl ?c1 ?c2 ?c3 ?c4 ?c5 ?_)
          | (go_at_call 17; refine (float_nat _ _).mono ?_; rintro e w' ⟨rfl, rfl⟩))
        case c1 =>
          intro j u hj
          match j, hj with
          | 0, hj => simp at hj; subst hj; simp [Addr.add]
        case c2 => intro u hu; simp at hu; subst hu; rfl
        case c3 => unfold maxLen; omega
        case c4 => omega
        case c5 => have := hnx.size; simp; omega
        intro v' w1 hown' hgrow _
        have hbel : Below w.heap.size w w1 := (hnx.alloc hnx.size _).grown hgrow (by have := hnx.size; simp; omega) (fun q hq => (hown.lt q hq).1)
        rw [← flts_succ] at hown'
        clear hgrow hown hcx c1
        go_wp2
        go_roundw
        case rel => exact ⟨k + 1, by omega, by go_num, hown', hbel⟩
        case measure => simp [intOf]; omega
      · go_wp2
        go_ret
        have hkl : k = len := by omega
        subst hkl
        exact ⟨_, rfl, hown, hnx⟩

/-- a slice of floats -/
def IsFl (w : World) (v : Value) (len : Nat) (L : Nat → Nat) : Prop :=
  ∃ a cap, v = .slice a len cap ∧ (len = 0 ∨ ∃ g, a = some ⟨g, 0, none⟩ ∧ len ≤ cap ∧ cap ≤ 9223372036854775807 ∧ g < w.heap.size ∧
    ∀ i, i < len → (w.cell? ⟨g, i, none⟩ = some (.float .f64 (L i)) ∧ L i < 2 ^ 64))

theorem isFl_of_owns {w : World} {base : Nat} {v : Value} {len : Nat} {L : Nat → Nat} (h : w.ownsRow base 23 1 v len (flts L len)) (hL : ∀ i, i < len → L i < 2 ^ 64) : IsFl w v len L := by
  obtain ⟨_, h⟩ := h
  rcases h with ⟨rfl, rfl⟩ | ⟨g, cap, cur, rfl, hb, hh, hn, hc, hs, ht⟩
  · exact ⟨_, _, rfl, Or.inl rfl⟩
  · refine ⟨_, _, rfl, ?_⟩
    by_cases h0 : len = 0
    · exact Or.inl h0
    · right
      have hg : g < w.heap.size := (Array.getElem?_eq_some_iff.1 hh).1
      refine ⟨g, rfl, hn, by unfold maxLen at hc; exact hc, hg, fun i hi => ⟨?_, hL i hi⟩⟩
      have e1 : w.cell? ⟨g, i, none⟩ = cur[i]? := by simp [World.cell?, hh]
      rw [e1]
      have e2 : cur.toList[i]? = (flts L len)[i]? := by
        rw [← ht, List.getElem?_take, if_pos (by omega)]
      rw [← Array.getElem?_toList, e2]
      unfold flts
      rw [List.getElem?_map, List.getElem?_range hi]
      rfl

/-- what a mean hands back -/
def MeanOk (L : Nat → Nat) (n : Nat) (w : World) (e : Ending) (w' : World) : Prop := ∃ r, e = .returned (.float .f64 r) ∧ cl r = meanC L n ∧ r < 2 ^ 64 ∧ ∃ k, w.drewN k = w'
/-- what stands in the sum -/
def SumIs (L : Nat → Nat) (k : Nat) (s : Value) : Prop := ∃ x : Nat, s = .float .f64 x ∧ cl x = sumC L k ∧ x < 2 ^ 64

theorem nan36 (w : World) : Calls Try.prog 36 #[] w fun e w' => e = .returned (.float .f64 9221120237041090561) ∧ w = w' := by
  have h35 := call35 9221120237041090561
  go_enter Try.func36, Try.ntmps36
  go_wp2
  go_ret
  exact ⟨rfl, rfl⟩

theorem SumIs.step {L : Nat → Nat} {k : Nat} {x r : Nat} (h : cl x = sumC L k) (hr : Res (D.add x (L (k + 1))) r) : SumIs L (k + 1) (.float .f64 r) :=
  ⟨r, rfl, cl_add h hr, Res_lt hr (fun _ h => add_lt h)⟩

theorem mean_end {L : Nat → Nat} {n x r : Nat} (hn : 0 < n) (h : cl x = sumC L (n - 1)) (hr : Res (D.div x (fi n)) r) : cl r = meanC L n ∧ r < 2 ^ 64 := by
  refine ⟨?_, Res_lt hr (fun _ h => div_lt h)⟩
  unfold meanC
  rw [if_neg (by omega)]
  exact cl_div h hr

set_option maxRecDepth 100000 in
set_option maxHeartbeats 1000000 in
theorem mean27 (v : Value) (len : Nat) (L : Nat → Nat) (w : World) (h : IsFl w v len L) : Calls Try.prog 27 #[v] w (MeanOk L len w) := by
  obtain ⟨a, cap, rfl, h⟩ := h
  rcases h with rfl | ⟨g, rfl, hl, hc, hb, hcell⟩
  · have hin : InR 0 := by unfold InR; omega
    have hq : D.div (fi 0) (fi 0) = none := by rw [div_fi_zero hin, if_pos rfl]
    have HQ := Lib.hid hq; clear hq
    go_enter Try.func27, Try.ntmps27
    go_wp2_with (go_at_call 30; refine (divide30 _ _ _ hin hin).mono ?_; rintro e w' ⟨r, rfl, hr, k, rfl⟩)
    go_ret
    rw [HQ.out] at hr
    exact ⟨r, rfl, cl_nan hr.1, hr.2, k, rfl⟩
  · by_cases h0 : len = 0
    · subst h0
      have hin : InR 0 := by unfold InR; omega
      have hq : D.div (fi 0) (fi 0) = none := by rw [div_fi_zero hin, if_pos rfl]
      have HQ := Lib.hid hq; clear hq
      go_enter Try.func27, Try.ntmps27
      go_wp2_with (go_at_call 30; refine (divide30 _ _ _ hin hin).mono ?_; rintro e w' ⟨r, rfl, hr, k, rfl⟩)
      go_ret
      rw [HQ.out] at hr
      exact ⟨r, rfl, cl_nan hr.1, hr.2, k, rfl⟩
    · obtain ⟨c0, b0⟩ := hcell 0 (by omega)
      have hp : (0 : Int) < (len : Int) := by omega
      have hne : ((len : Int) == 0) = false := by simp; omega
      go_enter Try.func27, Try.ntmps27
      go_wp2
      go_loopw [3, 4] (fun s i wr => ∃ k : Nat, 1 ≤ k ∧ k ≤ len ∧ i = .int .i64 k ∧ SumIs L (k - 1) s ∧ ∃ n, wr = w.drewN n) (fun _ i _ => len - (intOf i).toNat)
      case atStart => exact ⟨1, by omega, by omega, rfl, ⟨L 0, rfl, rfl, b0⟩, 0, rfl⟩
      case round =>
        obtain ⟨k, hk1, hk, rfl, ⟨x, rfl, hx, hxl⟩, n0, rfl⟩ := hrel
        by_cases hlt : k < len
        · obtain ⟨c1, b1⟩ := hcell k hlt
          obtain ⟨m, rfl⟩ : ∃ m, k = m + 1 := ⟨k - 1, by omega⟩
          rw [Nat.add_sub_cancel] at hx
          have HX := Lib.hid hx; clear hx
          cases hq : floatBits .add .f64 x (L (m + 1)) with
          | some r =>
            have hrun := run_fl_some (P := Try.prog) .add _ _ _ hq
            have hstep : SumIs L (m + 1) (.float .f64 r) := SumIs.step HX.out (by rw [show D.add x (L (m + 1)) = some r from hq]; rfl)
            have HS := Lib.hid hstep; clear hstep hq hcell
            go_wp2
            go_roundw
            case rel => exact ⟨m + 1 + 1, by omega, by omega, by go_num, HS.out, _, rfl⟩
            case measure => simp [intOf]; omega
          | none =>
            have hrun := run_fl_none (P := Try.prog) .add _ _ (by simp) hq
            have hstep : ∀ t, SumIs L (m + 1) (.float .f64 (nanOf t)) := fun t => SumIs.step HX.out (by rw [show D.add x (L (m + 1)) = none from hq]; exact nanOf_nan t)
            have HS := Lib.hid hstep; clear hstep hq hcell
            go_wp2
            go_roundw
            case rel => exact ⟨m + 1 + 1, by omega, by omega, by go_num, HS.out _, _, rfl⟩
            case measure => simp [intOf]; omega
        · obtain rfl : k = len := by omega
          have HX := Lib.hid hx; clear hx hcell
          cases hq : floatBits .quo .f64 x (floatOfInt .f64 k) with
          | some r =>
            have hrun := run_fl_some (P := Try.prog) .quo _ _ _ hq
            have hend := mean_end (r := r) (by omega) HX.out (by rw [show D.div x (fi k) = some r from hq]; rfl)
            have HE := Lib.hid hend; clear hend hq
            go_wp2
            go_ret
            exact ⟨r, rfl, HE.out.1, HE.out.2, _, rfl⟩
          | none =>
            have hrun := run_fl_none (P := Try.prog) .quo _ _ (by simp) hq
            have hend : ∀ t, cl (nanOf t) = meanC L k ∧ nanOf t < 2 ^ 64 := fun t => mean_end (by omega) HX.out (by rw [show D.div x (fi k) = none from hq]; exact nanOf_nan t)
            have HE := Lib.hid hend; clear hend hq
            go_wp2
            go_ret
            exact ⟨_, rfl, (HE.out _).1, (HE.out _).2, n0 + 1, rfl⟩

set_option maxRecDepth 100000 in
set_option maxHeartbeats 1000000 in
theorem mean18 (v : Value) (len : Nat) (L : Nat → Nat) (w : World) (h : IsFl w v len L) : Calls Try.prog 18 #[v] w (MeanOk L len w) := by
  obtain ⟨a, cap, rfl, h⟩ := h
  rcases h with rfl | ⟨g, rfl, hl, hc, hb, hcell⟩
  · go_enter Try.func18, Try.ntmps18
    go_wp2_with (go_at_call 36; refine (nan36 _).mono ?_; rintro e w' ⟨rfl, rfl⟩)
    go_ret
    exact ⟨_, rfl, cl_nan (by decide), by decide, 0, rfl⟩
  · by_cases h0 : len = 0
    · subst h0
      go_enter Try.func18, Try.ntmps18
      go_wp2_with (go_at_call 36; refine (nan36 _).mono ?_; rintro e w' ⟨rfl, rfl⟩)
      go_ret
      exact ⟨_, rfl, cl_nan (by decide), by decide, 0, rfl⟩
    · obtain ⟨c0, b0⟩ := hcell 0 (by omega)
      have hp : (0 : Int) < (len : Int) := by omega
      have hp1 : (1 : Int) ≤ (len : Int) := by omega
      have hp2 : (len : Int) ≤ (cap : Int) := by omega
      have hne : ((len : Int) == 0) = false := by simp; omega
      by_cases hc1 : cap = 1
      · subst hc1
        obtain rfl : len = 1 := by omega
        have hx : cl (L 0) = sumC L 0 := rfl
        have HX := Lib.hid hx; clear hx hcell
        go_enter Try.func18, Try.ntmps18
        go_wp2
        go_loopw [3, 16] (fun s i wr => s = .float .f64 (L 0) ∧ i = .int .i64 0 ∧ wr = w) (fun _ i _ => 0)
        case atStart => exact ⟨rfl, rfl, rfl⟩
        case round =>
          obtain ⟨rfl, rfl, rfl⟩ := hrel
          cases hq : floatBits .quo .f64 (L 0) (floatOfInt .f64 1) with
          | some r =>
            have hrun := run_fl_some (P := Try.prog) .quo _ _ _ hq
            have hend := mean_end (n := 1) (r := r) (by omega) HX.out (by rw [show D.div (L 0) (fi ((1 : Nat) : Int)) = some r from hq]; rfl)
            have HE := Lib.hid hend; clear hend hq
            go_wp2
            go_ret
            exact ⟨r, rfl, HE.out.1, HE.out.2, 0, rfl⟩
          | none =>
            have hrun := run_fl_none (P := Try.prog) .quo _ _ (by simp) hq
            have hend : ∀ t, cl (nanOf t) = meanC L 1 ∧ nanOf t < 2 ^ 64 := fun t => mean_end (n := 1) (by omega) HX.out (by rw [show D.div (L 0) (fi ((1 : Nat) : Int)) = none from hq]; exact nanOf_nan t)
            have HE := Lib.hid hend; clear hend hq
            go_wp2
            go_ret
            exact ⟨_, rfl, (HE.out _).1, (HE.out _).2, 1, rfl⟩
      · have hc2 : (1 : Int) < (cap : Int) := by omega
        have hc3 : 1 < cap := by omega
        go_enter Try.func18, Try.ntmps18
        go_wp2
        go_loopw [3, 5, 16] (fun s _ i wr => ∃ k : Nat, k ≤ len - 1 ∧ i = .int .i64 k ∧ SumIs L k s ∧ ∃ n, wr = w.drewN n) (fun _ _ i _ => (len - 1) - (intOf i).toNat)
        case atStart => exact ⟨0, by omega, rfl, ⟨L 0, rfl, rfl, b0⟩, 0, rfl⟩
        case round =>
          obtain ⟨k, hk, rfl, ⟨x, rfl, hx, hxl⟩, n0, rfl⟩ := hrel
          have HX := Lib.hid hx; clear hx
          by_cases hlt : k < len - 1
          · obtain ⟨c1, b1⟩ := hcell (k + 1) (by omega)
            rw [Nat.add_comm k 1] at c1
            clear hcell
            cases hq : floatBits .add .f64 x (L (1 + k)) with
            | some r =>
              have hrun := run_fl_some (P := Try.prog) .add _ _ _ hq
              have hstep : SumIs L (k + 1) (.float .f64 r) := SumIs.step HX.out (by rw [Nat.add_comm k 1, show D.add x (L (1 + k)) = some r from hq]; rfl)
              have HS := Lib.hid hstep; clear hstep hq
              go_wp2
              go_roundw
              case rel => exact ⟨k + 1, by omega, by go_num, HS.out, _, rfl⟩
              case measure => simp [intOf]; omega
            | none =>
              have hrun := run_fl_none (P := Try.prog) .add _ _ (by simp) hq
              have hstep : ∀ t, SumIs L (k + 1) (.float .f64 (nanOf t)) := fun t => SumIs.step HX.out (by rw [Nat.add_comm k 1, show D.add x (L (1 + k)) = none from hq]; exact nanOf_nan t)
              have HS := Lib.hid hstep; clear hstep hq
              go_wp2
              go_roundw
              case rel => exact ⟨k + 1, by omega, by go_num, HS.out _, _, rfl⟩
              case measure => simp [intOf]; omega
          · obtain rfl : k = len - 1 := by omega
            clear hcell
            cases hq : floatBits .quo .f64 x (floatOfInt .f64 len) with
            | some r =>
              have hrun := run_fl_some (P := Try.prog) .quo _ _ _ hq
              have hend := mean_end (n := len) (r := r) (by omega) HX.out (by rw [show D.div x (fi len) = some r from hq]; rfl)
              have HE := Lib.hid hend; clear hend hq
              go_wp2
              go_ret
              exact ⟨r, rfl, HE.out.1, HE.out.2, _, rfl⟩
            | none =>
              have hrun := run_fl_none (P := Try.prog) .quo _ _ (by simp) hq
              have hend : ∀ t, cl (nanOf t) = meanC L len ∧ nanOf t < 2 ^ 64 := fun t => mean_end (n := len) (by omega) HX.out (by rw [show D.div x (fi len) = none from hq]; exact nanOf_nan t)
              have HE := Lib.hid hend; clear hend hq
              go_wp2
              go_ret
              exact ⟨_, rfl, (HE.out _).1, (HE.out _).2, n0 + 1, rfl⟩
end Go.Proofs.Ytokdgppaedklhaa
