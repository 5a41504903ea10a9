/- The walks of Within and Order of package measure and its reference, and of 'wakes'. No condition but the bounds that each theorem names. -/
import Derived.Test.YtokdgppaedklhaaW3
namespace Go.Proofs.Ytokdgppaedklhaa
open Go.RowKit Fl Go.FlW

theorem nearB_of {a b t r : Nat} (h : D.sub a b = some r) : nearB a b t = decide ((rung D r : Int) ≤ key D t) := by unfold nearB; rw [h]

theorem ord_le_of {x y : Nat} {p : Bool} (h : (!isNaN D x && !isNaN D y && decide (key D x ≤ key D y)) = p) : (FloatKind.f64.format.order x y == some .lt || FloatKind.f64.format.order x y == some .eq) = p := by
  rw [ord_le]; exact h

set_option maxHeartbeats 400000 in
theorem within15 (a b t : Nat) (w : World) : Calls Try.prog 15 #[.float .f64 a, .float .f64 b, .float .f64 t] w (BoolN (withinB a b t) w) := by
  cases ht : tolOk t
  · have hw : withinB a b t = false := by unfold withinB; rw [ht]; rfl
    have HW := Lib.hid hw; clear hw
    have h19 := tol19_no t w ht
    have H19 := Lib.hid h19; clear h19 ht
    go_enter Try.func15, Try.ntmps15
    go_wp2_with (go_at_call 19; refine H19.out.mono ?_; rintro e w' ⟨rfl, rfl⟩)
    go_ret
    exact ⟨by rw [HW.out]; rfl, 0, rfl⟩
  · have h19 := tol19_yes t w ht
    have H19 := Lib.hid h19; clear h19
    cases na : isNaN D a
    · cases nb : isNaN D b
      · by_cases hk : key D a = key D b
        · have hw : withinB a b t = true := by unfold withinB; rw [ht, na, nb, decide_eq_true hk]; rfl
          have ho : (FloatKind.f64.format.order a b == some .eq) = true := by rw [ord_eq, na, nb, decide_eq_true hk]; rfl
          have HW := Lib.hid hw; clear hw ht hk
          go_enter Try.func15, Try.ntmps15
          go_wp2_with (first | (go_at_call 19; refine H19.out.mono ?_; rintro e w' ⟨rfl, rfl⟩) | (go_at_call 33; refine (isnan33 _ _).mono ?_; rintro e w' ⟨rfl, rfl⟩))
          go_ret
          exact ⟨by rw [HW.out]; rfl, 0, rfl⟩
        · obtain ⟨r, s, hr, _, _, _⟩ := sub_some na nb hk
          have hw : withinB a b t = decide ((rung D r : Int) ≤ key D t) := by unfold withinB; rw [ht, na, nb, decide_eq_false hk, nearB_of hr]; rfl
          have ho : (FloatKind.f64.format.order a b == some .eq) = false := by rw [ord_eq, na, nb, decide_eq_false hk]; rfl
          have hn : isNaN D t = false := by unfold tolOk at ht; revert ht; cases isNaN D t <;> simp
          have hl := ord_le_of (x := rung D r) (y := tolVal t) (p := decide ((rung D r : Int) ≤ key D t)) (by
            rw [(key_rung r).1, (key_rung r).2, key_tolVal, nan_tolVal hn, nan_sub D hr]; rfl)
          have hrun := run_fl_some (P := Try.prog) .sub a b r hr
          have hrl : r < 2 ^ 64 := sub_lt hr
          have HW := Lib.hid (hw.trans hl.symm); clear hw ht hk hl hr hn
          go_enter Try.func15, Try.ntmps15
          go_wp2_with (first | (go_at_call 19; refine H19.out.mono ?_; rintro e w' ⟨rfl, rfl⟩) | (go_at_call 33; refine (isnan33 _ _).mono ?_; rintro e w' ⟨rfl, rfl⟩) | (go_at_call 34; refine (abs34 _ _ hrl).mono ?_; rintro e w' ⟨rfl, rfl⟩))
          go_ret
          exact ⟨by rw [HW.out]; rfl, 0, rfl⟩
      · have hw : withinB a b t = false := by unfold withinB; rw [ht, na, nb]; rfl
        have HW := Lib.hid hw; clear hw ht
        go_enter Try.func15, Try.ntmps15
        go_wp2_with (first | (go_at_call 19; refine H19.out.mono ?_; rintro e w' ⟨rfl, rfl⟩) | (go_at_call 33; refine (isnan33 _ _).mono ?_; rintro e w' ⟨rfl, rfl⟩))
        go_ret
        exact ⟨by rw [HW.out]; rfl, 0, rfl⟩
    · have hw : withinB a b t = false := by unfold withinB; rw [ht, na]; rfl
      have HW := Lib.hid hw; clear hw ht
      go_enter Try.func15, Try.ntmps15
      go_wp2_with (first | (go_at_call 19; refine H19.out.mono ?_; rintro e w' ⟨rfl, rfl⟩) | (go_at_call 33; refine (isnan33 _ _).mono ?_; rintro e w' ⟨rfl, rfl⟩))
      go_ret
      exact ⟨by rw [HW.out]; rfl, 0, rfl⟩

set_option maxHeartbeats 400000 in
theorem within21 (a b t : Nat) (w : World) : Calls Try.prog 21 #[.float .f64 a, .float .f64 b, .float .f64 t] w (BoolN (withinB a b t) w) := by
  cases ht : tolOk t
  · have hw : withinB a b t = false := by unfold withinB; rw [ht]; rfl
    have HW := Lib.hid hw; clear hw
    go_enter Try.func21, Try.ntmps21
    go_wp2_with (go_at_call 20; refine (fits20 _ _).mono ?_; rintro e w' ⟨rfl, rfl⟩)
    go_ret
    exact ⟨by rw [HW.out]; rfl, 0, rfl⟩
  · cases na : isNaN D a
    · cases nb : isNaN D b
      · by_cases hk : key D a = key D b
        · have hw : withinB a b t = true := by unfold withinB; rw [ht, na, nb, decide_eq_true hk]; rfl
          have ho : (FloatKind.f64.format.order a b == some .eq) = true := by rw [ord_eq, na, nb, decide_eq_true hk]; rfl
          have HW := Lib.hid hw; clear hw hk
          go_enter Try.func21, Try.ntmps21
          go_wp2_with (first | (go_at_call 20; refine (fits20 _ _).mono ?_; rintro e w' ⟨rfl, rfl⟩) | (go_at_call 31; refine (nan31 _ _).mono ?_; rintro e w' ⟨rfl, rfl⟩))
          go_ret
          exact ⟨by rw [HW.out]; rfl, 0, rfl⟩
        · obtain ⟨r, s, hr, hs, hks, hrs⟩ := sub_some na nb hk
          have hw : withinB a b t = decide ((rung D r : Int) ≤ key D t) := by unfold withinB; rw [ht, na, nb, decide_eq_false hk, nearB_of hr]; rfl
          have ho : (FloatKind.f64.format.order a b == some .eq) = false := by rw [ord_eq, na, nb, decide_eq_false hk]; rfl
          have hn : isNaN D t = false := by unfold tolOk at ht; revert ht; cases isNaN D t <;> simp
          have hrun := run_fl_some (P := Try.prog) .sub a b r hr
          have hrun2 := run_fl_some (P := Try.prog) .sub b a s hs
          have hnr := nan_sub D hr
          have hns := nan_sub D hs
          have hkr : key D r = if neg D r then -(rung D r : Int) else rung D r := rfl
          by_cases hneg : key D r < 0
          · have hlt : (FloatKind.f64.format.order r 0 == some .lt) = true := by rw [ord_lt, hnr, nan_zero, key_zero, decide_eq_true hneg]; rfl
            have hl := ord_le_of (x := s) (y := t) (p := decide ((rung D r : Int) ≤ key D t)) (by
              rw [hns, hn, hks, show - key D r = rung D r by revert hkr; split <;> omega]; rfl)
            have HW := Lib.hid (hw.trans hl.symm); clear hw hk hl hr hn hs hks hrs hnr hns hkr hneg
            go_enter Try.func21, Try.ntmps21
            go_wp2_with (first | (go_at_call 20; refine (fits20 _ _).mono ?_; rintro e w' ⟨rfl, rfl⟩) | (go_at_call 31; refine (nan31 _ _).mono ?_; rintro e w' ⟨rfl, rfl⟩))
            go_ret
            exact ⟨by rw [HW.out]; rfl, 0, rfl⟩
          · have hlt : (FloatKind.f64.format.order r 0 == some .lt) = false := by rw [ord_lt, hnr, nan_zero, key_zero, decide_eq_false hneg]; rfl
            have hl := ord_le_of (x := r) (y := t) (p := decide ((rung D r : Int) ≤ key D t)) (by
              rw [hnr, hn, show key D r = rung D r by revert hkr; split <;> omega]; rfl)
            have HW := Lib.hid (hw.trans hl.symm); clear hw hk hl hr hn hs hks hrs hnr hns hkr hneg
            go_enter Try.func21, Try.ntmps21
            go_wp2_with (first | (go_at_call 20; refine (fits20 _ _).mono ?_; rintro e w' ⟨rfl, rfl⟩) | (go_at_call 31; refine (nan31 _ _).mono ?_; rintro e w' ⟨rfl, rfl⟩))
            go_ret
            exact ⟨by rw [HW.out]; rfl, 0, rfl⟩
      · have hw : withinB a b t = false := by unfold withinB; rw [ht, na, nb]; rfl
        have HW := Lib.hid hw; clear hw
        go_enter Try.func21, Try.ntmps21
        go_wp2_with (first | (go_at_call 20; refine (fits20 _ _).mono ?_; rintro e w' ⟨rfl, rfl⟩) | (go_at_call 31; refine (nan31 _ _).mono ?_; rintro e w' ⟨rfl, rfl⟩))
        go_ret
        exact ⟨by rw [HW.out]; rfl, 0, rfl⟩
    · have hw : withinB a b t = false := by unfold withinB; rw [ht, na]; rfl
      have HW := Lib.hid hw; clear hw
      go_enter Try.func21, Try.ntmps21
      go_wp2_with (first | (go_at_call 20; refine (fits20 _ _).mono ?_; rintro e w' ⟨rfl, rfl⟩) | (go_at_call 31; refine (nan31 _ _).mono ?_; rintro e w' ⟨rfl, rfl⟩))
      go_ret
      exact ⟨by rw [HW.out]; rfl, 0, rfl⟩

/-- the world at the call, and after it -/
def IntN (b : Int) (w : World) (e : Ending) (w' : World) : Prop := e = .returned (.int .i64 b) ∧ ∃ n, w.drewN n = w'

set_option maxHeartbeats 400000 in
theorem order37 (a b : Nat) (w : World) (hb : b < 2 ^ 64 ∧ a < 2 ^ 64) : Calls Try.prog 37 #[.float .f64 a, .float .f64 b] w (IntN (ordV a b) w) := by
  obtain ⟨hb, ha⟩ := hb
  cases na : isNaN D a
  · cases nb : isNaN D b
    · by_cases h1 : key D a < key D b
      · have hv : ordV a b = -1 := by unfold ordV; rw [na, nb, if_pos h1]; rfl
        have o1 : (FloatKind.f64.format.order a b == some .lt) = true := by rw [ord_lt, na, nb, decide_eq_true h1]; rfl
        have HV := Lib.hid hv; clear hv
        go_enter Try.func37, Try.ntmps37
        go_wp2_with (first | (go_at_call 33; refine (isnan33 _ _).mono ?_; rintro e w' ⟨rfl, rfl⟩))
        go_ret
        exact ⟨by rw [HV.out]; rfl, 0, rfl⟩
      · have o1 : (FloatKind.f64.format.order a b == some .lt) = false := by rw [ord_lt, na, nb, decide_eq_false h1]; rfl
        by_cases h2 : key D b < key D a
        · have hv : ordV a b = 1 := by unfold ordV; rw [na, nb, if_neg h1, if_pos h2]; rfl
          have o2 : (FloatKind.f64.format.order a b == some .gt) = true := by rw [ord_gt, na, nb, decide_eq_true h2]; rfl
          have HV := Lib.hid hv; clear hv
          go_enter Try.func37, Try.ntmps37
          go_wp2_with (first | (go_at_call 33; refine (isnan33 _ _).mono ?_; rintro e w' ⟨rfl, rfl⟩))
          go_ret
          exact ⟨by rw [HV.out]; rfl, 0, rfl⟩
        · have o2 : (FloatKind.f64.format.order a b == some .gt) = false := by rw [ord_gt, na, nb, decide_eq_false h2]; rfl
          cases sa : neg D a
          · cases sb : neg D b
            all_goals
              have hv := show ordV a b = _ by unfold ordV; rw [na, nb, if_neg h1, if_neg h2, sa, sb]
              have HV := Lib.hid hv; clear hv
              go_enter Try.func37, Try.ntmps37
              go_wp2_with (first | (go_at_call 33; refine (isnan33 _ _).mono ?_; rintro e w' ⟨rfl, rfl⟩) | (go_at_call 40; refine (signbit40 _ _ (by assumption)).mono ?_; rintro e w' ⟨rfl, rfl⟩))
              go_ret
              exact ⟨by rw [HV.out]; rfl, 0, rfl⟩
          · cases sb : neg D b
            all_goals
              have hv := show ordV a b = _ by unfold ordV; rw [na, nb, if_neg h1, if_neg h2, sa, sb]
              have HV := Lib.hid hv; clear hv
              go_enter Try.func37, Try.ntmps37
              go_wp2_with (first | (go_at_call 33; refine (isnan33 _ _).mono ?_; rintro e w' ⟨rfl, rfl⟩) | (go_at_call 40; refine (signbit40 _ _ (by assumption)).mono ?_; rintro e w' ⟨rfl, rfl⟩))
              go_ret
              exact ⟨by rw [HV.out]; rfl, 0, rfl⟩
    · have hv : ordV a b = -1 := by unfold ordV; rw [na, nb]; rfl
      have HV := Lib.hid hv; clear hv
      go_enter Try.func37, Try.ntmps37
      go_wp2_with (first | (go_at_call 33; refine (isnan33 _ _).mono ?_; rintro e w' ⟨rfl, rfl⟩))
      go_ret
      exact ⟨by rw [HV.out]; rfl, 0, rfl⟩
  · cases nb : isNaN D b
    all_goals
      have hv := show ordV a b = _ by unfold ordV; rw [na, nb]
      have HV := Lib.hid hv; clear hv
      go_enter Try.func37, Try.ntmps37
      go_wp2_with (first | (go_at_call 33; refine (isnan33 _ _).mono ?_; rintro e w' ⟨rfl, rfl⟩))
      go_ret
      exact ⟨by rw [HV.out]; rfl, 0, rfl⟩

set_option maxHeartbeats 400000 in
theorem order22 (a b : Nat) (w : World) (hb : b < 2 ^ 64 ∧ a < 2 ^ 64) : Calls Try.prog 22 #[.float .f64 a, .float .f64 b] w (IntN (ordV a b) w) := by
  have hmf : ∀ (fn : Fn) (first cap : Array Value) (w : World), (Instr.makeFunc fn first cap).run Try.prog w = .ok (.func fn first cap) w := fun _ _ _ _ => rfl
  have HC := Lib.hid (order37 a b w hb)
  go_enter Try.func22, Try.ntmps22
  go_wp2_with (go_at_call 37; refine HC.out.mono ?_; rintro e w' ⟨rfl, n, rfl⟩)
  go_ret
  exact ⟨rfl, n, rfl⟩
end Go.Proofs.Ytokdgppaedklhaa
