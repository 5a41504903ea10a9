/- The walks of the reference's Order and of 'wakes'. No condition but the bounds that each theorem names. -/
import Derived.Test.YtokdgppaedklhaaW4
namespace Go.Proofs.Ytokdgppaedklhaa
open Go.RowKit Fl Go.FlW

theorem ordV_minus {a b : Nat} (na : isNaN D a = false) (nb : isNaN D b = false) (h1 : ¬ key D a < key D b) (h2 : ¬ key D b < key D a) :
    ordV a b = if minus a = true ∧ minus b = false then -1 else if minus b = true ∧ minus a = false then 1 else 0 := by
  have hk : key D a = key D b := by omega
  unfold ordV minus
  rw [na, nb, if_neg h1, if_neg h2, ← hk]
  by_cases hz : key D a = 0
  · rw [decide_eq_true hz]
    cases sa : neg D a <;> cases sb : neg D b <;> simp
  · rw [decide_eq_false hz]
    have : neg D a = neg D b := by
      unfold key at hk hz
      cases sa : neg D a <;> cases sb : neg D b <;> rw [sa, sb] at hk <;> rw [sa] at hz <;> simp at hk hz <;> first | rfl | omega
    rw [this]; simp

set_option maxHeartbeats 400000 in
theorem order23 (a b : Nat) (w : World) : Calls Try.prog 23 #[.float .f64 a, .float .f64 b] w (IntN (ordV a b) w) := by
  cases na : isNaN D a
  · cases nb : isNaN D b
    · by_cases h1 : key D a < key D b
      · have hv : ordV a b = -1 := by unfold ordV; rw [na, nb, if_pos h1]; rfl
        have o1 : (FloatKind.f64.format.order a b == some .lt) = true := by rw [ord_lt, na, nb, decide_eq_true h1]; rfl
        have HV := Lib.hid hv; clear hv
        go_enter Try.func23, Try.ntmps23
        go_wp2_with (first | (go_at_call 31; refine (nan31 _ _).mono ?_; rintro e w' ⟨rfl, rfl⟩))
        go_ret
        exact ⟨by rw [HV.out]; rfl, 0, rfl⟩
      · have o1 : (FloatKind.f64.format.order a b == some .lt) = false := by rw [ord_lt, na, nb, decide_eq_false h1]; rfl
        by_cases h2 : key D b < key D a
        · have hv : ordV a b = 1 := by unfold ordV; rw [na, nb, if_neg h1, if_pos h2]; rfl
          have o2 : (FloatKind.f64.format.order a b == some .gt) = true := by rw [ord_gt, na, nb, decide_eq_true h2]; rfl
          have HV := Lib.hid hv; clear hv
          go_enter Try.func23, Try.ntmps23
          go_wp2_with (first | (go_at_call 31; refine (nan31 _ _).mono ?_; rintro e w' ⟨rfl, rfl⟩))
          go_ret
          exact ⟨by rw [HV.out]; rfl, 0, rfl⟩
        · have o2 : (FloatKind.f64.format.order a b == some .gt) = false := by rw [ord_gt, na, nb, decide_eq_false h2]; rfl
          have hv := ordV_minus na nb h1 h2
          clear h1 h2
          cases ma : minus a <;> cases mb : minus b <;> rw [ma, mb] at hv
          all_goals
            have HV := Lib.hid hv; clear hv
            go_enter Try.func23, Try.ntmps23
            go_wp2_with (first | (go_at_call 31; refine (nan31 _ _).mono ?_; rintro e w' ⟨rfl, rfl⟩) | (go_at_call 32; refine (minus32 _ _).mono ?_; rintro e w' ⟨rfl, n, rfl⟩))
            go_ret
            exact ⟨by rw [HV.out]; rfl, _, rfl⟩
    · have hv : ordV a b = -1 := by unfold ordV; rw [na, nb]; rfl
      have HV := Lib.hid hv; clear hv
      go_enter Try.func23, Try.ntmps23
      go_wp2_with (first | (go_at_call 31; refine (nan31 _ _).mono ?_; rintro e w' ⟨rfl, rfl⟩))
      go_ret
      exact ⟨by rw [HV.out]; rfl, 0, rfl⟩
  · cases nb : isNaN D b
    all_goals
      have hv := show ordV a b = _ by unfold ordV; rw [na, nb]
      have HV := Lib.hid hv; clear hv
      go_enter Try.func23, Try.ntmps23
      go_wp2_with (first | (go_at_call 31; refine (nan31 _ _).mono ?_; rintro e w' ⟨rfl, rfl⟩))
      go_ret
      exact ⟨by rw [HV.out]; rfl, 0, rfl⟩

set_option maxHeartbeats 400000 in
theorem wakes14 (w : World) : Calls Try.prog 14 #[] w (BoolN true w) := by
  have h10 : D.div (fi 1) (fi 0) = some 9218868437227405312 := by decide
  have h00 : D.div (fi 0) (fi 0) = none := by decide
  have h34 : D.div (fi 3) (fi 4) = some 4604930618986332160 := by decide
  have o1 : (FloatKind.f64.format.order 9218868437227405312 4607182418800017408 == some .gt) = true := by decide
  have hs : floatBits .sub .f64 9218868437227405312 4607182418800017408 = some 9218868437227405312 := by decide
  have hrun := run_fl_some (P := Try.prog) .sub _ _ _ hs
  have o2 : (FloatKind.f64.format.order 9218868437227405312 9218868437227405312 == some .eq) = true := by decide
  have o3 : (FloatKind.f64.format.order 4604930618986332160 4604930618986332160 == some .eq) = true := by decide
  have hw : withinB 4607182418800017408 4609434218613702656 4602678819172646912 = true := by decide
  have H10 := Lib.hid h10; clear h10
  have H00 := Lib.hid h00; clear h00
  have H34 := Lib.hid h34; clear h34 hs
  have HW := Lib.hid hw; clear hw
  go_enter Try.func14, Try.ntmps14
  go_wp2_with fail
  refine (share11_in 1 0 _ (by unfold InR; omega) (by unfold InR; omega)).mono ?_
  rintro e w' ⟨r, rfl, hr, k, rfl⟩
  rw [H10.out] at hr
  obtain rfl : r = 9218868437227405312 := hr
  go_wp2_with fail
  refine (share11_in 0 0 _ (by unfold InR; omega) (by unfold InR; omega)).mono ?_
  rintro e w' ⟨r, rfl, hr, k, rfl⟩
  rw [H00.out] at hr
  have o4 : (FloatKind.f64.format.order r r != some .eq) = true := by
    unfold bne; rw [ord_eq, hr.1]; rfl
  clear hr
  go_wp2_with fail
  refine (share11_in 3 4 _ (by unfold InR; omega) (by unfold InR; omega)).mono ?_
  rintro e w' ⟨s, rfl, hr, k, rfl⟩
  rw [H34.out] at hr
  obtain rfl : s = 4604930618986332160 := hr
  go_wp2_with (go_at_call 15; refine (within15 _ _ _ _).mono ?_; rintro e w' ⟨rfl, n, rfl⟩)
  go_ret
  exact ⟨by rw [← HW.out]; rfl, _, rfl⟩
end Go.Proofs.Ytokdgppaedklhaa
