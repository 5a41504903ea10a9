/- The walks of Tolerance, Within, Order of package measure and its reference. No condition but the bounds that each theorem names. -/
import Derived.Test.YtokdgppaedklhaaW2
namespace Go.Proofs.Ytokdgppaedklhaa
open Go.RowKit Fl Go.FlW

theorem andNot_sign (x : Nat) (hx : x < 2 ^ 64) : bits .andNot .u64 (x : Int) 9223372036854775808 = ((rung D x : Nat) : Int) := by
  have h1 : (BitVec.ofInt 64 (x : Int)).toNat = x := by
    rw [BitVec.ofInt_natCast, BitVec.toNat_ofNat]; exact Nat.mod_eq_of_lt (by omega)
  have h2 : ~~~(BitVec.ofInt 64 9223372036854775808) = BitVec.ofNat 64 (2 ^ 63 - 1) := by decide
  show IntKind.u64.wrap ((BitVec.ofInt 64 (x : Int) &&& ~~~(BitVec.ofInt 64 9223372036854775808)).toNat : Int) = _
  rw [h2, BitVec.toNat_and, h1, IntKind.wrap_u64, BitVec.toNat_ofNat, Nat.mod_eq_of_lt (show 2 ^ 63 - 1 < 2 ^ 64 by decide), Nat.and_two_pow_sub_one_eq_mod]
  unfold rung
  rw [D_sign]
  have : x % 2 ^ 63 < 2 ^ 63 := Nat.mod_lt _ (by decide)
  omega

set_option maxHeartbeats 400000 in
theorem abs34 (x : Nat) (w : World) (hx : x < 2 ^ 64) : Calls Try.prog 34 #[.float .f64 x] w fun e w' => e = .returned (.float .f64 (rung D x)) ∧ w = w' := by
  have h29 := call29 x
  have h35 := call35 (rung D x : Nat)
  have ha := andNot_sign x hx
  go_enter Try.func34, Try.ntmps34
  go_wp2
  go_outline
  go_ret
  exact ⟨rfl, rfl⟩

theorem signbit_eq (x : Nat) (hx : x < 2 ^ 64) : decide (wrap64 (x : Int) < 0) = neg D x := by
  unfold wrap64 neg
  rw [D_sign]
  rcases Nat.lt_or_ge x 9223372036854775808 with h | h
  · have e : x / 9223372036854775808 = 0 := by omega
    rw [e]
    apply decide_eq_false
    omega
  · have e : x / 9223372036854775808 = 1 := by omega
    rw [e]
    apply decide_eq_true
    omega

set_option maxHeartbeats 400000 in
theorem signbit40 (x : Nat) (w : World) (hx : x < 2 ^ 64) : Calls Try.prog 40 #[.float .f64 x] w fun e w' => e = .returned (.bool (neg D x)) ∧ w = w' := by
  have h29 := call29 x
  have hs := signbit_eq x hx
  go_enter Try.func40, Try.ntmps40
  go_wp2
  go_outline
  go_ret
  exact ⟨rfl, rfl⟩

set_option maxHeartbeats 400000 in
theorem tol19_yes (x : Nat) (w : World) (h : tolOk x = true) : Calls Try.prog 19 #[.float .f64 x] w fun e w' => e = .returned (.tuple #[.float .f64 (tolVal x), .int .i64 0]) ∧ w = w' := by
  unfold tolOk at h
  simp only [Bool.and_eq_true, Bool.not_eq_true', decide_eq_true_eq] at h
  obtain ⟨nx, hlt⟩ := h
  have h1 : (FloatKind.f64.format.order x 0 == some .lt) = false := by rw [ord_lt, nx, nan_zero, key_zero]; simpa using hlt
  by_cases hz : key D x = 0
  · have h2 : (FloatKind.f64.format.order x 0 == some .eq) = true := by rw [ord_eq, nx, nan_zero, key_zero]; simpa using hz
    have hv : tolVal x = 0 := by unfold tolVal; rw [if_pos hz]
    have HV := Lib.hid hv; clear hv
    go_enter Try.func19, Try.ntmps19
    go_wp2_with (go_at_call 33; refine (isnan33 _ _).mono ?_; rintro e w' ⟨rfl, rfl⟩)
    go_ret2
    exact ⟨by rw [HV.out]; rfl, rfl⟩
  · have h2 : (FloatKind.f64.format.order x 0 == some .eq) = false := by rw [ord_eq, nx, nan_zero, key_zero]; simpa using hz
    have hv : tolVal x = x := by unfold tolVal; rw [if_neg hz]
    have HV := Lib.hid hv; clear hv
    go_enter Try.func19, Try.ntmps19
    go_wp2_with (go_at_call 33; refine (isnan33 _ _).mono ?_; rintro e w' ⟨rfl, rfl⟩)
    go_ret2
    exact ⟨by rw [HV.out]; rfl, rfl⟩

set_option maxHeartbeats 400000 in
theorem tol19_no (x : Nat) (w : World) (h : tolOk x = false) : Calls Try.prog 19 #[.float .f64 x] w fun e w' => e = .returned (.tuple #[.float .f64 0, .int .i64 102]) ∧ w = w' := by
  cases nx : isNaN D x
  · have hlt : key D x < 0 := by unfold tolOk at h; rw [nx] at h; simpa using h
    have h1 : (FloatKind.f64.format.order x 0 == some .lt) = true := by rw [ord_lt, nx, nan_zero, key_zero]; simpa using hlt
    go_enter Try.func19, Try.ntmps19
    go_wp2_with (go_at_call 33; refine (isnan33 _ _).mono ?_; rintro e w' ⟨rfl, rfl⟩)
    go_ret2
    exact ⟨rfl, rfl⟩
  · go_enter Try.func19, Try.ntmps19
    go_wp2_with (go_at_call 33; refine (isnan33 _ _).mono ?_; rintro e w' ⟨rfl, rfl⟩)
    go_ret2
    exact ⟨rfl, rfl⟩

set_option maxHeartbeats 400000 in
theorem fits20 (x : Nat) (w : World) : Calls Try.prog 20 #[.float .f64 x] w fun e w' => e = .returned (.bool (tolOk x)) ∧ w = w' := by
  have h1 : (FloatKind.f64.format.order x 0 == some .gt || FloatKind.f64.format.order x 0 == some .eq) = tolOk x := by
    rw [ord_ge, nan_zero, key_zero]; unfold tolOk; cases isNaN D x <;> simp
  go_enter Try.func20, Try.ntmps20
  go_wp2
  go_ret
  exact ⟨by rw [← h1]; rfl, rfl⟩

end Go.Proofs.Ytokdgppaedklhaa
