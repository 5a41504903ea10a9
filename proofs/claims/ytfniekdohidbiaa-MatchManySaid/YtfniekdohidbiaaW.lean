/- Shares, nearness, signs of floats: package measure and its reference. No condition but the bounds that each theorem names. -/
import Derived.Test.YtfniekdohidbiaaRows
import Derived.Test.YtfniekdohidbiaaFlW
import Derived.Outline
import Derived.Lib.Hide
namespace Go.Proofs.Ytfniekdohidbiaa
open Go.RowKit Fl Go.FlW
theorem call35 (n : Int) (w : World) : (callFunc 12 #[.int .u64 n]).run Try.prog w = .ok (.value (.float .f64 n.toNat)) w := by
  rw [run_callFunc_extern Try.func12 (by kernel_rfl) (by kernel_rfl) (by kernel_rfl) (e := Extern.MathFloatBits.float64frombits) (by kernel_rfl)]
  rfl
set_option maxHeartbeats 400000 in
theorem isnan33 (x : Nat) (w : World) : Calls Try.prog 47 #[.float .f64 x] w fun e w' => e = .returned (.bool (isNaN D x)) ∧ w = w' := by
  have hb : (FloatKind.f64.format.order x x != some .eq) = isNaN D x := by
    have := ord_eq x x
    unfold bne; rw [this]; cases isNaN D x <;> simp
  go_enter Try.func47, Try.ntmps47
  go_wp2
  go_ret
  exact ⟨rfl, rfl⟩
def BoolN (b : Bool) (w : World) (e : Ending) (w' : World) : Prop := e = .returned (.bool b) ∧ ∃ n, w.drewN n = w'
theorem key_eq_imp {x y : Nat} (hx : x < 2 ^ 64) (hy : y < 2 ^ 64) (h : key D x = key D y) (hs : rung D x = 0 → neg D x = neg D y) : x = y := by
  have e : (2 : Nat) ^ 64 = 2 * D.signWeight := by decide
  rw [← word_eq D (w := x) (by omega), ← word_eq D (w := y) (by omega)]
  unfold key at h
  by_cases hz : rung D x = 0
  · have := hs hz
    rw [this] at h ⊢
    split at h <;> (congr 1; omega)
  · cases h1 : neg D x <;> cases h2 : neg D y <;> rw [h1, h2] at h <;> simp at h
    · congr 1; omega
    · omega
    · omega
    · congr 1; omega
/-- a share, without an error -/
def ShareOk (n d : Int) (w : World) (e : Ending) (w' : World) : Prop :=
  ∃ r, e = .returned (.tuple #[.float .f64 r, .int .i64 0]) ∧ Res (D.div (fi n) (fi d)) r ∧ ∃ k, w.drewN k = w'
def QuoOk (n d : Int) (w : World) (e : Ending) (w' : World) : Prop :=
  ∃ r, e = .returned (.float .f64 r) ∧ Res (D.div (fi n) (fi d)) r ∧ ∃ k, w.drewN k = w'
set_option maxHeartbeats 400000 in
theorem share11_in (n d : Int) (w : World) (hn : InR n) (hd : InR d) : Calls Try.prog 42 #[.int .i64 n, .int .i64 d] w (ShareOk n d w) := by
  obtain ⟨a1, a2⟩ := hn
  obtain ⟨b1, b2⟩ := hd
  cases hq : floatBits .quo .f64 (floatOfInt .f64 n) (floatOfInt .f64 d) with
  | some r =>
    have hrun := run_fl_some (P := Try.prog) .quo _ _ _ hq
    have H := Lib.hid hq; clear hq
    go_enter Try.func42, Try.ntmps42
    go_wp2
    go_ret2
    exact ⟨r, rfl, by rw [show D.div (fi n) (fi d) = some r from H.out]; rfl, 0, rfl⟩
  | none =>
    have hrun := run_fl_none (P := Try.prog) .quo _ _ (by simp) hq
    have H := Lib.hid hq; clear hq
    go_enter Try.func42, Try.ntmps42
    go_wp2
    go_ret2
    exact ⟨_, rfl, by rw [show D.div (fi n) (fi d) = none from H.out]; exact nanOf_nan _, 1, rfl⟩
theorem share11_out (n d : Int) (w : World) (h : ¬ (InR n ∧ InR d)) : Calls Try.prog 42 #[.int .i64 n, .int .i64 d] w fun e w' => e = .returned (.tuple #[.float .f64 0, .int .i64 100]) ∧ w = w' := by
  unfold InR at h
  by_cases h1 : n < -9007199254740992
  · go_enter Try.func42, Try.ntmps42
    go_wp2
    go_ret2
    exact ⟨rfl, rfl⟩
  · by_cases h2 : 9007199254740992 < n
    · go_enter Try.func42, Try.ntmps42
      go_wp2
      go_ret2
      exact ⟨rfl, rfl⟩
    · by_cases h3 : d < -9007199254740992
      · go_enter Try.func42, Try.ntmps42
        go_wp2
        go_ret2
        exact ⟨rfl, rfl⟩
      · have h4 : 9007199254740992 < d := by omega
        go_enter Try.func42, Try.ntmps42
        go_wp2
        go_ret2
        exact ⟨rfl, rfl⟩
set_option maxHeartbeats 400000 in
theorem divide30 (n d : Int) (w : World) (hn : InR n) (hd : InR d) : Calls Try.prog 45 #[.int .i64 n, .int .i64 d] w (QuoOk n d w) := by
  by_cases hd0 : d = 0
  · subst hd0
    have hz := div_fi_zero hn
    have HN := Lib.hid hn; clear hn hd
    have hc : ((0 : Int) == 0) = true := rfl
    rcases Int.lt_trichotomy n 0 with h | h | h
    · have hq : floatBits .quo .f64 13830554455654793216 0 = some (D.word true D.infRung) := by
        show D.div 13830554455654793216 0 = _
        rw [div_zero D (by unfold fin; decide) (by decide) (by decide) D_inf, show (neg D 13830554455654793216 ^^ neg D 0) = true by decide]
      have hrun := run_fl_some (P := Try.prog) .quo _ _ _ hq
      rw [if_neg (by omega), decide_eq_true h] at hz
      have H := Lib.hid hz; clear hz hq
      have h' : ¬ 0 < n := by omega
      go_enter Try.func45, Try.ntmps45
      go_wp2
      go_ret
      exact ⟨_, rfl, by rw [H.out]; rfl, 0, rfl⟩
    · subst h
      have hq : floatBits .quo .f64 0 0 = none := div_zero_zero D (by decide) (by decide) D_inf
      have hrun := run_fl_none (P := Try.prog) .quo _ _ (by simp) hq
      rw [if_pos rfl] at hz
      have H := Lib.hid hz; clear hz hq
      go_enter Try.func45, Try.ntmps45
      go_wp2
      go_ret
      exact ⟨_, rfl, by rw [H.out]; exact nanOf_nan _, 1, rfl⟩
    · have hq : floatBits .quo .f64 4607182418800017408 0 = some (D.word false D.infRung) := by
        show D.div 4607182418800017408 0 = _
        rw [div_zero D (by unfold fin; decide) (by decide) (by decide) D_inf, show (neg D 4607182418800017408 ^^ neg D 0) = false by decide]
      have hrun := run_fl_some (P := Try.prog) .quo _ _ _ hq
      rw [if_neg (by omega), decide_eq_false (by omega)] at hz
      have H := Lib.hid hz; clear hz hq
      go_enter Try.func45, Try.ntmps45
      go_wp2
      go_ret
      exact ⟨_, rfl, by rw [H.out]; rfl, 0, rfl⟩
  · have hd0' : (d == 0) = false := by simpa using hd0
    cases hq : floatBits .quo .f64 (floatOfInt .f64 n) (floatOfInt .f64 d) with
    | some r =>
      have hrun := run_fl_some (P := Try.prog) .quo _ _ _ hq
      have H := Lib.hid hq; clear hq hn hd hd0
      go_enter Try.func45, Try.ntmps45
      go_wp2
      go_ret
      exact ⟨r, rfl, by rw [show D.div (fi n) (fi d) = some r from H.out]; rfl, 0, rfl⟩
    | none =>
      have hrun := run_fl_none (P := Try.prog) .quo _ _ (by simp) hq
      have H := Lib.hid hq; clear hq hn hd hd0
      go_enter Try.func45, Try.ntmps45
      go_wp2
      go_ret
      exact ⟨_, rfl, by rw [show D.div (fi n) (fi d) = none from H.out]; exact nanOf_nan _, 1, rfl⟩
set_option maxHeartbeats 400000 in
theorem tol19_yes (x : Nat) (w : World) (h : tolOk x = true) : Calls Try.prog 31 #[.float .f64 x] w fun e w' => e = .returned (.tuple #[.float .f64 (tolVal x), .int .i64 0]) ∧ w = w' := by
  unfold tolOk at h
  simp only [Bool.and_eq_true, Bool.not_eq_true', decide_eq_true_eq] at h
  obtain ⟨nx, hlt⟩ := h
  have h1 : (FloatKind.f64.format.order x 0 == some .lt) = false := by rw [ord_lt, nx, nan_zero, key_zero]; simpa using hlt
  by_cases hz : key D x = 0
  · have h2 : (FloatKind.f64.format.order x 0 == some .eq) = true := by rw [ord_eq, nx, nan_zero, key_zero]; simpa using hz
    have hv : tolVal x = 0 := by unfold tolVal; rw [if_pos hz]
    have HV := Lib.hid hv; clear hv
    go_enter Try.func31, Try.ntmps31
    go_wp2_with (go_at_call 47; refine (isnan33 _ _).mono ?_; rintro e w' ⟨rfl, rfl⟩)
    go_ret2
    exact ⟨by rw [HV.out]; rfl, rfl⟩
  · have h2 : (FloatKind.f64.format.order x 0 == some .eq) = false := by rw [ord_eq, nx, nan_zero, key_zero]; simpa using hz
    have hv : tolVal x = x := by unfold tolVal; rw [if_neg hz]
    have HV := Lib.hid hv; clear hv
    go_enter Try.func31, Try.ntmps31
    go_wp2_with (go_at_call 47; refine (isnan33 _ _).mono ?_; rintro e w' ⟨rfl, rfl⟩)
    go_ret2
    exact ⟨by rw [HV.out]; rfl, rfl⟩
set_option maxHeartbeats 400000 in
theorem tol19_no (x : Nat) (w : World) (h : tolOk x = false) : Calls Try.prog 31 #[.float .f64 x] w fun e w' => e = .returned (.tuple #[.float .f64 0, .int .i64 102]) ∧ w = w' := by
  cases nx : isNaN D x
  · have hlt : key D x < 0 := by unfold tolOk at h; rw [nx] at h; simpa using h
    have h1 : (FloatKind.f64.format.order x 0 == some .lt) = true := by rw [ord_lt, nx, nan_zero, key_zero]; simpa using hlt
    go_enter Try.func31, Try.ntmps31
    go_wp2_with (go_at_call 47; refine (isnan33 _ _).mono ?_; rintro e w' ⟨rfl, rfl⟩)
    go_ret2
    exact ⟨rfl, rfl⟩
  · go_enter Try.func31, Try.ntmps31
    go_wp2_with (go_at_call 47; refine (isnan33 _ _).mono ?_; rintro e w' ⟨rfl, rfl⟩)
    go_ret2
    exact ⟨rfl, rfl⟩
theorem ord_le_of {x y : Nat} {p : Bool} (h : (!isNaN D x && !isNaN D y && decide (key D x ≤ key D y)) = p) : (FloatKind.f64.format.order x y == some .lt || FloatKind.f64.format.order x y == some .eq) = p := by
  rw [ord_le]; exact h
end Go.Proofs.Ytfniekdohidbiaa
