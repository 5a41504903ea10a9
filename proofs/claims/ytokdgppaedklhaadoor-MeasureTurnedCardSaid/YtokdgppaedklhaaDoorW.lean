/- Shares, nearness, signs of floats: package measure and its reference. No condition but the bounds that each theorem names. -/
import Derived.Test.YtokdgppaedklhaaDoorRows
import Derived.Test.YtokdgppaedklhaaDoorFlW
import Derived.Outline
import Derived.Lib.Hide
namespace Go.Proofs.YtokdgppaedklhaaDoor
open Go.RowKit Fl Go.FlW
theorem call35 (n : Int) (w : World) : (callFunc 44 #[.int .u64 n]).run Tryd.prog w = .ok (.value (.float .f64 n.toNat)) w := by
  rw [run_callFunc_extern Tryd.func44 (by kernel_rfl) (by kernel_rfl) (by kernel_rfl) (e := Extern.MathFloatBits.float64frombits) (by kernel_rfl)]
  rfl
theorem call29 (n : Nat) (w : World) : (callFunc 45 #[.float .f64 n]).run Tryd.prog w = .ok (.value (.int .u64 n)) w := by
  rw [run_callFunc_extern Tryd.func45 (by kernel_rfl) (by kernel_rfl) (by kernel_rfl) (e := Extern.MathFloatBits.float64bits) (by kernel_rfl)]
  rfl
set_option maxHeartbeats 400000 in
theorem nan31 (x : Nat) (w : World) : Calls Tryd.prog 33 #[.float .f64 x] w fun e w' => e = .returned (.bool (isNaN D x)) ∧ w = w' := by
  have hb : (FloatKind.f64.format.order x x != some .eq) = isNaN D x := by
    have := ord_eq x x
    unfold bne; rw [this]; cases isNaN D x <;> simp
  go_enter Tryd.func33, Tryd.ntmps33
  go_wp2
  go_ret
  exact ⟨rfl, rfl⟩
set_option maxHeartbeats 400000 in
theorem isnan33 (x : Nat) (w : World) : Calls Tryd.prog 39 #[.float .f64 x] w fun e w' => e = .returned (.bool (isNaN D x)) ∧ w = w' := by
  have hb : (FloatKind.f64.format.order x x != some .eq) = isNaN D x := by
    have := ord_eq x x
    unfold bne; rw [this]; cases isNaN D x <;> simp
  go_enter Tryd.func39, Tryd.ntmps39
  go_wp2
  go_ret
  exact ⟨rfl, rfl⟩
def BoolN (b : Bool) (w : World) (e : Ending) (w' : World) : Prop := e = .returned (.bool b) ∧ ∃ n, w.drewN n = w'
set_option maxHeartbeats 400000 in
theorem minus32 (x : Nat) (w : World) : Calls Tryd.prog 34 #[.float .f64 x] w (BoolN (minus x) w) := by
  by_cases hz : (FloatKind.f64.format.order x 0 == some .eq) = true
  · have h0 := hz
    rw [ord_eq] at h0
    have k0 : key D 0 = 0 := by decide
    rw [k0] at h0
    simp only [Bool.and_eq_true, Bool.not_eq_true', decide_eq_true_eq] at h0
    obtain ⟨⟨hn, _⟩, hk⟩ := h0
    have hr : rung D x = 0 := by unfold key at hk; split at hk <;> omega
    have hd : floatBits .quo .f64 4607182418800017408 x = some (D.word (neg D x) D.infRung) := by
      show D.div 4607182418800017408 x = _
      rw [div_zero D (by unfold fin; decide) (by decide) hr D_inf, show neg D 4607182418800017408 = false by decide, Bool.false_xor]
    have hrun := run_fl_some (P := Tryd.prog) .quo _ _ _ hd
    have hlt : (FloatKind.f64.format.order (D.word (neg D x) D.infRung) 0 == some .lt) = neg D x := by
      rw [ord_lt, nan_inf, k0, key_word D _ (inf_lt D)]
      have := D_inf
      cases neg D x
      · simp [show isNaN D 0 = false by decide]
      · simp [show isNaN D 0 = false by decide]; omega
    have hm : minus x = neg D x := by unfold minus; rw [hk, hn]; simp
    clear hd
    go_enter Tryd.func34, Tryd.ntmps34
    go_wp2
    go_ret
    exact ⟨by rw [hm]; rfl, 0, rfl⟩
  · have hz' : (FloatKind.f64.format.order x 0 == some .eq) = false := by simpa using hz
    clear hz
    go_enter Tryd.func34, Tryd.ntmps34
    go_wp2
    go_ret
    refine ⟨?_, 0, rfl⟩
    rw [ord_eq, show isNaN D 0 = false by decide, show key D 0 = 0 by decide] at hz'
    have hm : minus x = false := by
      unfold minus
      cases h1 : isNaN D x <;> simp_all
    rw [hm]; rfl
theorem key_eq_imp {x y : Nat} (hx : x < 2 ^ 64) (hy : y < 2 ^ 64) (h : key D x = key D y) (hs : rung D x = 0 → neg D x = neg D y) : x = y := by
  have e : (2 : Nat) ^ 64 = 2 * D.signWeight := by decide
  rw [← word_eq D (w := x) (by omega), ← word_eq D (w := y) (by omega)]
  unfold key at h
  by_cases hz : rung D x = 0
  · have := hs hz
    rw [this] at h ⊢
    split at h <;> (congr 1; omega)
  · cases h1 : neg D x <;> cases h2 : neg D y <;> rw [h1, h2] at h <;> simp at h
    · congr 1; omega
    · omega
    · omega
    · congr 1; omega
/-- what 'Same' answers -/
theorem same_eq {x y : Nat} (hx : x < 2 ^ 64) (hy : y < 2 ^ 64) (nx : isNaN D x = false) (ny : isNaN D y = false) :
    same x y = (decide (key D x = key D y) && (minus x == minus y)) := by
  unfold same minus
  rw [nx, ny]
  simp only [Bool.and_false, Bool.false_or, Bool.not_false, Bool.and_true]
  by_cases h : key D x = key D y
  · by_cases hz : rung D x = 0
    · have hk : key D x = 0 := by unfold key; rw [hz]; simp
      rw [← h, hk]
      simp only [decide_true, Bool.true_and]
      by_cases hs : neg D x = neg D y
      · rw [key_eq_imp hx hy h (fun _ => hs)]; simp
      · have : x ≠ y := fun g => hs (by rw [g])
        rw [decide_eq_false this]; symm; simpa using hs
    · have hk : key D x ≠ 0 := by unfold key; split <;> omega
      rw [key_eq_imp hx hy h (fun g => absurd g hz)]; simp
  · have : x ≠ y := fun g => h (by rw [g])
    rw [decide_eq_false this, decide_eq_false h]; rfl
set_option maxHeartbeats 400000 in
theorem same13 (x y : Nat) (w : World) (hx : x < 2 ^ 64) (hy : y < 2 ^ 64) : Calls Tryd.prog 13 #[.float .f64 x, .float .f64 y] w (BoolN (same x y) w) := by
  cases nx : isNaN D x
  · cases ny : isNaN D y
    · have hs := same_eq hx hy nx ny
      have ho : (FloatKind.f64.format.order x y == some .eq) = decide (key D x = key D y) := by rw [ord_eq, nx, ny]; simp
      by_cases hk : key D x = key D y
      · have ho' : (FloatKind.f64.format.order x y == some .eq) = true := by rw [ho]; simpa using hk
        have H := Lib.hid hs; clear hs
        have HK := Lib.hid hk; clear hk
        clear ho
        go_enter Tryd.func13, Tryd.ntmps13
        go_wp2_with (first | (go_at_call 33; refine (nan31 _ _).mono ?_; rintro e w' ⟨rfl, rfl⟩) | (go_at_call 34; refine (minus32 _ _).mono ?_; rintro e w' ⟨rfl, n, rfl⟩))
        go_ret
        refine ⟨?_, _, rfl⟩
        rw [H.out, decide_eq_true HK.out]; rfl
      · have ho' : (FloatKind.f64.format.order x y == some .eq) = false := by rw [ho]; simpa using hk
        have H := Lib.hid hs; clear hs
        have HK := Lib.hid hk; clear hk
        clear ho
        go_enter Tryd.func13, Tryd.ntmps13
        go_wp2_with (first | (go_at_call 33; refine (nan31 _ _).mono ?_; rintro e w' ⟨rfl, rfl⟩) | (go_at_call 34; refine (minus32 _ _).mono ?_; rintro e w' ⟨rfl, n, rfl⟩))
        go_ret
        refine ⟨?_, 0, rfl⟩
        rw [H.out, decide_eq_false HK.out]; rfl
    · have hs : same x y = false := by unfold same; rw [nx, ny]; by_cases h : x = y <;> simp_all
      go_enter Tryd.func13, Tryd.ntmps13
      go_wp2_with (first | (go_at_call 33; refine (nan31 _ _).mono ?_; rintro e w' ⟨rfl, rfl⟩) | (go_at_call 34; refine (minus32 _ _).mono ?_; rintro e w' ⟨rfl, n, rfl⟩))
      go_ret
      exact ⟨by rw [hs]; rfl, 0, rfl⟩
  · have hs : same x y = isNaN D y := by unfold same; rw [nx]; simp
    have H := Lib.hid hs; clear hs
    go_enter Tryd.func13, Tryd.ntmps13
    go_wp2_with (first | (go_at_call 33; refine (nan31 _ _).mono ?_; rintro e w' ⟨rfl, rfl⟩) | (go_at_call 34; refine (minus32 _ _).mono ?_; rintro e w' ⟨rfl, n, rfl⟩))
    go_ret
    exact ⟨by rw [H.out]; rfl, 0, rfl⟩
/-- a share, without an error -/
def ShareOk (n d : Int) (w : World) (e : Ending) (w' : World) : Prop :=
  ∃ r, e = .returned (.tuple #[.float .f64 r, .int .i64 0]) ∧ Res (D.div (fi n) (fi d)) r ∧ ∃ k, w.drewN k = w'
def QuoOk (n d : Int) (w : World) (e : Ending) (w' : World) : Prop :=
  ∃ r, e = .returned (.float .f64 r) ∧ Res (D.div (fi n) (fi d)) r ∧ ∃ k, w.drewN k = w'
set_option maxHeartbeats 400000 in
theorem share11_in (n d : Int) (w : World) (hn : InR n) (hd : InR d) : Calls Tryd.prog 21 #[.int .i64 n, .int .i64 d] w (ShareOk n d w) := by
  obtain ⟨a1, a2⟩ := hn
  obtain ⟨b1, b2⟩ := hd
  cases hq : floatBits .quo .f64 (floatOfInt .f64 n) (floatOfInt .f64 d) with
  | some r =>
    have hrun := run_fl_some (P := Tryd.prog) .quo _ _ _ hq
    have H := Lib.hid hq; clear hq
    go_enter Tryd.func21, Tryd.ntmps21
    go_wp2
    go_ret2
    exact ⟨r, rfl, by rw [show D.div (fi n) (fi d) = some r from H.out]; rfl, 0, rfl⟩
  | none =>
    have hrun := run_fl_none (P := Tryd.prog) .quo _ _ (by simp) hq
    have H := Lib.hid hq; clear hq
    go_enter Tryd.func21, Tryd.ntmps21
    go_wp2
    go_ret2
    exact ⟨_, rfl, by rw [show D.div (fi n) (fi d) = none from H.out]; exact nanOf_nan _, 1, rfl⟩
theorem share11_out (n d : Int) (w : World) (h : ¬ (InR n ∧ InR d)) : Calls Tryd.prog 21 #[.int .i64 n, .int .i64 d] w fun e w' => e = .returned (.tuple #[.float .f64 0, .int .i64 100]) ∧ w = w' := by
  unfold InR at h
  by_cases h1 : n < -9007199254740992
  · go_enter Tryd.func21, Tryd.ntmps21
    go_wp2
    go_ret2
    exact ⟨rfl, rfl⟩
  · by_cases h2 : 9007199254740992 < n
    · go_enter Tryd.func21, Tryd.ntmps21
      go_wp2
      go_ret2
      exact ⟨rfl, rfl⟩
    · by_cases h3 : d < -9007199254740992
      · go_enter Tryd.func21, Tryd.ntmps21
        go_wp2
        go_ret2
        exact ⟨rfl, rfl⟩
      · have h4 : 9007199254740992 < d := by omega
        go_enter Tryd.func21, Tryd.ntmps21
        go_wp2
        go_ret2
        exact ⟨rfl, rfl⟩
set_option maxHeartbeats 400000 in
theorem divide30 (n d : Int) (w : World) (hn : InR n) (hd : InR d) : Calls Tryd.prog 31 #[.int .i64 n, .int .i64 d] w (QuoOk n d w) := by
  by_cases hd0 : d = 0
  · subst hd0
    have hz := div_fi_zero hn
    have HN := Lib.hid hn; clear hn hd
    have hc : ((0 : Int) == 0) = true := rfl
    rcases Int.lt_trichotomy n 0 with h | h | h
    · have hq : floatBits .quo .f64 13830554455654793216 0 = some (D.word true D.infRung) := by
        show D.div 13830554455654793216 0 = _
        rw [div_zero D (by unfold fin; decide) (by decide) (by decide) D_inf, show (neg D 13830554455654793216 ^^ neg D 0) = true by decide]
      have hrun := run_fl_some (P := Tryd.prog) .quo _ _ _ hq
      rw [if_neg (by omega), decide_eq_true h] at hz
      have H := Lib.hid hz; clear hz hq
      have h' : ¬ 0 < n := by omega
      go_enter Tryd.func31, Tryd.ntmps31
      go_wp2
      go_ret
      exact ⟨_, rfl, by rw [H.out]; rfl, 0, rfl⟩
    · subst h
      have hq : floatBits .quo .f64 0 0 = none := div_zero_zero D (by decide) (by decide) D_inf
      have hrun := run_fl_none (P := Tryd.prog) .quo _ _ (by simp) hq
      rw [if_pos rfl] at hz
      have H := Lib.hid hz; clear hz hq
      go_enter Tryd.func31, Tryd.ntmps31
      go_wp2
      go_ret
      exact ⟨_, rfl, by rw [H.out]; exact nanOf_nan _, 1, rfl⟩
    · have hq : floatBits .quo .f64 4607182418800017408 0 = some (D.word false D.infRung) := by
        show D.div 4607182418800017408 0 = _
        rw [div_zero D (by unfold fin; decide) (by decide) (by decide) D_inf, show (neg D 4607182418800017408 ^^ neg D 0) = false by decide]
      have hrun := run_fl_some (P := Tryd.prog) .quo _ _ _ hq
      rw [if_neg (by omega), decide_eq_false (by omega)] at hz
      have H := Lib.hid hz; clear hz hq
      go_enter Tryd.func31, Tryd.ntmps31
      go_wp2
      go_ret
      exact ⟨_, rfl, by rw [H.out]; rfl, 0, rfl⟩
  · have hd0' : (d == 0) = false := by simpa using hd0
    cases hq : floatBits .quo .f64 (floatOfInt .f64 n) (floatOfInt .f64 d) with
    | some r =>
      have hrun := run_fl_some (P := Tryd.prog) .quo _ _ _ hq
      have H := Lib.hid hq; clear hq hn hd hd0
      go_enter Tryd.func31, Tryd.ntmps31
      go_wp2
      go_ret
      exact ⟨r, rfl, by rw [show D.div (fi n) (fi d) = some r from H.out]; rfl, 0, rfl⟩
    | none =>
      have hrun := run_fl_none (P := Tryd.prog) .quo _ _ (by simp) hq
      have H := Lib.hid hq; clear hq hn hd hd0
      go_enter Tryd.func31, Tryd.ntmps31
      go_wp2
      go_ret
      exact ⟨_, rfl, by rw [show D.div (fi n) (fi d) = none from H.out]; exact nanOf_nan _, 1, rfl⟩
set_option maxHeartbeats 400000 in
theorem share12_in (n d : Int) (w : World) (hn : InR n) (hd : InR d) : Calls Tryd.prog 11 #[.int .i64 n, .int .i64 d] w (ShareOk n d w) := by
  have hc := divide30 n d w hn hd
  obtain ⟨a1, a2⟩ := hn
  obtain ⟨b1, b2⟩ := hd
  have HC := Lib.hid hc; clear hc
  go_enter Tryd.func11, Tryd.ntmps11
  go_wp2_with (go_at_call 31; refine HC.out.mono ?_; rintro e w' ⟨r, rfl, hr, k, rfl⟩)
  go_ret2
  exact ⟨r, rfl, hr, k, rfl⟩
theorem share12_out (n d : Int) (w : World) (h : ¬ (InR n ∧ InR d)) : Calls Tryd.prog 11 #[.int .i64 n, .int .i64 d] w fun e w' => e = .returned (.tuple #[.float .f64 0, .int .i64 100]) ∧ w = w' := by
  unfold InR at h
  by_cases h1 : n < -9007199254740992
  · go_enter Tryd.func11, Tryd.ntmps11
    go_wp2
    go_ret2
    exact ⟨rfl, rfl⟩
  · by_cases h2 : 9007199254740992 < n
    · go_enter Tryd.func11, Tryd.ntmps11
      go_wp2
      go_ret2
      exact ⟨rfl, rfl⟩
    · by_cases h3 : d < -9007199254740992
      · go_enter Tryd.func11, Tryd.ntmps11
        go_wp2
        go_ret2
        exact ⟨rfl, rfl⟩
      · have h4 : 9007199254740992 < d := by omega
        go_enter Tryd.func11, Tryd.ntmps11
        go_wp2
        go_ret2
        exact ⟨rfl, rfl⟩
theorem andNot_sign (x : Nat) (hx : x < 2 ^ 64) : bits .andNot .u64 (x : Int) 9223372036854775808 = ((rung D x : Nat) : Int) := by
  have h1 : (BitVec.ofInt 64 (x : Int)).toNat = x := by
    rw [BitVec.ofInt_natCast, BitVec.toNat_ofNat]; exact Nat.mod_eq_of_lt (by omega)
  have h2 : ~~~(BitVec.ofInt 64 9223372036854775808) = BitVec.ofNat 64 (2 ^ 63 - 1) := by decide
  show IntKind.u64.wrap ((BitVec.ofInt 64 (x : Int) &&& ~~~(BitVec.ofInt 64 9223372036854775808)).toNat : Int) = _
  rw [h2, BitVec.toNat_and, h1, IntKind.wrap_u64, BitVec.toNat_ofNat, Nat.mod_eq_of_lt (show 2 ^ 63 - 1 < 2 ^ 64 by decide), Nat.and_two_pow_sub_one_eq_mod]
  unfold rung
  rw [D_sign]
  have : x % 2 ^ 63 < 2 ^ 63 := Nat.mod_lt _ (by decide)
  omega
set_option maxHeartbeats 400000 in
theorem abs34 (x : Nat) (w : World) (hx : x < 2 ^ 64) : Calls Tryd.prog 40 #[.float .f64 x] w fun e w' => e = .returned (.float .f64 (rung D x)) ∧ w = w' := by
  have h29 := call29 x
  have h35 := call35 (rung D x : Nat)
  have ha := andNot_sign x hx
  go_enter Tryd.func40, Tryd.ntmps40
  go_wp2
  go_outline
  go_ret
  exact ⟨rfl, rfl⟩
set_option maxHeartbeats 400000 in
theorem tol19_yes (x : Nat) (w : World) (h : tolOk x = true) : Calls Tryd.prog 38 #[.float .f64 x] w fun e w' => e = .returned (.tuple #[.float .f64 (tolVal x), .int .i64 0]) ∧ w = w' := by
  unfold tolOk at h
  simp only [Bool.and_eq_true, Bool.not_eq_true', decide_eq_true_eq] at h
  obtain ⟨nx, hlt⟩ := h
  have h1 : (FloatKind.f64.format.order x 0 == some .lt) = false := by rw [ord_lt, nx, nan_zero, key_zero]; simpa using hlt
  by_cases hz : key D x = 0
  · have h2 : (FloatKind.f64.format.order x 0 == some .eq) = true := by rw [ord_eq, nx, nan_zero, key_zero]; simpa using hz
    have hv : tolVal x = 0 := by unfold tolVal; rw [if_pos hz]
    have HV := Lib.hid hv; clear hv
    go_enter Tryd.func38, Tryd.ntmps38
    go_wp2_with (go_at_call 39; refine (isnan33 _ _).mono ?_; rintro e w' ⟨rfl, rfl⟩)
    go_ret2
    exact ⟨by rw [HV.out]; rfl, rfl⟩
  · have h2 : (FloatKind.f64.format.order x 0 == some .eq) = false := by rw [ord_eq, nx, nan_zero, key_zero]; simpa using hz
    have hv : tolVal x = x := by unfold tolVal; rw [if_neg hz]
    have HV := Lib.hid hv; clear hv
    go_enter Tryd.func38, Tryd.ntmps38
    go_wp2_with (go_at_call 39; refine (isnan33 _ _).mono ?_; rintro e w' ⟨rfl, rfl⟩)
    go_ret2
    exact ⟨by rw [HV.out]; rfl, rfl⟩
set_option maxHeartbeats 400000 in
theorem tol19_no (x : Nat) (w : World) (h : tolOk x = false) : Calls Tryd.prog 38 #[.float .f64 x] w fun e w' => e = .returned (.tuple #[.float .f64 0, .int .i64 102]) ∧ w = w' := by
  cases nx : isNaN D x
  · have hlt : key D x < 0 := by unfold tolOk at h; rw [nx] at h; simpa using h
    have h1 : (FloatKind.f64.format.order x 0 == some .lt) = true := by rw [ord_lt, nx, nan_zero, key_zero]; simpa using hlt
    go_enter Tryd.func38, Tryd.ntmps38
    go_wp2_with (go_at_call 39; refine (isnan33 _ _).mono ?_; rintro e w' ⟨rfl, rfl⟩)
    go_ret2
    exact ⟨rfl, rfl⟩
  · go_enter Tryd.func38, Tryd.ntmps38
    go_wp2_with (go_at_call 39; refine (isnan33 _ _).mono ?_; rintro e w' ⟨rfl, rfl⟩)
    go_ret2
    exact ⟨rfl, rfl⟩
theorem nearB_of {a b t r : Nat} (h : D.sub a b = some r) : nearB a b t = decide ((rung D r : Int) ≤ key D t) := by unfold nearB; rw [h]
theorem ord_le_of {x y : Nat} {p : Bool} (h : (!isNaN D x && !isNaN D y && decide (key D x ≤ key D y)) = p) : (FloatKind.f64.format.order x y == some .lt || FloatKind.f64.format.order x y == some .eq) = p := by
  rw [ord_le]; exact h
set_option maxHeartbeats 400000 in
theorem within15 (a b t : Nat) (w : World) : Calls Tryd.prog 23 #[.float .f64 a, .float .f64 b, .float .f64 t] w (BoolN (withinB a b t) w) := by
  cases ht : tolOk t
  · have hw : withinB a b t = false := by unfold withinB; rw [ht]; rfl
    have HW := Lib.hid hw; clear hw
    have h19 := tol19_no t w ht
    have H19 := Lib.hid h19; clear h19 ht
    go_enter Tryd.func23, Tryd.ntmps23
    go_wp2_with (go_at_call 38; refine H19.out.mono ?_; rintro e w' ⟨rfl, rfl⟩)
    go_ret
    exact ⟨by rw [HW.out]; rfl, 0, rfl⟩
  · have h19 := tol19_yes t w ht
    have H19 := Lib.hid h19; clear h19
    cases na : isNaN D a
    · cases nb : isNaN D b
      · by_cases hk : key D a = key D b
        · have hw : withinB a b t = true := by unfold withinB; rw [ht, na, nb, decide_eq_true hk]; rfl
          have ho : (FloatKind.f64.format.order a b == some .eq) = true := by rw [ord_eq, na, nb, decide_eq_true hk]; rfl
          have HW := Lib.hid hw; clear hw ht hk
          go_enter Tryd.func23, Tryd.ntmps23
          go_wp2_with (first | (go_at_call 38; refine H19.out.mono ?_; rintro e w' ⟨rfl, rfl⟩) | (go_at_call 39; refine (isnan33 _ _).mono ?_; rintro e w' ⟨rfl, rfl⟩))
          go_ret
          exact ⟨by rw [HW.out]; rfl, 0, rfl⟩
        · obtain ⟨r, s, hr, _, _, _⟩ := sub_some na nb hk
          have hw : withinB a b t = decide ((rung D r : Int) ≤ key D t) := by unfold withinB; rw [ht, na, nb, decide_eq_false hk, nearB_of hr]; rfl
          have ho : (FloatKind.f64.format.order a b == some .eq) = false := by rw [ord_eq, na, nb, decide_eq_false hk]; rfl
          have hn : isNaN D t = false := by unfold tolOk at ht; revert ht; cases isNaN D t <;> simp
          have hl := ord_le_of (x := rung D r) (y := tolVal t) (p := decide ((rung D r : Int) ≤ key D t)) (by
            rw [(key_rung r).1, (key_rung r).2, key_tolVal, nan_tolVal hn, nan_sub D hr]; rfl)
          have hrun := run_fl_some (P := Tryd.prog) .sub a b r hr
          have hrl : r < 2 ^ 64 := sub_lt hr
          have HW := Lib.hid (hw.trans hl.symm); clear hw ht hk hl hr hn
          go_enter Tryd.func23, Tryd.ntmps23
          go_wp2_with (first | (go_at_call 38; refine H19.out.mono ?_; rintro e w' ⟨rfl, rfl⟩) | (go_at_call 39; refine (isnan33 _ _).mono ?_; rintro e w' ⟨rfl, rfl⟩) | (go_at_call 40; refine (abs34 _ _ hrl).mono ?_; rintro e w' ⟨rfl, rfl⟩))
          go_ret
          exact ⟨by rw [HW.out]; rfl, 0, rfl⟩
      · have hw : withinB a b t = false := by unfold withinB; rw [ht, na, nb]; rfl
        have HW := Lib.hid hw; clear hw ht
        go_enter Tryd.func23, Tryd.ntmps23
        go_wp2_with (first | (go_at_call 38; refine H19.out.mono ?_; rintro e w' ⟨rfl, rfl⟩) | (go_at_call 39; refine (isnan33 _ _).mono ?_; rintro e w' ⟨rfl, rfl⟩))
        go_ret
        exact ⟨by rw [HW.out]; rfl, 0, rfl⟩
    · have hw : withinB a b t = false := by unfold withinB; rw [ht, na]; rfl
      have HW := Lib.hid hw; clear hw ht
      go_enter Tryd.func23, Tryd.ntmps23
      go_wp2_with (first | (go_at_call 38; refine H19.out.mono ?_; rintro e w' ⟨rfl, rfl⟩) | (go_at_call 39; refine (isnan33 _ _).mono ?_; rintro e w' ⟨rfl, rfl⟩))
      go_ret
      exact ⟨by rw [HW.out]; rfl, 0, rfl⟩
set_option maxHeartbeats 400000 in
theorem wakes14 (w : World) : Calls Tryd.prog 17 #[] w (BoolN true w) := by
  have h10 : D.div (fi 1) (fi 0) = some 9218868437227405312 := by decide
  have h00 : D.div (fi 0) (fi 0) = none := by decide
  have h34 : D.div (fi 3) (fi 4) = some 4604930618986332160 := by decide
  have o1 : (FloatKind.f64.format.order 9218868437227405312 4607182418800017408 == some .gt) = true := by decide
  have hs : floatBits .sub .f64 9218868437227405312 4607182418800017408 = some 9218868437227405312 := by decide
  have hrun := run_fl_some (P := Tryd.prog) .sub _ _ _ hs
  have o2 : (FloatKind.f64.format.order 9218868437227405312 9218868437227405312 == some .eq) = true := by decide
  have o3 : (FloatKind.f64.format.order 4604930618986332160 4604930618986332160 == some .eq) = true := by decide
  have hw : withinB 4607182418800017408 4609434218613702656 4602678819172646912 = true := by decide
  have H10 := Lib.hid h10; clear h10
  have H00 := Lib.hid h00; clear h00
  have H34 := Lib.hid h34; clear h34 hs
  have HW := Lib.hid hw; clear hw
  go_enter Tryd.func17, Tryd.ntmps17
  go_wp2_with fail
  refine (share11_in 1 0 _ (by unfold InR; omega) (by unfold InR; omega)).mono ?_
  rintro e w' ⟨r, rfl, hr, k, rfl⟩
  rw [H10.out] at hr
  obtain rfl : r = 9218868437227405312 := hr
  go_wp2_with fail
  refine (share11_in 0 0 _ (by unfold InR; omega) (by unfold InR; omega)).mono ?_
  rintro e w' ⟨r, rfl, hr, k, rfl⟩
  rw [H00.out] at hr
  have o4 : (FloatKind.f64.format.order r r != some .eq) = true := by
    unfold bne; rw [ord_eq, hr.1]; rfl
  clear hr
  go_wp2_with fail
  refine (share11_in 3 4 _ (by unfold InR; omega) (by unfold InR; omega)).mono ?_
  rintro e w' ⟨s, rfl, hr, k, rfl⟩
  rw [H34.out] at hr
  obtain rfl : s = 4604930618986332160 := hr
  go_wp2_with (go_at_call 23; refine (within15 _ _ _ _).mono ?_; rintro e w' ⟨rfl, n, rfl⟩)
  go_ret
  exact ⟨by rw [← HW.out]; rfl, _, rfl⟩
end Go.Proofs.YtokdgppaedklhaaDoor
