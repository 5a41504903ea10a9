/- The walks of Share and divide of package measure and its reference. No condition but the bounds that each theorem names. -/
import Derived.Test.YtokdgppaedklhaaW1
namespace Go.Proofs.Ytokdgppaedklhaa
open Go.RowKit Fl Go.FlW

/-- a share, without an error -/
def ShareOk (n d : Int) (w : World) (e : Ending) (w' : World) : Prop :=
  ∃ r, e = .returned (.tuple #[.float .f64 r, .int .i64 0]) ∧ Res (D.div (fi n) (fi d)) r ∧ ∃ k, w.drewN k = w'
def QuoOk (n d : Int) (w : World) (e : Ending) (w' : World) : Prop :=
  ∃ r, e = .returned (.float .f64 r) ∧ Res (D.div (fi n) (fi d)) r ∧ ∃ k, w.drewN k = w'

set_option maxHeartbeats 400000 in
theorem share11_in (n d : Int) (w : World) (hn : InR n) (hd : InR d) : Calls Try.prog 11 #[.int .i64 n, .int .i64 d] w (ShareOk n d w) := by
  obtain ⟨a1, a2⟩ := hn
  obtain ⟨b1, b2⟩ := hd
  cases hq : floatBits .quo .f64 (floatOfInt .f64 n) (floatOfInt .f64 d) with
  | some r =>
    have hrun := run_fl_some (P := Try.prog) .quo _ _ _ hq
    have H := Lib.hid hq; clear hq
    go_enter Try.func11, Try.ntmps11
    go_wp2
    go_ret2
    exact ⟨r, rfl, by rw [show D.div (fi n) (fi d) = some r from H.out]; rfl, 0, rfl⟩
  | none =>
    have hrun := run_fl_none (P := Try.prog) .quo _ _ (by simp) hq
    have H := Lib.hid hq; clear hq
    go_enter Try.func11, Try.ntmps11
    go_wp2
    go_ret2
    exact ⟨_, rfl, by rw [show D.div (fi n) (fi d) = none from H.out]; exact nanOf_nan _, 1, rfl⟩

theorem share11_out (n d : Int) (w : World) (h : ¬ (InR n ∧ InR d)) : Calls Try.prog 11 #[.int .i64 n, .int .i64 d] w fun e w' => e = .returned (.tuple #[.float .f64 0, .int .i64 100]) ∧ w = w' := by
  unfold InR at h
  by_cases h1 : n < -9007199254740992
  · go_enter Try.func11, Try.ntmps11
    go_wp2
    go_ret2
    exact ⟨rfl, rfl⟩
  · by_cases h2 : 9007199254740992 < n
    · go_enter Try.func11, Try.ntmps11
      go_wp2
      go_ret2
      exact ⟨rfl, rfl⟩
    · by_cases h3 : d < -9007199254740992
      · go_enter Try.func11, Try.ntmps11
        go_wp2
        go_ret2
        exact ⟨rfl, rfl⟩
      · have h4 : 9007199254740992 < d := by omega
        go_enter Try.func11, Try.ntmps11
        go_wp2
        go_ret2
        exact ⟨rfl, rfl⟩

set_option maxHeartbeats 400000 in
theorem divide30 (n d : Int) (w : World) (hn : InR n) (hd : InR d) : Calls Try.prog 30 #[.int .i64 n, .int .i64 d] w (QuoOk n d w) := by
  by_cases hd0 : d = 0
  · subst hd0
    have hz := div_fi_zero hn
    have HN := Lib.hid hn; clear hn hd
    have hc : ((0 : Int) == 0) = true := rfl
    rcases Int.lt_trichotomy n 0 with h | h | h
    · have hq : floatBits .quo .f64 13830554455654793216 0 = some (D.word true D.infRung) := by
        show D.div 13830554455654793216 0 = _
        rw [div_zero D (by unfold fin; decide) (by decide) (by decide) D_inf, show (neg D 13830554455654793216 ^^ neg D 0) = true by decide]
      have hrun := run_fl_some (P := Try.prog) .quo _ _ _ hq
      rw [if_neg (by omega), decide_eq_true h] at hz
      have H := Lib.hid hz; clear hz hq
      have h' : ¬ 0 < n := by omega
      go_enter Try.func30, Try.ntmps30
      go_wp2
      go_ret
      exact ⟨_, rfl, by rw [H.out]; rfl, 0, rfl⟩
    · subst h
      have hq : floatBits .quo .f64 0 0 = none := div_zero_zero D (by decide) (by decide) D_inf
      have hrun := run_fl_none (P := Try.prog) .quo _ _ (by simp) hq
      rw [if_pos rfl] at hz
      have H := Lib.hid hz; clear hz hq
      go_enter Try.func30, Try.ntmps30
      go_wp2
      go_ret
      exact ⟨_, rfl, by rw [H.out]; exact nanOf_nan _, 1, rfl⟩
    · have hq : floatBits .quo .f64 4607182418800017408 0 = some (D.word false D.infRung) := by
        show D.div 4607182418800017408 0 = _
        rw [div_zero D (by unfold fin; decide) (by decide) (by decide) D_inf, show (neg D 4607182418800017408 ^^ neg D 0) = false by decide]
      have hrun := run_fl_some (P := Try.prog) .quo _ _ _ hq
      rw [if_neg (by omega), decide_eq_false (by omega)] at hz
      have H := Lib.hid hz; clear hz hq
      go_enter Try.func30, Try.ntmps30
      go_wp2
      go_ret
      exact ⟨_, rfl, by rw [H.out]; rfl, 0, rfl⟩
  · have hd0' : (d == 0) = false := by simpa using hd0
    cases hq : floatBits .quo .f64 (floatOfInt .f64 n) (floatOfInt .f64 d) with
    | some r =>
      have hrun := run_fl_some (P := Try.prog) .quo _ _ _ hq
      have H := Lib.hid hq; clear hq hn hd hd0
      go_enter Try.func30, Try.ntmps30
      go_wp2
      go_ret
      exact ⟨r, rfl, by rw [show D.div (fi n) (fi d) = some r from H.out]; rfl, 0, rfl⟩
    | none =>
      have hrun := run_fl_none (P := Try.prog) .quo _ _ (by simp) hq
      have H := Lib.hid hq; clear hq hn hd hd0
      go_enter Try.func30, Try.ntmps30
      go_wp2
      go_ret
      exact ⟨_, rfl, by rw [show D.div (fi n) (fi d) = none from H.out]; exact nanOf_nan _, 1, rfl⟩

set_option maxHeartbeats 400000 in
theorem share12_in (n d : Int) (w : World) (hn : InR n) (hd : InR d) : Calls Try.prog 12 #[.int .i64 n, .int .i64 d] w (ShareOk n d w) := by
  have hc := divide30 n d w hn hd
  obtain ⟨a1, a2⟩ := hn
  obtain ⟨b1, b2⟩ := hd
  have HC := Lib.hid hc; clear hc
  go_enter Try.func12, Try.ntmps12
  go_wp2_with (go_at_call 30; refine HC.out.mono ?_; rintro e w' ⟨r, rfl, hr, k, rfl⟩)
  go_ret2
  exact ⟨r, rfl, hr, k, rfl⟩

theorem share12_out (n d : Int) (w : World) (h : ¬ (InR n ∧ InR d)) : Calls Try.prog 12 #[.int .i64 n, .int .i64 d] w fun e w' => e = .returned (.tuple #[.float .f64 0, .int .i64 100]) ∧ w = w' := by
  unfold InR at h
  by_cases h1 : n < -9007199254740992
  · go_enter Try.func12, Try.ntmps12
    go_wp2
    go_ret2
    exact ⟨rfl, rfl⟩
  · by_cases h2 : 9007199254740992 < n
    · go_enter Try.func12, Try.ntmps12
      go_wp2
      go_ret2
      exact ⟨rfl, rfl⟩
    · by_cases h3 : d < -9007199254740992
      · go_enter Try.func12, Try.ntmps12
        go_wp2
        go_ret2
        exact ⟨rfl, rfl⟩
      · have h4 : 9007199254740992 < d := by omega
        go_enter Try.func12, Try.ntmps12
        go_wp2
        go_ret2
        exact ⟨rfl, rfl⟩
end Go.Proofs.Ytokdgppaedklhaa
