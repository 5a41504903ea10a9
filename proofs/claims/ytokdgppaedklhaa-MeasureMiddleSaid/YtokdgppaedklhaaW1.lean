/- The walks of the small functions on floats of package measure and its reference. No condition but the bounds that each theorem names. -/
import Derived.Test.YtokdgppaedklhaaRows
import Derived.Test.YtokdgppaedklhaaFlW
import Derived.Outline
import Derived.Lib.Hide
namespace Go.Proofs.Ytokdgppaedklhaa
open Go.RowKit Fl Go.FlW

theorem call35 (n : Int) (w : World) : (callFunc 35 #[.int .u64 n]).run Try.prog w = .ok (.value (.float .f64 n.toNat)) w := by
  rw [run_callFunc_extern Try.func35 (by kernel_rfl) (by kernel_rfl) (by kernel_rfl) (e := Extern.MathFloatBits.float64frombits) (by kernel_rfl)]
  rfl
theorem call29 (n : Nat) (w : World) : (callFunc 29 #[.float .f64 n]).run Try.prog w = .ok (.value (.int .u64 n)) w := by
  rw [run_callFunc_extern Try.func29 (by kernel_rfl) (by kernel_rfl) (by kernel_rfl) (e := Extern.MathFloatBits.float64bits) (by kernel_rfl)]
  rfl

set_option maxHeartbeats 400000 in
theorem float_any (b : Int) (w : World) :
    Calls Try.prog 17 #[.int .u64 b] w fun e w' => e = .returned (.float .f64 b.toNat) ∧ w = w' := by
  have h35 := call35 b
  go_enter Try.func17, Try.ntmps17
  go_wp2
  go_ret
  exact ⟨rfl, rfl⟩

set_option maxHeartbeats 400000 in
theorem zero_any (w : World) : Calls Try.prog 16 #[] w fun e w' => e = .returned (.float .f64 0) ∧ w = w' := by
  have h35 := call35 0
  go_enter Try.func16, Try.ntmps16
  go_wp2
  go_ret
  exact ⟨rfl, rfl⟩

set_option maxHeartbeats 400000 in
theorem nan31 (x : Nat) (w : World) : Calls Try.prog 31 #[.float .f64 x] w fun e w' => e = .returned (.bool (isNaN D x)) ∧ w = w' := by
  have hb : (FloatKind.f64.format.order x x != some .eq) = isNaN D x := by
    have := ord_eq x x
    unfold bne; rw [this]; cases isNaN D x <;> simp
  go_enter Try.func31, Try.ntmps31
  go_wp2
  go_ret
  exact ⟨rfl, rfl⟩

set_option maxHeartbeats 400000 in
theorem isnan33 (x : Nat) (w : World) : Calls Try.prog 33 #[.float .f64 x] w fun e w' => e = .returned (.bool (isNaN D x)) ∧ w = w' := by
  have hb : (FloatKind.f64.format.order x x != some .eq) = isNaN D x := by
    have := ord_eq x x
    unfold bne; rw [this]; cases isNaN D x <;> simp
  go_enter Try.func33, Try.ntmps33
  go_wp2
  go_ret
  exact ⟨rfl, rfl⟩

def BoolN (b : Bool) (w : World) (e : Ending) (w' : World) : Prop := e = .returned (.bool b) ∧ ∃ n, w.drewN n = w'

set_option maxHeartbeats 400000 in
theorem minus32 (x : Nat) (w : World) : Calls Try.prog 32 #[.float .f64 x] w (BoolN (minus x) w) := by
  by_cases hz : (FloatKind.f64.format.order x 0 == some .eq) = true
  · have h0 := hz
    rw [ord_eq] at h0
    have k0 : key D 0 = 0 := by decide
    rw [k0] at h0
    simp only [Bool.and_eq_true, Bool.not_eq_true', decide_eq_true_eq] at h0
    obtain ⟨⟨hn, _⟩, hk⟩ := h0
    have hr : rung D x = 0 := by unfold key at hk; split at hk <;> omega
    have hd : floatBits .quo .f64 4607182418800017408 x = some (D.word (neg D x) D.infRung) := by
      show D.div 4607182418800017408 x = _
      rw [div_zero D (by unfold fin; decide) (by decide) hr D_inf, show neg D 4607182418800017408 = false by decide, Bool.false_xor]
    have hrun := run_fl_some (P := Try.prog) .quo _ _ _ hd
    have hlt : (FloatKind.f64.format.order (D.word (neg D x) D.infRung) 0 == some .lt) = neg D x := by
      rw [ord_lt, nan_inf, k0, key_word D _ (inf_lt D)]
      have := D_inf
      cases neg D x
      · simp [show isNaN D 0 = false by decide]
      · simp [show isNaN D 0 = false by decide]; omega
    have hm : minus x = neg D x := by unfold minus; rw [hk, hn]; simp
    clear hd
    go_enter Try.func32, Try.ntmps32
    go_wp2
    go_ret
    exact ⟨by rw [hm]; rfl, 0, rfl⟩
  · have hz' : (FloatKind.f64.format.order x 0 == some .eq) = false := by simpa using hz
    clear hz
    go_enter Try.func32, Try.ntmps32
    go_wp2
    go_ret
    refine ⟨?_, 0, rfl⟩
    rw [ord_eq, show isNaN D 0 = false by decide, show key D 0 = 0 by decide] at hz'
    have hm : minus x = false := by
      unfold minus
      cases h1 : isNaN D x <;> simp_all
    rw [hm]; rfl


theorem key_eq_imp {x y : Nat} (hx : x < 2 ^ 64) (hy : y < 2 ^ 64) (h : key D x = key D y) (hs : rung D x = 0 → neg D x = neg D y) : x = y := by
  have e : (2 : Nat) ^ 64 = 2 * D.signWeight := by decide
  rw [← word_eq D (w := x) (by omega), ← word_eq D (w := y) (by omega)]
  unfold key at h
  by_cases hz : rung D x = 0
  · have := hs hz
    rw [this] at h ⊢
    split at h <;> (congr 1; omega)
  · cases h1 : neg D x <;> cases h2 : neg D y <;> rw [h1, h2] at h <;> simp at h
    · congr 1; omega
    · omega
    · omega
    · congr 1; omega

/-- what 'Same' answers -/
theorem same_eq {x y : Nat} (hx : x < 2 ^ 64) (hy : y < 2 ^ 64) (nx : isNaN D x = false) (ny : isNaN D y = false) :
    same x y = (decide (key D x = key D y) && (minus x == minus y)) := by
  unfold same minus
  rw [nx, ny]
  simp only [Bool.and_false, Bool.false_or, Bool.not_false, Bool.and_true]
  by_cases h : key D x = key D y
  · by_cases hz : rung D x = 0
    · have hk : key D x = 0 := by unfold key; rw [hz]; simp
      rw [← h, hk]
      simp only [decide_true, Bool.true_and]
      by_cases hs : neg D x = neg D y
      · rw [key_eq_imp hx hy h (fun _ => hs)]; simp
      · have : x ≠ y := fun g => hs (by rw [g])
        rw [decide_eq_false this]; symm; simpa using hs
    · have hk : key D x ≠ 0 := by unfold key; split <;> omega
      rw [key_eq_imp hx hy h (fun g => absurd g hz)]; simp
  · have : x ≠ y := fun g => h (by rw [g])
    rw [decide_eq_false this, decide_eq_false h]; rfl

set_option maxHeartbeats 400000 in
theorem same13 (x y : Nat) (w : World) (hx : x < 2 ^ 64) (hy : y < 2 ^ 64) : Calls Try.prog 13 #[.float .f64 x, .float .f64 y] w (BoolN (same x y) w) := by
  cases nx : isNaN D x
  · cases ny : isNaN D y
    · have hs := same_eq hx hy nx ny
      have ho : (FloatKind.f64.format.order x y == some .eq) = decide (key D x = key D y) := by rw [ord_eq, nx, ny]; simp
      by_cases hk : key D x = key D y
      · have ho' : (FloatKind.f64.format.order x y == some .eq) = true := by rw [ho]; simpa using hk
        have H := Lib.hid hs; clear hs
        have HK := Lib.hid hk; clear hk
        clear ho
        go_enter Try.func13, Try.ntmps13
        go_wp2_with (first | (go_at_call 31; refine (nan31 _ _).mono ?_; rintro e w' ⟨rfl, rfl⟩) | (go_at_call 32; refine (minus32 _ _).mono ?_; rintro e w' ⟨rfl, n, rfl⟩))
        go_ret
        refine ⟨?_, _, rfl⟩
        rw [H.out, decide_eq_true HK.out]; rfl
      · have ho' : (FloatKind.f64.format.order x y == some .eq) = false := by rw [ho]; simpa using hk
        have H := Lib.hid hs; clear hs
        have HK := Lib.hid hk; clear hk
        clear ho
        go_enter Try.func13, Try.ntmps13
        go_wp2_with (first | (go_at_call 31; refine (nan31 _ _).mono ?_; rintro e w' ⟨rfl, rfl⟩) | (go_at_call 32; refine (minus32 _ _).mono ?_; rintro e w' ⟨rfl, n, rfl⟩))
        go_ret
        refine ⟨?_, 0, rfl⟩
        rw [H.out, decide_eq_false HK.out]; rfl
    · have hs : same x y = false := by unfold same; rw [nx, ny]; by_cases h : x = y <;> simp_all
      go_enter Try.func13, Try.ntmps13
      go_wp2_with (first | (go_at_call 31; refine (nan31 _ _).mono ?_; rintro e w' ⟨rfl, rfl⟩) | (go_at_call 32; refine (minus32 _ _).mono ?_; rintro e w' ⟨rfl, n, rfl⟩))
      go_ret
      exact ⟨by rw [hs]; rfl, 0, rfl⟩
  · have hs : same x y = isNaN D y := by unfold same; rw [nx]; simp
    have H := Lib.hid hs; clear hs
    go_enter Try.func13, Try.ntmps13
    go_wp2_with (first | (go_at_call 31; refine (nan31 _ _).mono ?_; rintro e w' ⟨rfl, rfl⟩) | (go_at_call 32; refine (minus32 _ _).mono ?_; rintro e w' ⟨rfl, n, rfl⟩))
    go_ret
    exact ⟨by rw [H.out]; rfl, 0, rfl⟩
end Go.Proofs.Ytokdgppaedklhaa
