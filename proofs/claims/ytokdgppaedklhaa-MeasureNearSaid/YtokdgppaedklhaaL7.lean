/- The walk of MeasureNear. -/
import Derived.Test.YtokdgppaedklhaaOp
namespace Go.FlW
open Fl
theorem add_zero {t : Nat} (ht : t < 2 ^ 64) (h : tolOk t = true) : D.add t 0 = some (tolVal t) := by
  unfold tolOk at h
  simp only [Bool.and_eq_true, Bool.not_eq_true', decide_eq_true_eq] at h
  obtain ⟨nx, hk⟩ := h
  have e : (2 : Nat) ^ 64 = 2 * D.signWeight := by decide
  have f0 : fin D 0 := by unfold fin; decide
  by_cases hf : rung D t < D.infRung
  · rw [add_fin D hf f0]
    have s0 : sv D 0 = 0 := by decide
    have n0 : neg D 0 = false := by decide
    rw [s0, n0, Bool.and_false, Int.add_zero]
    by_cases hz : rung D t = 0
    · have k0 : key D t = 0 := by unfold key; rw [hz]; simp
      have : sv D t = 0 := by unfold sv sg; rw [hz, rv_zero]; simp
      rw [this]
      unfold tolVal
      rw [if_pos k0]
      congr 1
    · have hn : neg D t = false := by
        cases hn : neg D t
        · rfl
        · exfalso; unfold key at hk; rw [hn] at hk; simp at hk; omega
      have hs : sv D t = (rv D (rung D t) : Int) := by unfold sv sg; rw [hn]; rfl
      have hp := rv_pos D hz
      have hv : tolVal t = t := by unfold tolVal; rw [if_neg]; unfold key; rw [hn]; simp; exact hz
      rw [hv, hs]
      unfold enc
      rw [if_neg (by omega), decide_eq_false (by omega)]
      unfold mk
      rw [Int.natAbs_natCast, rn_rv, Nat.min_eq_left (by omega)]
      congr 1
      have := word_eq D (w := t) (by omega)
      rw [hn] at this
      exact this
  · have hi : rung D t = D.infRung := by
      have : ¬ D.infRung < rung D t := of_decide_eq_false nx
      omega
    obtain ⟨m, i, e0, _, _⟩ := read_num D f0
    have hn : neg D t = false := by
      have := D_inf
      cases hn : neg D t
      · rfl
      · exfalso; unfold key at hk; rw [hn] at hk; simp at hk; omega
    have hv : tolVal t = t := by unfold tolVal; rw [if_neg]; unfold key; rw [hn, hi]; simp; have := D_inf; omega
    rw [hv]
    unfold Ieee.Format.add
    rw [e0, read_inf D D_hf hi, hn]
    show some (D.word false D.infRung) = some t
    have := word_eq D (w := t) (by omega)
    rw [hn, hi] at this
    rw [this]

theorem ordV_self (a : Nat) : ordV a a = 0 := by unfold ordV; cases isNaN D a <;> simp
end Go.FlW

namespace Go.Proofs.Ytokdgppaedklhaa
open Go.RowKit Fl Go.FlW

set_option maxRecDepth 100000 in
set_option maxHeartbeats 1000000 in
theorem near_walk (a : Option Addr) (len cap : Nat) (L : Nat → Nat) (w : World) (h : IsWords w a len cap L) :
    Calls Try.prog 7 #[.agg #[.slice a len cap]] w fun e w' => e = .returned (.bool true) ∧ Below w.heap.size w w' := by
  rcases h with rfl | ⟨b, off, rfl, hl, hc, hb, hcell⟩
  · go_enter Try.func7, Try.ntmps7
    go_wp2
    go_loopw [3] (fun i wr => i = .int .i64 0 ∧ wr = w.alloc (.cells #[.slice a 0 cap] 35)) (fun i _ => 0)
    case atStart => exact ⟨rfl, rfl⟩
    case round =>
      obtain ⟨rfl, rfl⟩ := hrel
      go_wp2_with (go_at_call 14; refine (wakes14 _).mono ?_; rintro e w' ⟨rfl, n, rfl⟩)
      go_ret
      exact ⟨rfl, below_drewN ((Below.refl _ _).alloc (Nat.le_refl _) _) _⟩
  · go_enter Try.func7, Try.ntmps7
    go_wp2
    go_loopw [3] (fun i wr => ∃ k : Nat, k ≤ len ∧ k ≤ 60 ∧ i = .int .i64 k ∧ ∃ n, wr = (w.alloc (.cells #[.slice (some ⟨b, off, none⟩) len cap] 35)).drewN n) (fun i _ => len - (intOf i).toNat)
    case atStart => exact ⟨0, Nat.zero_le _, Nat.zero_le _, rfl, 0, rfl⟩
    case round =>
      obtain ⟨k, hk, hk60, rfl, n0, rfl⟩ := hrel
      by_cases hlt : k + 2 < len
      · by_cases h60 : k < 60
        · obtain ⟨c1, b1⟩ := hcell k (by omega)
          obtain ⟨c2, b2⟩ := hcell (k + 1) (by omega)
          obtain ⟨c3, b3⟩ := hcell (k + 2) (by omega)
          clear hcell
          have t1 : ((k : Int) + 1).toNat = k + 1 := by omega
          have t2 : ((k : Int) + 2).toNat = k + 2 := by omega
          generalize hA : L k = A at *
          generalize hB : L (k + 1) = B at *
          generalize hC : L (k + 2) = C at *
          clear hA hB hC
          have ho := ordV_self A
          have hab : B < 2 ^ 64 ∧ A < 2 ^ 64 := ⟨b2, b1⟩
          have haa : A < 2 ^ 64 ∧ A < 2 ^ 64 := ⟨b1, b1⟩
          cases ht : tolOk C
          · have HT := Lib.hid ht; clear ht
            have hbb : 0 < 2 ^ 64 := by omega
            go_wp2_with (first | (go_at_call 17; refine (float_nat _ _).mono ?_; rintro e w' ⟨rfl, rfl⟩) | (go_at_call 19; refine (tol19_no _ _ HT.out).mono ?_; rintro e w' ⟨rfl, rfl⟩) | (go_at_call 20; refine (fits20_of _ HT.out).mono ?_; rintro e w' ⟨rfl, rfl⟩) | (go_at_call 13; refine (same13_self _ _ hbb).mono ?_; rintro e w' ⟨rfl, n1, rfl⟩) | (go_at_call 15; refine (within15 _ _ _ _).mono ?_; rintro e w' ⟨rfl, n2, rfl⟩) | (go_at_call 21; refine (within21 _ _ _ _).mono ?_; rintro e w' ⟨rfl, n3, rfl⟩) | (go_at_call 22; refine (order22 _ _ _ (by assumption)).mono ?_; rintro e w' ⟨rfl, n4, rfl⟩) | (go_at_call 23; refine (order23 _ _ _).mono ?_; rintro e w' ⟨rfl, n5, rfl⟩))
            go_roundw
            case rel => exact ⟨k + 1, by omega, by omega, by go_num, _, rfl⟩
            case measure => simp [intOf]; omega
          · have ha := add_zero b3 ht
            have hrun := run_fl_some (P := Try.prog) .add C 0 _ ha
            have HT := Lib.hid ht; clear ht ha
            have hbb := tolVal_lt b3
            go_wp2_with (first | (go_at_call 17; refine (float_nat _ _).mono ?_; rintro e w' ⟨rfl, rfl⟩) | (go_at_call 19; refine (tol19_yes _ _ HT.out).mono ?_; rintro e w' ⟨rfl, rfl⟩) | (go_at_call 16; refine (zero_any _).mono ?_; rintro e w' ⟨rfl, rfl⟩) | (go_at_call 20; refine (fits20_of _ HT.out).mono ?_; rintro e w' ⟨rfl, rfl⟩) | (go_at_call 13; refine (same13_self _ _ hbb).mono ?_; rintro e w' ⟨rfl, n1, rfl⟩) | (go_at_call 15; refine (within15 _ _ _ _).mono ?_; rintro e w' ⟨rfl, n2, rfl⟩) | (go_at_call 21; refine (within21 _ _ _ _).mono ?_; rintro e w' ⟨rfl, n3, rfl⟩) | (go_at_call 22; refine (order22 _ _ _ (by assumption)).mono ?_; rintro e w' ⟨rfl, n4, rfl⟩) | (go_at_call 23; refine (order23 _ _ _).mono ?_; rintro e w' ⟨rfl, n5, rfl⟩))
            go_roundw
            case rel => exact ⟨k + 1, by omega, by omega, by go_num, _, rfl⟩
            case measure => simp [intOf]; omega
        · go_wp2_with (go_at_call 14; refine (wakes14 _).mono ?_; rintro e w' ⟨rfl, n, rfl⟩)
          go_ret
          exact ⟨rfl, below_drewN ((Below.refl _ _).alloc (Nat.le_refl _) _) _⟩
      · go_wp2_with (go_at_call 14; refine (wakes14 _).mono ?_; rintro e w' ⟨rfl, n, rfl⟩)
        go_ret
        exact ⟨rfl, below_drewN ((Below.refl _ _).alloc (Nat.le_refl _) _) _⟩
end Go.Proofs.Ytokdgppaedklhaa
