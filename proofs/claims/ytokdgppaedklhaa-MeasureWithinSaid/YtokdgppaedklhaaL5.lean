/- The walk of MeasureWithin. -/
import Derived.Test.YtokdgppaedklhaaOp
import Derived.Deep.Cut
namespace Go.FlW
open Fl
/-- +Inf -/
def infW : Nat := 9218868437227405312

theorem within_symm (a b t : Nat) : withinB b a t = withinB a b t := by
  unfold withinB
  cases ht : tolOk t <;> cases na : isNaN D a <;> cases nb : isNaN D b <;> simp
  by_cases hk : key D a = key D b
  · rw [decide_eq_true hk, decide_eq_true hk.symm]; rfl
  · obtain ⟨r, s, hr, hs, hks, hrs⟩ := sub_some na nb hk
    rw [decide_eq_false hk, decide_eq_false (fun g => hk g.symm)]
    unfold nearB
    rw [hr, hs]
    simp only [hrs]

theorem within_tol {a b t : Nat} (h : withinB a b t = true) : tolOk t = true ∧ isNaN D a = false ∧ isNaN D b = false ∧ (key D a = key D b ∨ ∃ r s, D.sub a b = some r ∧ D.sub b a = some s ∧ (rung D r : Int) ≤ key D t ∧ rung D s = rung D r) := by
  unfold withinB at h
  simp only [Bool.and_eq_true, Bool.not_eq_true', Bool.or_eq_true, decide_eq_true_eq] at h
  obtain ⟨⟨⟨h1, h2⟩, h3⟩, h4⟩ := h
  refine ⟨h1, h2, h3, ?_⟩
  by_cases hk : key D a = key D b
  · exact Or.inl hk
  · right
    obtain ⟨r, s, hr, hs, _, hrs⟩ := sub_some h2 h3 hk
    refine ⟨r, s, hr, hs, ?_, hrs⟩
    rcases h4 with h4 | h4
    · exact absurd h4 hk
    · unfold nearB at h4; rw [hr] at h4; exact of_decide_eq_true h4

theorem within_mono {a b s t : Nat} (h : withinB a b s = true) (ht : isNaN D t = false) (hle : key D s ≤ key D t) : withinB a b t = true := by
  have hs := h
  obtain ⟨h1, h2, h3, h4⟩ := within_tol h
  have h5 : tolOk t = true := by
    unfold tolOk at h1 ⊢
    simp only [Bool.and_eq_true, Bool.not_eq_true', decide_eq_true_eq] at h1 ⊢
    exact ⟨ht, by omega⟩
  unfold withinB at hs ⊢
  rw [h1] at hs
  rw [h5]
  rw [h2, h3] at hs ⊢
  simp only [Bool.not_false, Bool.and_true, Bool.true_and, Bool.or_eq_true, decide_eq_true_eq] at hs ⊢
  rcases hs with hs | hs
  · exact Or.inl hs
  · right
    unfold nearB at hs ⊢
    cases hd : D.sub a b with
    | none => rw [hd] at hs; cases hs
    | some r => rw [hd] at hs; simp at hs ⊢; omega

theorem within_self (a : Nat) : withinB a a 0 = !isNaN D a := by
  unfold withinB
  rw [show tolOk 0 = true by decide]
  cases isNaN D a <;> simp

theorem within_inf (a b : Nat) : withinB a b infW = (!isNaN D a && !isNaN D b) := by
  unfold withinB
  rw [show tolOk infW = true by decide]
  cases na : isNaN D a <;> cases nb : isNaN D b <;> simp
  by_cases hk : key D a = key D b
  · exact Or.inl hk
  · right
    obtain ⟨r, s, hr, _, _, _⟩ := sub_some na nb hk
    unfold nearB
    rw [hr]
    have h1 := nan_sub D hr
    have h2 : ¬ D.infRung < rung D r := of_decide_eq_false h1
    have h3 : key D infW = D.infRung := by decide
    rw [h3]
    simp only [decide_eq_true_eq]
    omega

theorem within_nan (a b : Nat) {t : Nat} (h : isNaN D t = true) : withinB a b t = false := by
  unfold withinB tolOk; rw [h]; rfl
theorem within_less (a b : Nat) : withinB a b 13830554455654793216 = false := by
  unfold withinB; rw [show tolOk 13830554455654793216 = false by decide]; rfl

theorem sub_le {a b t r : Nat} (h : D.sub a b = some r) (ht : tolOk t = true) (hle : (rung D r : Int) ≤ key D t) : (FloatKind.f64.format.order r t == some .lt || FloatKind.f64.format.order r t == some .eq) = true := by
  unfold tolOk at ht
  simp only [Bool.and_eq_true, Bool.not_eq_true', decide_eq_true_eq] at ht
  rw [ord_le, nan_sub D h, ht.1]
  have : key D r ≤ rung D r := by unfold key; split <;> omega
  rw [decide_eq_true (by omega)]; rfl

end Go.FlW

namespace Go.Proofs.Ytokdgppaedklhaa
open Go.RowKit Fl Go.FlW

set_option maxRecDepth 100000 in
set_option maxHeartbeats 2000000 in
theorem within_walk (a : Option Addr) (len cap : Nat) (L : Nat → Nat) (w : World) (h : IsWords w a len cap L) :
    Calls Try.prog 5 #[.agg #[.slice a len cap]] w fun e w' => e = .returned (.bool true) ∧ Below w.heap.size w w' := by
  have hdiv : floatBits .quo .f64 4607182418800017408 0 = some 9218868437227405312 := by decide
  have hq := run_fl_some (P := Try.prog) .quo _ _ _ hdiv
  have hnone : floatBits .sub .f64 9218868437227405312 9218868437227405312 = none := by decide
  have hin := run_fl_none (P := Try.prog) .sub _ _ (by simp) hnone
  clear hdiv hnone
  rcases h with rfl | ⟨b, off, rfl, hl, hc, hb, hcell⟩
  · clear hin
    go_enter Try.func5, Try.ntmps5
    go_wp2_with (go_at_call 16; refine (zero_any _).mono ?_; rintro e w' ⟨rfl, rfl⟩)
    go_loopw [4] (fun i wr => i = .int .i64 0 ∧ wr = w.alloc (.cells #[.slice a 0 cap] 35)) (fun i _ => 0)
    case atStart => exact ⟨rfl, rfl⟩
    case round =>
      obtain ⟨rfl, rfl⟩ := hrel
      go_wp2_with (go_at_call 14; refine (wakes14 _).mono ?_; rintro e w' ⟨rfl, n, rfl⟩)
      go_ret
      exact ⟨rfl, below_drewN ((Below.refl _ _).alloc (Nat.le_refl _) _) _⟩
  · go_enter Try.func5, Try.ntmps5
    go_wp2_with (go_at_call 16; refine (zero_any _).mono ?_; rintro e w' ⟨rfl, rfl⟩)
    go_loopw [4] (fun i wr => ∃ k : Nat, k ≤ len ∧ k ≤ 60 ∧ i = .int .i64 k ∧ ∃ n, wr = (w.alloc (.cells #[.slice (some ⟨b, off, none⟩) len cap] 35)).drewN n) (fun i _ => len - (intOf i).toNat)
    case atStart => exact ⟨0, Nat.zero_le _, Nat.zero_le _, rfl, 0, rfl⟩
    case round =>
      obtain ⟨k, hk, hk60, rfl, n0, rfl⟩ := hrel
      by_cases hlt : k + 3 < len
      · by_cases h60 : k < 60
        · obtain ⟨c1, b1⟩ := hcell k (by omega)
          obtain ⟨c2, b2⟩ := hcell (k + 1) (by omega)
          obtain ⟨c3, b3⟩ := hcell (k + 2) (by omega)
          obtain ⟨c4, b4⟩ := hcell (k + 3) (by omega)
          clear hcell
          have t1 : ((k : Int) + 1).toNat = k + 1 := by omega
          have t2 : ((k : Int) + 2).toNat = k + 2 := by omega
          have t3 : ((k : Int) + 3).toNat = k + 3 := by omega
          generalize hA : L k = A at *
          generalize hB : L (k + 1) = B at *
          generalize hC : L (k + 2) = S at *
          generalize hT : L (k + 3) = T at *
          clear hA hB hC hT
          have e1 := within_symm A B S
          have e2 := within_self A
          have e3 : withinB A B 9218868437227405312 = (!isNaN D A && !isNaN D B) := within_inf A B
          have e4 := within_less A B
          have e5 : ∀ x, withinB A B (nanOf x) = false := fun x => within_nan A B (nanOf_nan x).1
          have ea : (FloatKind.f64.format.order A A == some .eq) = !isNaN D A := by rw [ord_eq]; cases isNaN D A <;> simp
          have eb : (FloatKind.f64.format.order B B == some .eq) = !isNaN D B := by rw [ord_eq]; cases isNaN D B <;> simp
          cases hw : withinB A B S
          · rw [hw] at e1
            cases na : isNaN D A <;> cases nb : isNaN D B <;> simp only [na, nb, Bool.not_false, Bool.not_true, Bool.and_true, Bool.and_false] at e2 e3 ea eb <;> clear na nb
            all_goals
              go_upto_region 10 with (first | (go_at_call 17; refine (float_nat _ _).mono ?_; rintro e w' ⟨rfl, rfl⟩) | (go_at_call 15; refine (within15 _ _ _ _).mono ?_; rintro e w' ⟨rfl, n2, rfl⟩))
              simp only [List.append_eq, List.cons_append, List.nil_append]
              go_wp2_with (first | (go_at_call 17; refine (float_nat _ _).mono ?_; rintro e w' ⟨rfl, rfl⟩) | (go_at_call 15; refine (within15 _ _ _ _).mono ?_; rintro e w' ⟨rfl, n2, rfl⟩))
              go_roundw
              case rel => exact ⟨k + 1, by omega, by omega, by go_num, _, rfl⟩
              case measure => simp [intOf]; omega
          · rw [hw] at e1
            obtain ⟨h1, na, nb, h4⟩ := within_tol hw
            have hge : (FloatKind.f64.format.order S 0 == some .gt || FloatKind.f64.format.order S 0 == some .eq) = true := by
              rw [ord_ge, nan_zero, key_zero]; unfold tolOk at h1; revert h1; cases isNaN D S <;> simp
            have hts : (FloatKind.f64.format.order T S == some .gt || FloatKind.f64.format.order T S == some .eq) = true → withinB A B T = true := by
              intro g
              rw [ord_ge] at g
              simp only [Bool.and_eq_true, Bool.not_eq_true', decide_eq_true_eq] at g
              exact within_mono hw g.1.1 g.2
            have heq : (FloatKind.f64.format.order A B == some .eq) = decide (key D A = key D B) := by rw [ord_eq, na, nb]; simp
            simp only [na, nb, Bool.not_false, Bool.and_true] at e2 e3 ea eb
            rcases h4 with h4 | ⟨r, s, hr, hs, hle, hrs⟩
            · rw [decide_eq_true h4] at heq
              have hne : (FloatKind.f64.format.order A B != some .eq) = false := by unfold bne; rw [heq]; rfl
              clear na nb h1 h4
              cases hg : (FloatKind.f64.format.order T S == some .gt || FloatKind.f64.format.order T S == some .eq)
              · clear hts
                go_upto_region 10 with (first | (go_at_call 17; refine (float_nat _ _).mono ?_; rintro e w' ⟨rfl, rfl⟩) | (go_at_call 15; refine (within15 _ _ _ _).mono ?_; rintro e w' ⟨rfl, n2, rfl⟩))
                simp only [List.append_eq, List.cons_append, List.nil_append]
                go_wp2_with (first | (go_at_call 17; refine (float_nat _ _).mono ?_; rintro e w' ⟨rfl, rfl⟩) | (go_at_call 15; refine (within15 _ _ _ _).mono ?_; rintro e w' ⟨rfl, n2, rfl⟩))
                go_roundw
                case rel => exact ⟨k + 1, by omega, by omega, by go_num, _, rfl⟩
                case measure => simp [intOf]; omega
              · have ht := hts hg
                clear hts
                go_upto_region 10 with (first | (go_at_call 17; refine (float_nat _ _).mono ?_; rintro e w' ⟨rfl, rfl⟩) | (go_at_call 15; refine (within15 _ _ _ _).mono ?_; rintro e w' ⟨rfl, n2, rfl⟩))
                simp only [List.append_eq, List.cons_append, List.nil_append]
                go_wp2_with (first | (go_at_call 17; refine (float_nat _ _).mono ?_; rintro e w' ⟨rfl, rfl⟩) | (go_at_call 15; refine (within15 _ _ _ _).mono ?_; rintro e w' ⟨rfl, n2, rfl⟩))
                go_roundw
                case rel => exact ⟨k + 1, by omega, by omega, by go_num, _, rfl⟩
                case measure => simp [intOf]; omega
            · have q1 := sub_le hr h1 hle
              have q2 := sub_le hs h1 (by rw [hrs]; exact hle)
              have s1 := run_fl_some (P := Try.prog) .sub _ _ _ hr
              have s2 := run_fl_some (P := Try.prog) .sub _ _ _ hs
              clear hr hs hle hrs na nb h1
              cases hd : decide (key D A = key D B) <;> rw [hd] at heq
              · have hne : (FloatKind.f64.format.order A B != some .eq) = true := by unfold bne; rw [heq]; rfl
                clear hd
                cases hg : (FloatKind.f64.format.order T S == some .gt || FloatKind.f64.format.order T S == some .eq)
                · clear hts
                  go_upto_region 10 with (first | (go_at_call 17; refine (float_nat _ _).mono ?_; rintro e w' ⟨rfl, rfl⟩) | (go_at_call 15; refine (within15 _ _ _ _).mono ?_; rintro e w' ⟨rfl, n2, rfl⟩))
                  simp only [List.append_eq, List.cons_append, List.nil_append]
                  go_wp2_with (first | (go_at_call 17; refine (float_nat _ _).mono ?_; rintro e w' ⟨rfl, rfl⟩) | (go_at_call 15; refine (within15 _ _ _ _).mono ?_; rintro e w' ⟨rfl, n2, rfl⟩))
                  go_roundw
                  case rel => exact ⟨k + 1, by omega, by omega, by go_num, _, rfl⟩
                  case measure => simp [intOf]; omega
                · have ht := hts hg
                  clear hts
                  go_upto_region 10 with (first | (go_at_call 17; refine (float_nat _ _).mono ?_; rintro e w' ⟨rfl, rfl⟩) | (go_at_call 15; refine (within15 _ _ _ _).mono ?_; rintro e w' ⟨rfl, n2, rfl⟩))
                  simp only [List.append_eq, List.cons_append, List.nil_append]
                  go_wp2_with (first | (go_at_call 17; refine (float_nat _ _).mono ?_; rintro e w' ⟨rfl, rfl⟩) | (go_at_call 15; refine (within15 _ _ _ _).mono ?_; rintro e w' ⟨rfl, n2, rfl⟩))
                  go_roundw
                  case rel => exact ⟨k + 1, by omega, by omega, by go_num, _, rfl⟩
                  case measure => simp [intOf]; omega
              · have hne : (FloatKind.f64.format.order A B != some .eq) = false := by unfold bne; rw [heq]; rfl
                clear hd
                cases hg : (FloatKind.f64.format.order T S == some .gt || FloatKind.f64.format.order T S == some .eq)
                · clear hts
                  go_upto_region 10 with (first | (go_at_call 17; refine (float_nat _ _).mono ?_; rintro e w' ⟨rfl, rfl⟩) | (go_at_call 15; refine (within15 _ _ _ _).mono ?_; rintro e w' ⟨rfl, n2, rfl⟩))
                  simp only [List.append_eq, List.cons_append, List.nil_append]
                  go_wp2_with (first | (go_at_call 17; refine (float_nat _ _).mono ?_; rintro e w' ⟨rfl, rfl⟩) | (go_at_call 15; refine (within15 _ _ _ _).mono ?_; rintro e w' ⟨rfl, n2, rfl⟩))
                  go_roundw
                  case rel => exact ⟨k + 1, by omega, by omega, by go_num, _, rfl⟩
                  case measure => simp [intOf]; omega
                · have ht := hts hg
                  clear hts
                  go_upto_region 10 with (first | (go_at_call 17; refine (float_nat _ _).mono ?_; rintro e w' ⟨rfl, rfl⟩) | (go_at_call 15; refine (within15 _ _ _ _).mono ?_; rintro e w' ⟨rfl, n2, rfl⟩))
                  simp only [List.append_eq, List.cons_append, List.nil_append]
                  go_wp2_with (first | (go_at_call 17; refine (float_nat _ _).mono ?_; rintro e w' ⟨rfl, rfl⟩) | (go_at_call 15; refine (within15 _ _ _ _).mono ?_; rintro e w' ⟨rfl, n2, rfl⟩))
                  go_roundw
                  case rel => exact ⟨k + 1, by omega, by omega, by go_num, _, rfl⟩
                  case measure => simp [intOf]; omega
        · go_wp2_with (go_at_call 14; refine (wakes14 _).mono ?_; rintro e w' ⟨rfl, n, rfl⟩)
          go_ret
          exact ⟨rfl, below_drewN ((Below.refl _ _).alloc (Nat.le_refl _) _) _⟩
      · go_wp2_with (go_at_call 14; refine (wakes14 _).mono ?_; rintro e w' ⟨rfl, n, rfl⟩)
        go_ret
        exact ⟨rfl, below_drewN ((Below.refl _ _).alloc (Nat.le_refl _) _) _⟩
end Go.Proofs.Ytokdgppaedklhaa
