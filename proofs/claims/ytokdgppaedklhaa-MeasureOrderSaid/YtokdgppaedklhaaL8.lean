/- The walk of MeasureOrder. -/
import Derived.Test.YtokdgppaedklhaaOp
import Derived.Deep.Cut
namespace Go.FlW
open Fl
/-- a float's rank -/
def rank (a : Nat) : Int := if isNaN D a then 2 * D.infRung + 10 else 2 * key D a + if neg D a then 0 else 1

theorem key_le (a : Nat) (h : isNaN D a = false) : -(D.infRung : Int) ≤ key D a ∧ key D a ≤ D.infRung := by
  have : ¬ D.infRung < rung D a := of_decide_eq_false h
  unfold key; split <;> omega

theorem ordV_rank (a b : Nat) : ordV a b = if rank a < rank b then -1 else if rank b < rank a then 1 else 0 := by
  unfold ordV rank
  cases na : isNaN D a
  · have ha := key_le a na
    cases nb : isNaN D b
    · simp only [Bool.false_eq_true, if_false]
      cases sa : neg D a <;> cases sb : neg D b <;> simp only [Bool.false_eq_true, if_false, if_true]
      all_goals
        by_cases h1 : key D a < key D b
        · rw [if_pos h1, if_pos (by omega)]
        · rw [if_neg h1]
          by_cases h2 : key D b < key D a
          · rw [if_pos h2, if_neg (by omega), if_pos (by omega)]
          · rw [if_neg h2]
            simp
            omega
    · simp only [Bool.false_eq_true, if_false, if_true]
      rw [if_pos]
      split <;> omega
  · cases nb : isNaN D b
    · have hb := key_le b nb
      simp only [Bool.false_eq_true, if_false, if_true]
      rw [if_neg (by split <;> omega), if_pos (by split <;> omega)]
    · simp

theorem ordV_cases (a b : Nat) : (ordV a b = -1 ∧ rank a < rank b) ∨ (ordV a b = 0 ∧ rank a = rank b) ∨ (ordV a b = 1 ∧ rank b < rank a) := by
  rw [ordV_rank]
  split
  · exact Or.inl ⟨rfl, by assumption⟩
  · split
    · exact Or.inr (Or.inr ⟨rfl, by assumption⟩)
    · exact Or.inr (Or.inl ⟨rfl, by omega⟩)

theorem ordV_lt {a b : Nat} (h : rank a < rank b) : ordV a b = -1 := by rw [ordV_rank, if_pos h]
theorem ordV_gt {a b : Nat} (h : rank b < rank a) : ordV a b = 1 := by rw [ordV_rank, if_neg (by omega), if_pos h]
theorem ordV_eq {a b : Nat} (h : rank a = rank b) : ordV a b = 0 := by rw [ordV_rank, if_neg (by omega), if_neg (by omega)]

theorem rank_same {a b : Nat} (ha : a < 2 ^ 64) (hb : b < 2 ^ 64) : same a b = decide (rank a = rank b) := by
  unfold same
  cases na : isNaN D a
  · have h1 := key_le a na
    cases nb : isNaN D b
    · simp only [Bool.and_false, Bool.false_or, Bool.not_false, Bool.and_true]
      by_cases h : a = b
      · subst h; simp
      · rw [decide_eq_false h]; symm
        apply decide_eq_false
        intro g
        unfold rank at g
        rw [na, nb] at g
        simp only [Bool.false_eq_true, if_false] at g
        apply h
        have hk : key D a = key D b := by revert g; split <;> split <;> omega
        have hn : neg D a = neg D b := by
          cases sa : neg D a <;> cases sb : neg D b <;> rw [sa, sb] at g <;> simp at g <;> first | rfl | omega
        have e : (2 : Nat) ^ 64 = 2 * D.signWeight := by decide
        rw [← word_eq D (w := a) (by omega), ← word_eq D (w := b) (by omega), hn]
        congr 1
        unfold key at hk
        rw [hn] at hk
        revert hk
        split <;> omega
    · simp only [Bool.and_true, Bool.false_or, Bool.not_false]
      have hne : a ≠ b := by intro g; rw [g] at na; rw [na] at nb; cases nb
      rw [decide_eq_false hne]; symm
      apply decide_eq_false
      unfold rank; rw [na, nb]; simp; split <;> omega
  · cases nb : isNaN D b
    · have h1 := key_le b nb
      simp only [Bool.and_false, Bool.false_or, Bool.not_true]
      symm
      apply decide_eq_false
      unfold rank; rw [na, nb]; simp; split <;> omega
    · simp only [Bool.and_self, Bool.true_or]
      symm; apply decide_eq_true
      unfold rank; rw [na, nb]; simp

theorem rank_top {a : Nat} (h : isNaN D a = true) : rank a = 2 * D.infRung + 10 := by unfold rank; rw [h]; rfl
theorem rank_le (a : Nat) : rank a ≤ 2 * D.infRung + 10 := by
  cases na : isNaN D a
  · have := key_le a na
    unfold rank; rw [na]; simp; split <;> omega
  · rw [rank_top na]; omega
theorem rank_num {a : Nat} (h : isNaN D a = false) : rank a ≤ 2 * D.infRung + 1 ∧ -(2 * D.infRung : Int) ≤ rank a := by
  have := key_le a h
  unfold rank; rw [h]; simp; split <;> omega
theorem rank_inf : rank 9218868437227405312 = 2 * D.infRung + 1 := by decide
theorem rank_minf : rank 18442240474082181120 = -(2 * D.infRung : Int) := by decide
theorem rank_lower (a : Nat) : -(2 * D.infRung : Int) ≤ rank a := by
  cases na : isNaN D a
  · exact (rank_num na).2
  · rw [rank_top na]; have := D_inf; omega

theorem ordV_nanOf (a x : Nat) : ordV a (nanOf x) = if isNaN D a then 0 else -1 := by
  have h1 := rank_top (nanOf_nan x).1
  cases na : isNaN D a
  · have h2 := (rank_num na).1
    have : rank a < rank (nanOf x) := by rw [h1]; generalize (D.infRung : Int) = I at *; omega
    rw [ordV_lt this]; simp
  · rw [ordV_eq ((rank_top na).trans h1.symm)]; simp
theorem ordV_inf_le {a : Nat} (na : isNaN D a = false) : ordV a 9218868437227405312 ≤ 0 := by
  have h1 := rank_inf
  have h2 := (rank_num na).1
  rcases ordV_cases a 9218868437227405312 with ⟨h, _⟩ | ⟨h, _⟩ | ⟨_, h⟩
  · rw [h]; decide
  · rw [h]; decide
  · rw [h1] at h; generalize (D.infRung : Int) = I at *; omega
theorem ordV_minf_le (a : Nat) : ordV 18442240474082181120 a ≤ 0 := by
  have h1 := rank_minf
  have h2 := rank_lower a
  rcases ordV_cases 18442240474082181120 a with ⟨h, _⟩ | ⟨h, _⟩ | ⟨_, h⟩
  · rw [h]; decide
  · rw [h]; decide
  · rw [h1] at h; generalize (D.infRung : Int) = I at *; omega

theorem lt_rank {a b : Nat} (h : (FloatKind.f64.format.order a b == some .lt) = true) : rank a < rank b := by
  rw [ord_lt] at h
  simp only [Bool.and_eq_true, Bool.not_eq_true', decide_eq_true_eq] at h
  unfold rank
  rw [h.1.1, h.1.2]
  simp
  split <;> split <;> omega
end Go.FlW

namespace Go.Proofs.Ytokdgppaedklhaa
open Go.RowKit Fl Go.FlW

theorem neg0 : Op.unary .neg (.float .f64 0) = pure (.float .f64 9223372036854775808) := by
  show pure (Value.float .f64 (Op.negFloat .f64 0)) = _
  rw [show Op.negFloat .f64 0 = 9223372036854775808 by decide]
theorem negI : Op.unary .neg (.float .f64 9218868437227405312) = pure (.float .f64 18442240474082181120) := by
  show pure (Value.float .f64 (Op.negFloat .f64 9218868437227405312)) = _
  rw [show Op.negFloat .f64 9218868437227405312 = 18442240474082181120 by decide]

set_option maxRecDepth 100000 in
set_option maxHeartbeats 8000000 in
theorem order_walk (a : Option Addr) (len cap : Nat) (L : Nat → Nat) (w : World) (h : IsWords w a len cap L) :
    Calls Try.prog 8 #[.agg #[.slice a len cap]] w fun e w' => e = .returned (.bool true) ∧ Below w.heap.size w w' := by
  have hdiv : floatBits .quo .f64 4607182418800017408 0 = some 9218868437227405312 := by decide
  have hq := run_fl_some (P := Try.prog) .quo _ _ _ hdiv
  have hnone : floatBits .sub .f64 9218868437227405312 9218868437227405312 = none := by decide
  have hin := run_fl_none (P := Try.prog) .sub _ _ (by simp) hnone
  have hmul : floatBits .mul .f64 9223372036854775808 4607182418800017408 = some 9223372036854775808 := by decide
  have hm := run_fl_some (P := Try.prog) .mul _ _ _ hmul
  have hdv : floatBits .quo .f64 4607182418800017408 18442240474082181120 = some 9223372036854775808 := by decide
  have hq2 := run_fl_some (P := Try.prog) .quo _ _ _ hdv
  clear hdiv hnone hmul hdv
  have n1 := neg0
  have n2 := negI
  have o1 : ordV 9223372036854775808 0 = -1 := by decide
  have l1 : 0 < 2 ^ 64 ∧ 9223372036854775808 < 2 ^ 64 := by omega
  rcases h with rfl | ⟨b, off, rfl, hl, hc, hb, hcell⟩
  · go_enter Try.func8, Try.ntmps8
    go_wp2_with (go_at_call 16; refine (zero_any _).mono ?_; rintro e w' ⟨rfl, rfl⟩)
    go_loopw [4] (fun i wr => i = .int .i64 0 ∧ wr = w.alloc (.cells #[.slice a 0 cap] 35)) (fun i _ => 0)
    case atStart => exact ⟨rfl, rfl⟩
    case round =>
      obtain ⟨rfl, rfl⟩ := hrel
      go_wp2_with (first | (go_at_call 14; refine (wakes14 _).mono ?_; rintro e w' ⟨rfl, n, rfl⟩) | (go_at_call 16; refine (zero_any _).mono ?_; rintro e w' ⟨rfl, rfl⟩) | (go_at_call 22; refine (order22 _ _ _ (by first | assumption | exact ⟨(nanOf_nan _).2, by assumption⟩)).mono ?_; rintro e w' ⟨rfl, n4, rfl⟩))
      go_ret
      exact ⟨rfl, below_drewN ((Below.refl _ _).alloc (Nat.le_refl _) _) _⟩
  · go_enter Try.func8, Try.ntmps8
    go_wp2_with (go_at_call 16; refine (zero_any _).mono ?_; rintro e w' ⟨rfl, rfl⟩)
    go_loopw [4] (fun i wr => ∃ k : Nat, k ≤ len ∧ k ≤ 60 ∧ i = .int .i64 k ∧ ∃ n, wr = (w.alloc (.cells #[.slice (some ⟨b, off, none⟩) len cap] 35)).drewN n) (fun i _ => len - (intOf i).toNat)
    case atStart => exact ⟨0, Nat.zero_le _, Nat.zero_le _, rfl, 0, rfl⟩
    case round =>
      obtain ⟨k, hk, hk60, rfl, n0, rfl⟩ := hrel
      by_cases hlt : k + 2 < len
      · by_cases h60 : k < 60
        · obtain ⟨c1, b1⟩ := hcell k (by omega)
          obtain ⟨c2, b2⟩ := hcell (k + 1) (by omega)
          obtain ⟨c3, b3⟩ := hcell (k + 2) (by omega)
          clear hcell
          have t1 : ((k : Int) + 1).toNat = k + 1 := by omega
          have t2 : ((k : Int) + 2).toNat = k + 2 := by omega
          generalize hA : L k = A at *
          generalize hB : L (k + 1) = B at *
          generalize hC : L (k + 2) = C at *
          clear hA hB hC
          have pba : A < 2 ^ 64 ∧ B < 2 ^ 64 := ⟨b1, b2⟩
          have pab : B < 2 ^ 64 ∧ A < 2 ^ 64 := ⟨b2, b1⟩
          have pbc : C < 2 ^ 64 ∧ B < 2 ^ 64 := ⟨b3, b2⟩
          have pac : C < 2 ^ 64 ∧ A < 2 ^ 64 := ⟨b3, b1⟩
          have pia : A < 2 ^ 64 ∧ 18442240474082181120 < 2 ^ 64 := ⟨b1, by omega⟩
          have pai : 9218868437227405312 < 2 ^ 64 ∧ A < 2 ^ 64 := ⟨by omega, b1⟩
          go_upto_region 11 with (first | (go_at_call 17; refine (float_nat _ _).mono ?_; rintro e w' ⟨rfl, rfl⟩) | (go_at_call 22; refine (order22 _ _ _ (by first | assumption | exact ⟨(nanOf_nan _).2, by assumption⟩)).mono ?_; rintro e w' ⟨rfl, n4, rfl⟩) | (go_at_call 13; refine (same13 _ _ _ b1 b2).mono ?_; rintro e w' ⟨rfl, n5, rfl⟩))
          have hmi := ordV_minf_le A
          have hsm := rank_same b1 b2
          have hlr := @lt_rank A B
          have ea : (FloatKind.f64.format.order A A == some .eq) = !isNaN D A := by rw [ord_eq]; cases isNaN D A <;> simp
          have hN : ∀ x, ordV A (nanOf x) = if isNaN D A then 0 else -1 := fun x => ordV_nanOf A x
          have hpi : isNaN D A = false → ordV A 9218868437227405312 ≤ 0 := fun na => ordV_inf_le na
          have htop : isNaN D A = true → rank B ≤ rank A := by
            intro na
            rw [rank_top na]; exact rank_le B
          rcases ordV_cases A B with ⟨hab, rab⟩ | ⟨hab, rab⟩ | ⟨hab, rab⟩
          · have hba := ordV_gt (a := B) (b := A) rab
            rw [decide_eq_false (by omega)] at hsm
            have na : isNaN D A = false := by
              cases na : isNaN D A
              · rfl
              · have := htop na; omega
            rw [na] at hN ea
            simp only [Bool.not_false, Bool.false_eq_true, if_false] at hN ea
            have hpi := hpi na
            clear htop na hlr
            rw [hab]
            cases ho : (FloatKind.f64.format.order A B == some .lt)
            · rcases ordV_cases B C with ⟨hbc, rbc⟩ | ⟨hbc, rbc⟩ | ⟨hbc, rbc⟩ <;> rw [hbc]
              · rw [ordV_lt (a := A) (b := C) (by omega)]
                clear rab rbc hab hbc
                as_aux_lemma =>
                  go_wp2_with (first | (go_at_call 22; refine (order22 _ _ _ (by first | assumption | exact ⟨(nanOf_nan _).2, by assumption⟩)).mono ?_; rintro e w' ⟨rfl, n4, rfl⟩) | (go_at_call 13; refine (same13 _ _ _ b1 b2).mono ?_; rintro e w' ⟨rfl, n5, rfl⟩))
                  all_goals
                    go_roundw
                    case rel => exact ⟨k + 1, by omega, by omega, by go_num, _, rfl⟩
                    case measure => simp [intOf]; omega
              · rw [ordV_lt (a := A) (b := C) (by omega)]
                clear rab rbc hab hbc
                as_aux_lemma =>
                  go_wp2_with (first | (go_at_call 22; refine (order22 _ _ _ (by first | assumption | exact ⟨(nanOf_nan _).2, by assumption⟩)).mono ?_; rintro e w' ⟨rfl, n4, rfl⟩) | (go_at_call 13; refine (same13 _ _ _ b1 b2).mono ?_; rintro e w' ⟨rfl, n5, rfl⟩))
                  all_goals
                    go_roundw
                    case rel => exact ⟨k + 1, by omega, by omega, by go_num, _, rfl⟩
                    case measure => simp [intOf]; omega
              · clear rab rbc hab hbc
                as_aux_lemma =>
                  go_wp2_with (first | (go_at_call 22; refine (order22 _ _ _ (by first | assumption | exact ⟨(nanOf_nan _).2, by assumption⟩)).mono ?_; rintro e w' ⟨rfl, n4, rfl⟩) | (go_at_call 13; refine (same13 _ _ _ b1 b2).mono ?_; rintro e w' ⟨rfl, n5, rfl⟩))
                  all_goals
                    go_roundw
                    case rel => exact ⟨k + 1, by omega, by omega, by go_num, _, rfl⟩
                    case measure => simp [intOf]; omega
            · rcases ordV_cases B C with ⟨hbc, rbc⟩ | ⟨hbc, rbc⟩ | ⟨hbc, rbc⟩ <;> rw [hbc]
              · rw [ordV_lt (a := A) (b := C) (by omega)]
                clear rab rbc hab hbc
                as_aux_lemma =>
                  go_wp2_with (first | (go_at_call 22; refine (order22 _ _ _ (by first | assumption | exact ⟨(nanOf_nan _).2, by assumption⟩)).mono ?_; rintro e w' ⟨rfl, n4, rfl⟩) | (go_at_call 13; refine (same13 _ _ _ b1 b2).mono ?_; rintro e w' ⟨rfl, n5, rfl⟩))
                  all_goals
                    go_roundw
                    case rel => exact ⟨k + 1, by omega, by omega, by go_num, _, rfl⟩
                    case measure => simp [intOf]; omega
              · rw [ordV_lt (a := A) (b := C) (by omega)]
                clear rab rbc hab hbc
                as_aux_lemma =>
                  go_wp2_with (first | (go_at_call 22; refine (order22 _ _ _ (by first | assumption | exact ⟨(nanOf_nan _).2, by assumption⟩)).mono ?_; rintro e w' ⟨rfl, n4, rfl⟩) | (go_at_call 13; refine (same13 _ _ _ b1 b2).mono ?_; rintro e w' ⟨rfl, n5, rfl⟩))
                  all_goals
                    go_roundw
                    case rel => exact ⟨k + 1, by omega, by omega, by go_num, _, rfl⟩
                    case measure => simp [intOf]; omega
              · clear rab rbc hab hbc
                as_aux_lemma =>
                  go_wp2_with (first | (go_at_call 22; refine (order22 _ _ _ (by first | assumption | exact ⟨(nanOf_nan _).2, by assumption⟩)).mono ?_; rintro e w' ⟨rfl, n4, rfl⟩) | (go_at_call 13; refine (same13 _ _ _ b1 b2).mono ?_; rintro e w' ⟨rfl, n5, rfl⟩))
                  all_goals
                    go_roundw
                    case rel => exact ⟨k + 1, by omega, by omega, by go_num, _, rfl⟩
                    case measure => simp [intOf]; omega
          · have hba := ordV_eq (a := B) (b := A) rab.symm
            rw [decide_eq_true rab] at hsm
            have ho : (FloatKind.f64.format.order A B == some .lt) = false := by
              cases ho : (FloatKind.f64.format.order A B == some .lt)
              · rfl
              · have := hlr ho; omega
            rw [hab]
            clear hlr htop
            cases na : isNaN D A <;> rw [na] at hN ea hpi
            · simp only [Bool.not_false, Bool.false_eq_true, if_false] at hN ea
              have hpi := hpi rfl
              clear na
              rcases ordV_cases B C with ⟨hbc, rbc⟩ | ⟨hbc, rbc⟩ | ⟨hbc, rbc⟩ <;> rw [hbc]
              · rw [ordV_lt (a := A) (b := C) (by omega)]
                clear rab rbc hab hbc
                as_aux_lemma =>
                  go_wp2_with (first | (go_at_call 22; refine (order22 _ _ _ (by first | assumption | exact ⟨(nanOf_nan _).2, by assumption⟩)).mono ?_; rintro e w' ⟨rfl, n4, rfl⟩) | (go_at_call 13; refine (same13 _ _ _ b1 b2).mono ?_; rintro e w' ⟨rfl, n5, rfl⟩))
                  all_goals
                    go_roundw
                    case rel => exact ⟨k + 1, by omega, by omega, by go_num, _, rfl⟩
                    case measure => simp [intOf]; omega
              · rw [ordV_eq (a := A) (b := C) (by omega)]
                clear rab rbc hab hbc
                as_aux_lemma =>
                  go_wp2_with (first | (go_at_call 22; refine (order22 _ _ _ (by first | assumption | exact ⟨(nanOf_nan _).2, by assumption⟩)).mono ?_; rintro e w' ⟨rfl, n4, rfl⟩) | (go_at_call 13; refine (same13 _ _ _ b1 b2).mono ?_; rintro e w' ⟨rfl, n5, rfl⟩))
                  all_goals
                    go_roundw
                    case rel => exact ⟨k + 1, by omega, by omega, by go_num, _, rfl⟩
                    case measure => simp [intOf]; omega
              · clear rab rbc hab hbc
                as_aux_lemma =>
                  go_wp2_with (first | (go_at_call 22; refine (order22 _ _ _ (by first | assumption | exact ⟨(nanOf_nan _).2, by assumption⟩)).mono ?_; rintro e w' ⟨rfl, n4, rfl⟩) | (go_at_call 13; refine (same13 _ _ _ b1 b2).mono ?_; rintro e w' ⟨rfl, n5, rfl⟩))
                  all_goals
                    go_roundw
                    case rel => exact ⟨k + 1, by omega, by omega, by go_num, _, rfl⟩
                    case measure => simp [intOf]; omega
            · simp only [Bool.not_true, if_true] at hN ea
              clear na hpi
              rcases ordV_cases B C with ⟨hbc, rbc⟩ | ⟨hbc, rbc⟩ | ⟨hbc, rbc⟩ <;> rw [hbc]
              · rw [ordV_lt (a := A) (b := C) (by omega)]
                clear rab rbc hab hbc
                as_aux_lemma =>
                  go_wp2_with (first | (go_at_call 22; refine (order22 _ _ _ (by first | assumption | exact ⟨(nanOf_nan _).2, by assumption⟩)).mono ?_; rintro e w' ⟨rfl, n4, rfl⟩) | (go_at_call 13; refine (same13 _ _ _ b1 b2).mono ?_; rintro e w' ⟨rfl, n5, rfl⟩))
                  all_goals
                    go_roundw
                    case rel => exact ⟨k + 1, by omega, by omega, by go_num, _, rfl⟩
                    case measure => simp [intOf]; omega
              · rw [ordV_eq (a := A) (b := C) (by omega)]
                clear rab rbc hab hbc
                as_aux_lemma =>
                  go_wp2_with (first | (go_at_call 22; refine (order22 _ _ _ (by first | assumption | exact ⟨(nanOf_nan _).2, by assumption⟩)).mono ?_; rintro e w' ⟨rfl, n4, rfl⟩) | (go_at_call 13; refine (same13 _ _ _ b1 b2).mono ?_; rintro e w' ⟨rfl, n5, rfl⟩))
                  all_goals
                    go_roundw
                    case rel => exact ⟨k + 1, by omega, by omega, by go_num, _, rfl⟩
                    case measure => simp [intOf]; omega
              · clear rab rbc hab hbc
                as_aux_lemma =>
                  go_wp2_with (first | (go_at_call 22; refine (order22 _ _ _ (by first | assumption | exact ⟨(nanOf_nan _).2, by assumption⟩)).mono ?_; rintro e w' ⟨rfl, n4, rfl⟩) | (go_at_call 13; refine (same13 _ _ _ b1 b2).mono ?_; rintro e w' ⟨rfl, n5, rfl⟩))
                  all_goals
                    go_roundw
                    case rel => exact ⟨k + 1, by omega, by omega, by go_num, _, rfl⟩
                    case measure => simp [intOf]; omega
          · have hba := ordV_lt (a := B) (b := A) rab
            rw [decide_eq_false (by omega)] at hsm
            have ho : (FloatKind.f64.format.order A B == some .lt) = false := by
              cases ho : (FloatKind.f64.format.order A B == some .lt)
              · rfl
              · have := hlr ho; omega
            rw [hab]
            clear hlr htop
            generalize ordV A C = ac
            generalize ordV B C = bc
            cases na : isNaN D A <;> rw [na] at hN ea hpi
            · simp only [Bool.not_false, Bool.false_eq_true, if_false] at hN ea
              have hpi := hpi rfl
              clear na rab hab
              as_aux_lemma =>
                go_wp2_with (first | (go_at_call 22; refine (order22 _ _ _ (by first | assumption | exact ⟨(nanOf_nan _).2, by assumption⟩)).mono ?_; rintro e w' ⟨rfl, n4, rfl⟩) | (go_at_call 13; refine (same13 _ _ _ b1 b2).mono ?_; rintro e w' ⟨rfl, n5, rfl⟩))
                all_goals
                  go_roundw
                  case rel => exact ⟨k + 1, by omega, by omega, by go_num, _, rfl⟩
                  case measure => simp [intOf]; omega
            · simp only [Bool.not_true, if_true] at hN ea
              clear na hpi rab hab
              as_aux_lemma =>
                go_wp2_with (first | (go_at_call 22; refine (order22 _ _ _ (by first | assumption | exact ⟨(nanOf_nan _).2, by assumption⟩)).mono ?_; rintro e w' ⟨rfl, n4, rfl⟩) | (go_at_call 13; refine (same13 _ _ _ b1 b2).mono ?_; rintro e w' ⟨rfl, n5, rfl⟩))
                all_goals
                  go_roundw
                  case rel => exact ⟨k + 1, by omega, by omega, by go_num, _, rfl⟩
                  case measure => simp [intOf]; omega
        · go_wp2_with (first | (go_at_call 14; refine (wakes14 _).mono ?_; rintro e w' ⟨rfl, n, rfl⟩) | (go_at_call 16; refine (zero_any _).mono ?_; rintro e w' ⟨rfl, rfl⟩) | (go_at_call 22; refine (order22 _ _ _ (by first | assumption | exact ⟨(nanOf_nan _).2, by assumption⟩)).mono ?_; rintro e w' ⟨rfl, n4, rfl⟩))
          go_ret
          exact ⟨rfl, below_drewN ((Below.refl _ _).alloc (Nat.le_refl _) _) _⟩
      · go_wp2_with (first | (go_at_call 14; refine (wakes14 _).mono ?_; rintro e w' ⟨rfl, n, rfl⟩) | (go_at_call 16; refine (zero_any _).mono ?_; rintro e w' ⟨rfl, rfl⟩) | (go_at_call 22; refine (order22 _ _ _ (by first | assumption | exact ⟨(nanOf_nan _).2, by assumption⟩)).mono ?_; rintro e w' ⟨rfl, n4, rfl⟩))
        go_ret
        exact ⟨rfl, below_drewN ((Below.refl _ _).alloc (Nat.le_refl _) _) _⟩
end Go.Proofs.Ytokdgppaedklhaa
