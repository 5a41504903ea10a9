/- MatchFirst, walked. Conditions: the bounds that each theorem names. -/
import Derived.Test.YtfniekdohidbiaaYe
namespace Go.Proofs.Ytfniekdohidbiaa
open Go.RowKit Go.Bm Fl Go.FlW
set_option maxHeartbeats 4000000 in
set_option maxRecDepth 100000 in
theorem first_walk (a : Option Addr) (n cap : Nat) (F : Nat → Bmp) (t : Nat) (w : World) (hL : IsBms w a n cap F) (_ht : t < 2 ^ 64) :
    Calls Try.prog 6 #[.agg #[.slice a n cap, .int .u64 ((t : Nat) : Int)]] w fun e w' => e = .returned (.bool true) ∧ Below w.heap.size w w' := by
  have HL := Lib.hid hL
  clear hL _ht
  go_enter Try.func6, Try.ntmps6
  go_upto_region 1 with fail
  have hk1 : (w.alloc (.cells #[.slice a n cap, .int .u64 ((t : Nat) : Int)] 25)).heap[w.heap.size]? = some (.cells #[.slice a n cap, .int .u64 ((t : Nat) : Int)] 25 (0, 0)) := heap_alloc_new w _
  have hb1 : Below w.heap.size w (w.alloc (.cells #[.slice a n cap, .int .u64 ((t : Nat) : Int)] 25)) := (Below.refl _ _).alloc (Nat.le_refl _) _
  have HL1 := Lib.hid (HL.out.below hb1)
  obtain ⟨b1, hb1e⟩ : ∃ b1, w.heap.size = b1 := ⟨_, rfl⟩
  rw [hb1e] at hk1 hb1 ⊢
  have HW := Lib.hid hb1e
  have K1 := Lib.hid hk1
  have HB1 := Lib.hid hb1
  clear hk1 hb1 hb1e
  generalize w.alloc (.cells #[.slice a n cap, .int .u64 ((t : Nat) : Int)] 25) = w1 at *
  have e0 : w1.cell? ⟨b1, 0, none⟩ = some (.slice a n cap) := by rw [Joins.cell_of_block K1.out]; rfl
  have e1 : w1.cell? ⟨b1, 1, none⟩ = some (.int .u64 ((t : Nat) : Int)) := by rw [Joins.cell_of_block K1.out]; rfl
  have hf12 : ∀ w, (callFunc 12 #[.int .u64 ((t : Nat) : Int)]).run Try.prog w = .ok (.value (.float .f64 t)) w := fun w => by have := call35 (t : Int) w; simpa using this
  by_cases hmay : MayB F n
  · have HM := Lib.hid hmay
    clear hmay
    cases htol : tolOk t with
    | false =>
      go_upto_region 3 with (go_at_call 23; refine (may23_is true a n cap F w1 HL1.out (by simpa using HM.out)).mono ?_; rintro e w2 ⟨rfl, hb2⟩)
      have e0 := keep_cell hb2 e0
      have e1 := keep_cell hb2 e1
      have HB2 := Lib.hid (below_then HB1.out hb2 (Nat.le_of_eq HW.out.symm))
      clear hb2
      go_upto_region 5 with (go_at_call 15; refine (classes15_tol a n cap t w2 htol).mono ?_; rintro e w3 ⟨rfl, hb3⟩)
      have hb4 : Below w3.heap.size w3 (w3.alloc (.cells #[.slice none 0 0, .slice none 0 0] 33)) := (Below.refl _ _).alloc (Nat.le_refl _) _
      have hk4 : (w3.alloc (.cells #[.slice none 0 0, .slice none 0 0] 33)).heap[w3.heap.size]? = some (.cells #[.slice none 0 0, .slice none 0 0] 33 (0, 0)) := heap_alloc_new w3 _
      have HB4 := Lib.hid (below_then HB2.out (below_then hb3 hb4 (Nat.le_refl _)) (Nat.le_of_eq HW.out.symm))
      obtain ⟨b4, hb4e⟩ : ∃ b4, w3.heap.size = b4 := ⟨_, rfl⟩
      rw [hb4e] at hk4 ⊢
      have K4 := Lib.hid hk4
      have HT := Lib.hid htol
      clear hk4 hb4 hb3 hb4e htol
      generalize w3.alloc (.cells #[.slice none 0 0, .slice none 0 0] 33) = w4 at *
      have d0 : w4.cell? ⟨b4, 0, none⟩ = some (.slice none 0 0) := by rw [Joins.cell_of_block K4.out]; rfl
      have d1 : w4.cell? ⟨b4, 1, none⟩ = some (.slice none 0 0) := by rw [Joins.cell_of_block K4.out]; rfl
      go_wp2_with (first
        | (go_at_call 25; refine (fits25 t _).mono ?_; rw [HT.out]; rintro e w5 ⟨rfl, rfl⟩)
        | (go_at_call 11; refine (wakes11 _).mono ?_; rintro e w6 ⟨rfl, hb6⟩))
      go_ret
      exact ⟨rfl, by rw [HW.out]; exact below_then HB4.out hb6 (Nat.le_of_eq HW.out.symm)⟩
    | true =>
      go_upto_region 3 with (go_at_call 23; refine (may23_is true a n cap F w1 HL1.out (by simpa using HM.out)).mono ?_; rintro e w2 ⟨rfl, hb2⟩)
      have e0 := keep_cell hb2 e0
      have e1 := keep_cell hb2 e1
      have HL2 := Lib.hid (HL1.out.below hb2)
      have HB2 := Lib.hid (below_then HB1.out hb2 (Nat.le_of_eq HW.out.symm))
      have HT := Lib.hid htol
      clear hb2 htol
      go_upto_region 5 with (go_at_call 15; refine (classes15_may HM.out HT.out n (Nat.le_refl _) a cap w2 HL2.out).mono ?_; rintro e w3 ⟨pc, cc, pr, cr, R, rfl, hi3, hr3, hl3, hb3⟩)
      have HMR := Lib.hid (may_reps HM.out hl3)
      have HAG := Lib.hid (clsOf_reps_again hl3)
      obtain ⟨m, hm⟩ : ∃ m, (clsOf F t n).2.length = m := ⟨_, rfl⟩
      have hm40 : m ≤ 40 := by have := (clsOf_reps F t n).1; have := HM.out.2.1; omega
      rw [hm] at hr3 hl3 HMR HAG ⊢
      have hb4 : Below w3.heap.size w3 (w3.alloc (.cells #[.slice pc n cc, .slice pr m cr] 33)) := (Below.refl _ _).alloc (Nat.le_refl _) _
      have hk4 : (w3.alloc (.cells #[.slice pc n cc, .slice pr m cr] 33)).heap[w3.heap.size]? = some (.cells #[.slice pc n cc, .slice pr m cr] 33 (0, 0)) := heap_alloc_new w3 _
      have hb34 := below_then hb3 hb4 (Nat.le_refl _)
      have HL4 := Lib.hid (HL2.out.below hb34)
      have HI4 := Lib.hid (hi3.below hb4)
      have HR4 := Lib.hid (hr3.below hb4)
      have HLK := Lib.hid hl3
      have HB4 := Lib.hid (below_then HB2.out hb34 (Nat.le_of_eq HW.out.symm))
      have e0 := keep_cell hb34 e0
      obtain ⟨b4, hb4e⟩ : ∃ b4, w3.heap.size = b4 := ⟨_, rfl⟩
      rw [hb4e] at hk4 ⊢
      have K4 := Lib.hid hk4
      have HMM := Lib.hid hm
      clear hk4 hb4 hb34 hb3 hi3 hr3 hl3 hb4e hm HL1 HL2 HB2 HL
      generalize w3.alloc (.cells #[.slice pc n cc, .slice pr m cr] 33) = w4 at *
      have d0 : w4.cell? ⟨b4, 0, none⟩ = some (.slice pc n cc) := by rw [Joins.cell_of_block K4.out]; rfl
      have d1 : w4.cell? ⟨b4, 1, none⟩ = some (.slice pr m cr) := by rw [Joins.cell_of_block K4.out]; rfl
      have hn40 := HM.out.2.1
      go_upto_region 10 with (first
        | (go_at_call 25; refine (fits25 t _).mono ?_; rw [HT.out]; rintro e w5 ⟨rfl, rfl⟩)
        | (go_at_call 23; refine (may23_is true pr m cr R w4 HR4.out (by simpa using HMR.out)).mono ?_; rintro e w5 ⟨rfl, hb5⟩))
      have HL5 := Lib.hid (HL4.out.below hb5)
      have HI5 := Lib.hid (HI4.out.below hb5)
      have HR5 := Lib.hid (HR4.out.below hb5)
      have HB5 := Lib.hid (below_then HB4.out hb5 (Nat.le_of_eq HW.out.symm))
      have e05 := Lib.hid (keep_cell hb5 e0)
      have d05 := Lib.hid (keep_cell hb5 d0)
      have d15 := Lib.hid (keep_cell hb5 d1)
      clear hb5 e0 e1 d0 d1 HL4 HI4 HR4 HB4 hf12 K4 HB1 K1
      go_wp2_with fail
      go_loopw [6, 7] (fun u v wr => ∃ i : Nat, v = .int .i64 i ∧ i ≤ n ∧ u = .int .i64 (((clsOf F t i).2.length : Nat) : Int) ∧ Hid (Below w5.heap.size w5 wr)) (fun _ v _ => n - (intOf v).toNat)
      case atStart => exact ⟨0, rfl, Nat.zero_le _, rfl, Below.refl _ _⟩
      case round =>
        obtain ⟨i, rfl, hin, rfl, hbi⟩ := hrel
        by_cases hi : i < n
        · obtain ⟨c, hc⟩ : ∃ c, (clsOf F t n).1[i]! = c := ⟨_, rfl⟩
          obtain ⟨f1, f2, f3, f4, f5, f6⟩ := cls_facts hi (near_self (HM.out.1 i hi) HT.out) c hc
          rw [HMM.out] at f2
          have HN : Hid (∀ k, k ≤ c → nearB (R k) (F i) t = decide (k = c)) := fun k hk => by
            rw [nearB_like2 (HLK.out k (by omega)) (show (F i).like (F i) from ⟨rfl, rfl, rfl, rfl⟩)]
            by_cases e : k = c
            · rw [e, f3, decide_eq_true rfl]
            · rw [f4 k (by omega), decide_eq_false e]
          rcases HL5.out with h0 | ⟨ab, ao, rfl, al1, al2, al3, hca⟩
          · omega
          rcases HR5.out with h0 | ⟨rb, ro, rfl, rl1, rl2, rl3, hcr⟩
          · omega
          rcases HI5.out with h0 | ⟨gb, gof, rfl, gl1, gl2, gl3, hcg⟩
          · omega
          have g1 : w5.cell? ⟨gb, gof + i, none⟩ = some (.int .i64 ((c : Nat) : Int)) := by have := hcg i hi; simpa only [hc] using this
          have g1 := keep_cell hbi.out g1
          have HAC := Lib.hid hca
          have HRC := Lib.hid hcr
          have e0 := keep_cell hbi.out e05.out
          have d0 := keep_cell hbi.out d05.out
          have d1 := keep_cell hbi.out d15.out
          have HF5 := Lib.hid f5
          have HF6 := Lib.hid f6
          obtain ⟨q, hq⟩ : ∃ q, (clsOf F t i).2.length = q := ⟨_, rfl⟩
          have hq40 : q ≤ 40 := by have := (clsOf_reps F t i).1; omega
          rw [hq] at f1
          clear hca hcr hcg f3 f4 f5 f6
          have hc0 : decide ((c : Int) < 0) = false := decide_eq_false (by omega)
          have hc1 : decide (q < c) = false := decide_eq_false (by omega)
          have hc2 : decide (m ≤ c) = false := decide_eq_false (by omega)
          have hn0 : ¬ (c : Int) < 0 := by omega
          have hn1 : ¬ q < c := by omega
          have hn2 : ¬ m ≤ c := by omega
          have hci : (c : Int) < (m : Int) := by omega
          have hii : (i : Int) < (n : Int) := by omega
          by_cases hcq : c = q
          · have hcb : ((c : Int) == (q : Int)) = true := by simp; omega
            have h5 := HF5.out (by rw [hq]; exact hcq)
            have HSM : Hid ((R c).same (F i)) := by
              have h1 := HLK.out c (by omega)
              rw [h5.1] at h1
              exact h1.same
            have NEXT : Hid ((clsOf F t (i + 1)).2.length = q + 1) := by show _ = _; rw [h5.2, hq]
            obtain ⟨r0, r1, r2, r3⟩ := HRC.out c (by omega)
            obtain ⟨p0, p1, p2, p3⟩ := HAC.out i hi
            have r0 := keep_cell hbi.out r0
            have r1 := keep_cell hbi.out r1
            have r2 := keep_cell hbi.out r2
            have p0 := keep_cell hbi.out p0
            have p1 := keep_cell hbi.out p1
            have p2 := keep_cell hbi.out p2
            have R3 := Lib.hid (r3.below hbi.out)
            have P3 := Lib.hid (p3.below hbi.out)
            have HCQ := Lib.hid hcq
            clear r3 p3 h5 hcq
            rw [hq]
            go_upto_region 14 with fail
            go_region_held3 (fun w' => w'.cell? ⟨b4, 1, none⟩ = some (.slice (some ⟨rb, ro, none⟩) m cr) ∧ w'.cell? ⟨rb, ro + c * 3, none⟩ = some (.int .i64 (R c).W) ∧ w'.cell? ⟨rb, ro + c * 3 + 1, none⟩ = some (.int .i64 (R c).H) ∧ w'.cell? ⟨rb, ro + c * 3 + 2, none⟩ = some (.slice (R c).a (R c).n (R c).cap) ∧ w'.cell? ⟨b1, 0, none⟩ = some (.slice (some ⟨ab, ao, none⟩) n cap) ∧ w'.cell? ⟨ab, ao + i * 3, none⟩ = some (.int .i64 (F i).W) ∧ w'.cell? ⟨ab, ao + i * 3 + 1, none⟩ = some (.int .i64 (F i).H) ∧ w'.cell? ⟨ab, ao + i * 3 + 2, none⟩ = some (.slice (F i).a (F i).n (F i).cap)) (go_keep)
              ((go_at_call 24; refine (Bmp.eq (R c) (F i) true _ ?c1 ?c2 (by simpa using HSM.out) ?c3).mono ?_; (case c1 => (first | exact R3.out | exact IsWords.below R3.out (Below.drew (Below.refl _ _)) | exact IsWords.below R3.out (below_drewN (Below.refl _ _) _))); (case c2 => (first | exact P3.out | exact IsWords.below P3.out (Below.drew (Below.refl _ _)) | exact IsWords.below P3.out (below_drewN (Below.refl _ _) _))); (case c3 => exact R3.out.len); rintro e w7 ⟨rfl, hb7⟩; have y0 := keep_cell hb7 (p := ⟨b4, 1, none⟩) (v := .slice (some ⟨rb, ro, none⟩) m cr) (by assumption); have y1 := keep_cell hb7 (p := ⟨rb, ro + c * 3, none⟩) (v := .int .i64 (R c).W) (by assumption); have y2 := keep_cell hb7 (p := ⟨rb, ro + c * 3 + 1, none⟩) (v := .int .i64 (R c).H) (by assumption); have y3 := keep_cell hb7 (p := ⟨rb, ro + c * 3 + 2, none⟩) (v := .slice (R c).a (R c).n (R c).cap) (by assumption); have y4 := keep_cell hb7 (p := ⟨b1, 0, none⟩) (v := .slice (some ⟨ab, ao, none⟩) n cap) (by assumption); have y5 := keep_cell hb7 (p := ⟨ab, ao + i * 3, none⟩) (v := .int .i64 (F i).W) (by assumption); have y6 := keep_cell hb7 (p := ⟨ab, ao + i * 3 + 1, none⟩) (v := .int .i64 (F i).H) (by assumption); have y7 := keep_cell hb7 (p := ⟨ab, ao + i * 3 + 2, none⟩) (v := .slice (F i).a (F i).n (F i).cap) (by assumption)))
            have HB14 := Lib.hid (below_then hbi.out (below_then (Below.drew (Below.refl _ _)) hb7 (Nat.le_refl _)) (Nat.le_refl _))
            clear hb7 r0 r1 r2 p0 p1 p2
            go_wp2_with fail
            go_loopw [9] (fun v wy => ∃ k : Nat, v = .int .i64 k ∧ k ≤ c + 1 ∧ Hid (Below w5.heap.size w5 wy)) (fun v _ => c + 1 - (intOf v).toNat)
            case atStart => exact ⟨0, rfl, Nat.zero_le _, HB14⟩
            case round =>
              obtain ⟨k, rfl, hkc1, hbk⟩ := hrel
              by_cases hk : k ≤ c
              · obtain ⟨r0, r1, r2, r3⟩ := HRC.out k (by omega)
                obtain ⟨p0, p1, p2, p3⟩ := HAC.out i hi
                have r0 := keep_cell hbk.out r0
                have r1 := keep_cell hbk.out r1
                have r2 := keep_cell hbk.out r2
                have p0 := keep_cell hbk.out p0
                have p1 := keep_cell hbk.out p1
                have p2 := keep_cell hbk.out p2
                have e0 := keep_cell hbk.out e05.out
                have d1 := keep_cell hbk.out d15.out
                have R3 := Lib.hid (r3.below hbk.out)
                have P3 := Lib.hid (p3.below hbk.out)
                have hrok := Lib.hid (HMR.out.1 k (by omega))
                have hrn := Lib.hid (Nat.le_trans (HMR.out.small k (by omega)) (show 6000 ≤ 10000 by omega))
                have hiok := Lib.hid (HM.out.1 i hi)
                clear r3 p3
                have hkm : (k : Int) < (m : Int) := by omega
                have hk0 : (0 : Int) ≤ (k : Int) := by omega
                go_upto_region 21 with fail
                go_region_held3 (fun w' => w'.cell? ⟨b4, 1, none⟩ = some (.slice (some ⟨rb, ro, none⟩) m cr) ∧ w'.cell? ⟨rb, ro + k * 3, none⟩ = some (.int .i64 (R k).W) ∧ w'.cell? ⟨rb, ro + k * 3 + 1, none⟩ = some (.int .i64 (R k).H) ∧ w'.cell? ⟨rb, ro + k * 3 + 2, none⟩ = some (.slice (R k).a (R k).n (R k).cap) ∧ w'.cell? ⟨b1, 0, none⟩ = some (.slice (some ⟨ab, ao, none⟩) n cap) ∧ w'.cell? ⟨ab, ao + i * 3, none⟩ = some (.int .i64 (F i).W) ∧ w'.cell? ⟨ab, ao + i * 3 + 1, none⟩ = some (.int .i64 (F i).H) ∧ w'.cell? ⟨ab, ao + i * 3 + 2, none⟩ = some (.slice (F i).a (F i).n (F i).cap)) (go_keep)
                  ((go_at_call 26; refine (Bmp.unlikeAny (R k) (F i) t _ ?c1 ?c2 hrok.out hiok.out hrn.out).mono ?_; (case c1 => (first | exact R3.out | exact IsWords.below R3.out (Below.drew (Below.refl _ _)) | exact IsWords.below R3.out (below_drewN (Below.refl _ _) _))); (case c2 => (first | exact P3.out | exact IsWords.below P3.out (Below.drew (Below.refl _ _)) | exact IsWords.below P3.out (below_drewN (Below.refl _ _) _))); rintro e w7 ⟨s, rfl, HS, hb7⟩; have y0 := keep_cell hb7 (p := ⟨b4, 1, none⟩) (v := .slice (some ⟨rb, ro, none⟩) m cr) (by assumption); have y1 := keep_cell hb7 (p := ⟨rb, ro + k * 3, none⟩) (v := .int .i64 (R k).W) (by assumption); have y2 := keep_cell hb7 (p := ⟨rb, ro + k * 3 + 1, none⟩) (v := .int .i64 (R k).H) (by assumption); have y3 := keep_cell hb7 (p := ⟨rb, ro + k * 3 + 2, none⟩) (v := .slice (R k).a (R k).n (R k).cap) (by assumption); have y4 := keep_cell hb7 (p := ⟨b1, 0, none⟩) (v := .slice (some ⟨ab, ao, none⟩) n cap) (by assumption); have y5 := keep_cell hb7 (p := ⟨ab, ao + i * 3, none⟩) (v := .int .i64 (F i).W) (by assumption); have y6 := keep_cell hb7 (p := ⟨ab, ao + i * 3 + 1, none⟩) (v := .int .i64 (F i).H) (by assumption); have y7 := keep_cell hb7 (p := ⟨ab, ao + i * 3 + 2, none⟩) (v := .slice (F i).a (F i).n (F i).cap) (by assumption)))
                have HB7 := Lib.hid (below_then hbk.out (below_then (Below.drew (Below.refl _ _)) hb7 (Nat.le_refl _)) (Nat.le_refl _))
                have hN : (leB s t && sizeB (R k) (F i)) = decide (k = c) := HS.out.trans (HN.out k hk)
                have hle := leB_order s t
                clear hb7 r0 r1 r2 p0 p1 p2 HS
                go_upto_region 22 with fail
                cases hlb : leB s t with
                | false =>
                  rw [hlb] at hle hN
                  have hkn : ¬ k = c := of_decide_eq_false (by rw [← hN]; rfl)
                  clear hlb hN
                  have hkc : ((k : Int) == (c : Int)) = false := by simp; omega
                  clear hkn
                  go_quiet (fail)
                  go_wp2_with fail
                  go_roundw
                  case rel => exact ⟨k + 1, by go_num, by omega, below_drewN HB7.out _⟩
                  case measure => simp [intOf]; omega
                | true =>
                  rw [hlb] at hle hN
                  clear hlb
                  by_cases hW : (R k).W = (F i).W
                  · have hWb : ((R k).W == (F i).W) = true := by simpa using hW
                    by_cases hH : (R k).H = (F i).H
                    · have hHb : ((R k).H == (F i).H) = true := by simpa using hH
                      have hsz : sizeB (R k) (F i) = true := decide_eq_true ⟨hW, hH⟩
                      rw [hsz] at hN
                      have hkn : k = c := of_decide_eq_true (by rw [← hN]; rfl)
                      clear hsz hN hW hH
                      have hkc : ((k : Int) == (c : Int)) = true := by simp; omega
                      clear hkn
                      go_quiet (fail)
                      go_wp2_with fail
                      go_roundw
                      case rel => exact ⟨k + 1, by go_num, by omega, below_drewN HB7.out _⟩
                      case measure => simp [intOf]; omega
                    · have hHb : ((R k).H == (F i).H) = false := by simpa using hH
                      have hsz : sizeB (R k) (F i) = false := decide_eq_false fun h => hH h.2
                      rw [hsz] at hN
                      have hkn : ¬ k = c := of_decide_eq_false (by rw [← hN]; rfl)
                      clear hsz hN hW hH
                      have hkc : ((k : Int) == (c : Int)) = false := by simp; omega
                      clear hkn
                      go_quiet (fail)
                      go_wp2_with fail
                      go_roundw
                      case rel => exact ⟨k + 1, by go_num, by omega, below_drewN HB7.out _⟩
                      case measure => simp [intOf]; omega
                  · have hWb : ((R k).W == (F i).W) = false := by simpa using hW
                    have hsz : sizeB (R k) (F i) = false := decide_eq_false fun h => hW h.1
                    rw [hsz] at hN
                    have hkn : ¬ k = c := of_decide_eq_false (by rw [← hN]; rfl)
                    clear hsz hN hW
                    have hkc : ((k : Int) == (c : Int)) = false := by simp; omega
                    clear hkn
                    go_quiet (fail)
                    go_wp2_with fail
                    go_roundw
                    case rel => exact ⟨k + 1, by go_num, by omega, below_drewN HB7.out _⟩
                    case measure => simp [intOf]; omega
              · obtain rfl : k = c + 1 := by omega
                go_wp2_with fail
                go_roundw
                case rel => exact ⟨i + 1, by go_num, by omega, by rw [NEXT.out] <;> go_num, hbk⟩
                case measure => simp [intOf]; omega
          · have hcb : ((c : Int) == (q : Int)) = false := by simp; omega
            have h6 := HF6.out (by rw [hq]; exact hcq)
            have NEXT : Hid ((clsOf F t (i + 1)).2.length = q) := by show _ = _; rw [h6, hq]
            clear h6
            rw [hq]
            go_upto_region 14 with fail
            go_quiet (fail)
            have HB14 := Lib.hid (below_drewN hbi.out nq)
            go_wp2_with fail
            go_loopw [9] (fun v wy => ∃ k : Nat, v = .int .i64 k ∧ k ≤ c + 1 ∧ Hid (Below w5.heap.size w5 wy)) (fun v _ => c + 1 - (intOf v).toNat)
            case atStart => exact ⟨0, rfl, Nat.zero_le _, HB14⟩
            case round =>
              obtain ⟨k, rfl, hkc1, hbk⟩ := hrel
              by_cases hk : k ≤ c
              · obtain ⟨r0, r1, r2, r3⟩ := HRC.out k (by omega)
                obtain ⟨p0, p1, p2, p3⟩ := HAC.out i hi
                have r0 := keep_cell hbk.out r0
                have r1 := keep_cell hbk.out r1
                have r2 := keep_cell hbk.out r2
                have p0 := keep_cell hbk.out p0
                have p1 := keep_cell hbk.out p1
                have p2 := keep_cell hbk.out p2
                have e0 := keep_cell hbk.out e05.out
                have d1 := keep_cell hbk.out d15.out
                have R3 := Lib.hid (r3.below hbk.out)
                have P3 := Lib.hid (p3.below hbk.out)
                have hrok := Lib.hid (HMR.out.1 k (by omega))
                have hrn := Lib.hid (Nat.le_trans (HMR.out.small k (by omega)) (show 6000 ≤ 10000 by omega))
                have hiok := Lib.hid (HM.out.1 i hi)
                clear r3 p3
                have hkm : (k : Int) < (m : Int) := by omega
                have hk0 : (0 : Int) ≤ (k : Int) := by omega
                go_upto_region 21 with fail
                go_region_held3 (fun w' => w'.cell? ⟨b4, 1, none⟩ = some (.slice (some ⟨rb, ro, none⟩) m cr) ∧ w'.cell? ⟨rb, ro + k * 3, none⟩ = some (.int .i64 (R k).W) ∧ w'.cell? ⟨rb, ro + k * 3 + 1, none⟩ = some (.int .i64 (R k).H) ∧ w'.cell? ⟨rb, ro + k * 3 + 2, none⟩ = some (.slice (R k).a (R k).n (R k).cap) ∧ w'.cell? ⟨b1, 0, none⟩ = some (.slice (some ⟨ab, ao, none⟩) n cap) ∧ w'.cell? ⟨ab, ao + i * 3, none⟩ = some (.int .i64 (F i).W) ∧ w'.cell? ⟨ab, ao + i * 3 + 1, none⟩ = some (.int .i64 (F i).H) ∧ w'.cell? ⟨ab, ao + i * 3 + 2, none⟩ = some (.slice (F i).a (F i).n (F i).cap)) (go_keep)
                  ((go_at_call 26; refine (Bmp.unlikeAny (R k) (F i) t _ ?c1 ?c2 hrok.out hiok.out hrn.out).mono ?_; (case c1 => (first | exact R3.out | exact IsWords.below R3.out (Below.drew (Below.refl _ _)) | exact IsWords.below R3.out (below_drewN (Below.refl _ _) _))); (case c2 => (first | exact P3.out | exact IsWords.below P3.out (Below.drew (Below.refl _ _)) | exact IsWords.below P3.out (below_drewN (Below.refl _ _) _))); rintro e w7 ⟨s, rfl, HS, hb7⟩; have y0 := keep_cell hb7 (p := ⟨b4, 1, none⟩) (v := .slice (some ⟨rb, ro, none⟩) m cr) (by assumption); have y1 := keep_cell hb7 (p := ⟨rb, ro + k * 3, none⟩) (v := .int .i64 (R k).W) (by assumption); have y2 := keep_cell hb7 (p := ⟨rb, ro + k * 3 + 1, none⟩) (v := .int .i64 (R k).H) (by assumption); have y3 := keep_cell hb7 (p := ⟨rb, ro + k * 3 + 2, none⟩) (v := .slice (R k).a (R k).n (R k).cap) (by assumption); have y4 := keep_cell hb7 (p := ⟨b1, 0, none⟩) (v := .slice (some ⟨ab, ao, none⟩) n cap) (by assumption); have y5 := keep_cell hb7 (p := ⟨ab, ao + i * 3, none⟩) (v := .int .i64 (F i).W) (by assumption); have y6 := keep_cell hb7 (p := ⟨ab, ao + i * 3 + 1, none⟩) (v := .int .i64 (F i).H) (by assumption); have y7 := keep_cell hb7 (p := ⟨ab, ao + i * 3 + 2, none⟩) (v := .slice (F i).a (F i).n (F i).cap) (by assumption)))
                have HB7 := Lib.hid (below_then hbk.out (below_then (Below.drew (Below.refl _ _)) hb7 (Nat.le_refl _)) (Nat.le_refl _))
                have hN : (leB s t && sizeB (R k) (F i)) = decide (k = c) := HS.out.trans (HN.out k hk)
                have hle := leB_order s t
                clear hb7 r0 r1 r2 p0 p1 p2 HS
                go_upto_region 22 with fail
                cases hlb : leB s t with
                | false =>
                  rw [hlb] at hle hN
                  have hkn : ¬ k = c := of_decide_eq_false (by rw [← hN]; rfl)
                  clear hlb hN
                  have hkc : ((k : Int) == (c : Int)) = false := by simp; omega
                  clear hkn
                  go_quiet (fail)
                  go_wp2_with fail
                  go_roundw
                  case rel => exact ⟨k + 1, by go_num, by omega, below_drewN HB7.out _⟩
                  case measure => simp [intOf]; omega
                | true =>
                  rw [hlb] at hle hN
                  clear hlb
                  by_cases hW : (R k).W = (F i).W
                  · have hWb : ((R k).W == (F i).W) = true := by simpa using hW
                    by_cases hH : (R k).H = (F i).H
                    · have hHb : ((R k).H == (F i).H) = true := by simpa using hH
                      have hsz : sizeB (R k) (F i) = true := decide_eq_true ⟨hW, hH⟩
                      rw [hsz] at hN
                      have hkn : k = c := of_decide_eq_true (by rw [← hN]; rfl)
                      clear hsz hN hW hH
                      have hkc : ((k : Int) == (c : Int)) = true := by simp; omega
                      clear hkn
                      go_quiet (fail)
                      go_wp2_with fail
                      go_roundw
                      case rel => exact ⟨k + 1, by go_num, by omega, below_drewN HB7.out _⟩
                      case measure => simp [intOf]; omega
                    · have hHb : ((R k).H == (F i).H) = false := by simpa using hH
                      have hsz : sizeB (R k) (F i) = false := decide_eq_false fun h => hH h.2
                      rw [hsz] at hN
                      have hkn : ¬ k = c := of_decide_eq_false (by rw [← hN]; rfl)
                      clear hsz hN hW hH
                      have hkc : ((k : Int) == (c : Int)) = false := by simp; omega
                      clear hkn
                      go_quiet (fail)
                      go_wp2_with fail
                      go_roundw
                      case rel => exact ⟨k + 1, by go_num, by omega, below_drewN HB7.out _⟩
                      case measure => simp [intOf]; omega
                  · have hWb : ((R k).W == (F i).W) = false := by simpa using hW
                    have hsz : sizeB (R k) (F i) = false := decide_eq_false fun h => hW h.1
                    rw [hsz] at hN
                    have hkn : ¬ k = c := of_decide_eq_false (by rw [← hN]; rfl)
                    clear hsz hN hW
                    have hkc : ((k : Int) == (c : Int)) = false := by simp; omega
                    clear hkn
                    go_quiet (fail)
                    go_wp2_with fail
                    go_roundw
                    case rel => exact ⟨k + 1, by go_num, by omega, below_drewN HB7.out _⟩
                    case measure => simp [intOf]; omega
              · obtain rfl : k = c + 1 := by omega
                go_wp2_with fail
                go_roundw
                case rel => exact ⟨i + 1, by go_num, by omega, by rw [NEXT.out] <;> go_num, hbk⟩
                case measure => simp [intOf]; omega
        · obtain rfl : i = n := by omega
          rw [HMM.out]
          have e0 := keep_cell hbi.out e05.out
          have d1 := keep_cell hbi.out d15.out
          have HRr := Lib.hid (HR5.out.below hbi.out)
          go_upto_region 26 with (go_at_call 15; refine (classes15_may HMR.out HT.out m (Nat.le_refl _) pr cr wr HRr.out).mono ?_; rw [HAG.out]; rintro e w6 ⟨pc6, cc6, pr6, cr6, R6, rfl, hi6, hr6, hl6, hb6⟩)
          have hb7 : Below w6.heap.size w6 (w6.alloc (.cells #[.slice pc6 m cc6, .slice pr6 m cr6] 33)) := (Below.refl _ _).alloc (Nat.le_refl _) _
          have hk7 : (w6.alloc (.cells #[.slice pc6 m cc6, .slice pr6 m cr6] 33)).heap[w6.heap.size]? = some (.cells #[.slice pc6 m cc6, .slice pr6 m cr6] 33 (0, 0)) := heap_alloc_new w6 _
          have hb67 := below_then hb6 hb7 (Nat.le_refl _)
          have d1 := keep_cell hb67 d1
          have HB7 := Lib.hid (below_then hbi.out hb67 (Nat.le_refl _))
          obtain ⟨b7, hb7e⟩ : ∃ b7, w6.heap.size = b7 := ⟨_, rfl⟩
          rw [hb7e] at hk7 ⊢
          have K7 := Lib.hid hk7
          clear hk7 hb7 hb67 hb6 hi6 hr6 hl6 hb7e
          generalize w6.alloc (.cells #[.slice pc6 m cc6, .slice pr6 m cr6] 33) = w7 at *
          have f1 : w7.cell? ⟨b7, 1, none⟩ = some (.slice pr6 m cr6) := by rw [Joins.cell_of_block K7.out]; rfl
          go_wp2_with (go_at_call 11; refine (wakes11 _).mono ?_; rintro e w8 ⟨rfl, hb8⟩)
          go_ret
          exact ⟨rfl, by rw [HW.out]; exact below_then HB5.out (below_then HB7.out hb8 (Nat.le_refl _)) (Nat.le_of_eq HW.out.symm)⟩
  · have HM := Lib.hid hmay
    clear hmay
    go_wp2_with (first
      | (go_at_call 23; refine (may23_is false a n cap F w1 HL1.out (by simpa using HM.out)).mono ?_; rintro e w2 ⟨rfl, hb2⟩)
      | (go_at_call 11; refine (wakes11 _).mono ?_; rintro e w3 ⟨rfl, hb3⟩))
    go_ret
    exact ⟨rfl, by rw [HW.out]; exact below_then (below_then HB1.out hb2 (Nat.le_of_eq HW.out.symm)) hb3 (Nat.le_of_eq HW.out.symm)⟩
end Go.Proofs.Ytfniekdohidbiaa
