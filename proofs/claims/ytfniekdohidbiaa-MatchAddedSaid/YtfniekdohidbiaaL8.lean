/- MatchAdded, walked. Conditions: the bounds that each theorem names. -/
import Derived.Test.YtfniekdohidbiaaYb
namespace Go.Proofs.Ytfniekdohidbiaa
open Go.RowKit Go.Bm Fl Go.FlW
set_option maxHeartbeats 4000000 in
set_option maxRecDepth 100000 in
theorem added_walk (a : Option Addr) (n cap : Nat) (F : Nat → Bmp) (t : Nat) (w : World) (hL : IsBms w a n cap F) (_ht : t < 2 ^ 64) :
    Calls Try.prog 8 #[.agg #[.slice a n cap, .int .u64 ((t : Nat) : Int)]] w fun e w' => e = .returned (.bool true) ∧ Below w.heap.size w w' := by
  have HL := Lib.hid hL
  have hgeq := geq0 t
  clear hL _ht
  go_enter Try.func8, Try.ntmps8
  go_upto_region 1 with fail
  have hk1 : (w.alloc (.cells #[.slice a n cap, .int .u64 ((t : Nat) : Int)] 25)).heap[w.heap.size]? = some (.cells #[.slice a n cap, .int .u64 ((t : Nat) : Int)] 25 (0, 0)) := heap_alloc_new w _
  have hb1 : Below w.heap.size w (w.alloc (.cells #[.slice a n cap, .int .u64 ((t : Nat) : Int)] 25)) := (Below.refl _ _).alloc (Nat.le_refl _) _
  have HL1 := Lib.hid (HL.out.below hb1)
  obtain ⟨b1, hb1e⟩ : ∃ b1, w.heap.size = b1 := ⟨_, rfl⟩
  rw [hb1e] at hk1 hb1 ⊢
  have HW := Lib.hid hb1e
  have K1 := Lib.hid hk1
  have HB1 := Lib.hid hb1
  clear hk1 hb1 hb1e
  generalize w.alloc (.cells #[.slice a n cap, .int .u64 ((t : Nat) : Int)] 25) = w1 at *
  have e0 : w1.cell? ⟨b1, 0, none⟩ = some (.slice a n cap) := by rw [Joins.cell_of_block K1.out]; rfl
  have e1 : w1.cell? ⟨b1, 1, none⟩ = some (.int .u64 ((t : Nat) : Int)) := by rw [Joins.cell_of_block K1.out]; rfl
  have hf12 : ∀ w, (callFunc 12 #[.int .u64 ((t : Nat) : Int)]).run Try.prog w = .ok (.value (.float .f64 t)) w := fun w => by have := call35 (t : Int) w; simpa using this
  by_cases hmay : MayB F n
  · have HM := Lib.hid hmay
    clear hmay
    cases htol : tolOk t with
    | false =>
      rw [htol] at hgeq
      go_wp2_with (first
        | (go_at_call 23; refine (may23_is true a n cap F w1 HL1.out (by simpa using HM.out)).mono ?_; rintro e w2 ⟨rfl, hb2⟩)
        | (go_at_call 11; refine (wakes11 _).mono ?_; rintro e w3 ⟨rfl, hb3⟩))
      go_ret
      exact ⟨rfl, by rw [HW.out]; exact below_then (below_then HB1.out hb2 (Nat.le_of_eq HW.out.symm)) hb3 (Nat.le_of_eq HW.out.symm)⟩
    | true =>
      rw [htol] at hgeq
      go_upto_region 4 with (go_at_call 23; refine (may23_is true a n cap F w1 HL1.out (by simpa using HM.out)).mono ?_; rintro e w2 ⟨rfl, hb2⟩)
      have e0 := keep_cell hb2 e0
      have HL2 := Lib.hid (HL1.out.below hb2)
      have HB2 := Lib.hid (below_then HB1.out hb2 (Nat.le_of_eq HW.out.symm))
      have HT := Lib.hid htol
      clear hb2 e1 htol hgeq hf12
      go_upto_region 5 with (go_at_call 15; refine (classes15_may HM.out HT.out n (Nat.le_refl _) a cap w2 HL2.out).mono ?_; rintro e w3 ⟨pc, cc, pr, cr, R, rfl, hi3, hr3, hl3, hb3⟩)
      obtain ⟨m, hm⟩ : ∃ m, (clsOf F t n).2.length = m := ⟨_, rfl⟩
      have hm40 : m ≤ 40 := by have := (clsOf_reps F t n).1; have := HM.out.2.1; omega
      rw [hm] at hr3 hl3 ⊢
      have hb4 : Below w3.heap.size w3 (w3.alloc (.cells #[.slice pc n cc, .slice pr m cr] 33)) := (Below.refl _ _).alloc (Nat.le_refl _) _
      have hk4 : (w3.alloc (.cells #[.slice pc n cc, .slice pr m cr] 33)).heap[w3.heap.size]? = some (.cells #[.slice pc n cc, .slice pr m cr] 33 (0, 0)) := heap_alloc_new w3 _
      have hb34 := below_then hb3 hb4 (Nat.le_refl _)
      have HL4 := Lib.hid (HL2.out.below hb34)
      have HI4 := Lib.hid (hi3.below hb4)
      have HR4 := Lib.hid (hr3.below hb4)
      have HLK := Lib.hid hl3
      have HB4 := Lib.hid (below_then HB2.out hb34 (Nat.le_of_eq HW.out.symm))
      have e0 := keep_cell hb34 e0
      obtain ⟨b4, hb4e⟩ : ∃ b4, w3.heap.size = b4 := ⟨_, rfl⟩
      rw [hb4e] at hk4 ⊢
      have K4 := Lib.hid hk4
      have HMM := Lib.hid hm
      clear hk4 hb4 hb34 hb3 hi3 hr3 hl3 hb4e hm HL1 HL2 HB2 HL
      generalize w3.alloc (.cells #[.slice pc n cc, .slice pr m cr] 33) = w4 at *
      have d0 : w4.cell? ⟨b4, 0, none⟩ = some (.slice pc n cc) := by rw [Joins.cell_of_block K4.out]; rfl
      have d1 : w4.cell? ⟨b4, 1, none⟩ = some (.slice pr m cr) := by rw [Joins.cell_of_block K4.out]; rfl
      have hn40 := HM.out.2.1
      go_wp2_with fail
      go_loopw [6] (fun v wr => ∃ k : Nat, v = .int .i64 k ∧ k ≤ 100 ∧ Hid (Below w4.heap.size w4 wr)) (fun v _ => 100 - (intOf v).toNat)
      case atStart => exact ⟨0, rfl, by omega, Below.refl _ _⟩
      case round =>
        obtain ⟨k, rfl, hk100, hbel⟩ := hrel
        have e0 := keep_cell hbel.out e0
        by_cases hlt : k ≤ n
        · have HLr := Lib.hid (HL4.out.below hbel.out)
          obtain ⟨a', hs22, ha'⟩ := slice22 a n cap k (Nat.le_trans hlt HL4.out.cap)
          go_upto_region 11 with (go_at_call 15; refine (classes15_may HM.out HT.out k hlt a' cap wr (bms_first HLr.out hlt ha')).mono ?_; rintro e w5 ⟨pc5, cc5, pr5, cr5, R5, rfl, hi5, hr5, hl5, hb5⟩)
          obtain ⟨q, hq⟩ : ∃ q, (clsOf F t k).2.length = q := ⟨_, rfl⟩
          have hqm : q ≤ m := by rw [← hq, ← HMM.out]; exact reps_le F t k n hlt
          rw [hq] at hr5 hl5 ⊢
          have hb6 : Below w5.heap.size w5 (w5.alloc (.cells #[.slice pc5 k cc5, .slice pr5 q cr5] 33)) := (Below.refl _ _).alloc (Nat.le_refl _) _
          have hk6 : (w5.alloc (.cells #[.slice pc5 k cc5, .slice pr5 q cr5] 33)).heap[w5.heap.size]? = some (.cells #[.slice pc5 k cc5, .slice pr5 q cr5] 33 (0, 0)) := heap_alloc_new w5 _
          have hb56 := below_then hb5 hb6 (Nat.le_refl _)
          have hb46 := below_then hbel.out hb56 (Nat.le_refl _)
          have HI6 := Lib.hid (hi5.below hb6)
          have HR6 := Lib.hid (hr5.below hb6)
          have HI4' := Lib.hid (HI4.out.below hb46)
          have HR4' := Lib.hid (HR4.out.below hb46)
          have d0 := keep_cell hb46 d0
          have d1 := keep_cell hb46 d1
          have e0 := keep_cell hb56 e0
          have HB46 := Lib.hid hb46
          obtain ⟨b6, hb6e⟩ : ∃ b6, w5.heap.size = b6 := ⟨_, rfl⟩
          rw [hb6e] at hk6 ⊢
          have K6 := Lib.hid hk6
          have HQ := Lib.hid hq
          have HL5 := Lib.hid hl5
          clear hb6 hk6 hb5 hb56 hb46 hi5 hr5 hl5 hq hb6e hs22 ha' HLr
          generalize w5.alloc (.cells #[.slice pc5 k cc5, .slice pr5 q cr5] 33) = w6 at *
          have f0 : w6.cell? ⟨b6, 0, none⟩ = some (.slice pc5 k cc5) := by rw [Joins.cell_of_block K6.out]; rfl
          have f1 : w6.cell? ⟨b6, 1, none⟩ = some (.slice pr5 q cr5) := by rw [Joins.cell_of_block K6.out]; rfl
          obtain ⟨ac, hs31, hac⟩ := slice31 pc n cc k (Nat.le_trans hlt HI4.out.cap)
          obtain ⟨ar, hs22, har⟩ := slice22 pr m cr q (Nat.le_trans hqm HR4.out.cap)
          have HEI : Hid (∀ w7, Hid (Below w6.heap.size w6 w7) → Calls Try.prog 22 #[.slice pc5 k cc5, .slice ac k cc] w7 fun e w' => e = .returned (.bool true) ∧ ∃ k, w7.drewN k = w') := fun w7 hb7 =>
            eqints22 pc5 k cc5 _ ac k cc _ true w7 (HI6.out.below hb7.out) (ints_first (HI4'.out.below hb7.out) hlt hac) ⟨fun _ => ⟨rfl, fun i hi => by rw [cls_get F t k n i hlt hi]⟩, fun _ => rfl⟩ (by omega)
          have HER : Hid (∀ w7, Hid (Below w6.heap.size w6 w7) → Calls Try.prog 19 #[.slice pr5 q cr5, .slice ar q cr] w7 fun e w' => e = .returned (.bool true) ∧ Below w7.heap.size w7 w') := fun w7 hb7 =>
            eqbitmaps19 pr5 q cr5 R5 ar q cr R true w7 (HR6.out.below hb7.out) (bms_first (HR4'.out.below hb7.out) hqm har) ⟨fun _ => ⟨rfl, fun j hj => by
              have h1 := HL5.out j hj
              have h2 := HLK.out j (by omega)
              rw [reps_get F t k n j hlt (by rw [HQ.out]; exact hj)] at h1
              exact (h1.trans h2.symm).same⟩, fun _ => rfl⟩
          have hgt : decide ((q : Int) > (m : Int)) = false := by simp; omega
          have hgt' : decide ((m : Int) < (q : Int)) = false := by simp; omega
          have hqm2 : decide (m < q) = false := by simp; omega
          have hqm3 : ¬ m < q := by omega
          have hdr : ∀ w', Hid (Below w6.heap.size w6 w') → Hid (Below w6.heap.size w6 w'.drew) := fun w' h => below_drewN h 1
          have hdn : ∀ w' k, Hid (Below w6.heap.size w6 w') → Hid (Below w6.heap.size w6 (w'.drewN k)) := fun w' k h => below_drewN h k
          have hst : Hid (Below w6.heap.size w6 w6) := Below.refl _ _
          go_region_held3 (fun w' => w'.cell? ⟨b6, 0, none⟩ = some (.slice pc5 k cc5) ∧ w'.cell? ⟨b6, 1, none⟩ = some (.slice pr5 q cr5) ∧ w'.cell? ⟨b4, 0, none⟩ = some (.slice pc n cc) ∧ w'.cell? ⟨b4, 1, none⟩ = some (.slice pr m cr) ∧ Hid (Below w6.heap.size w6 w')) (go_keep)
            ((first
              | (go_at_call 22; refine (HEI.out _ (by first | assumption | exact hdr _ hst)).mono ?_; rintro e w7 ⟨rfl, q7, rfl⟩)
              | (go_at_call 19; refine (HER.out _ (by first | assumption | exact hdn _ _ hst)).mono ?_; rintro e w7 ⟨rfl, hb7⟩; have y0 := keep_cell hb7 (p := ⟨b6, 0, none⟩) (v := .slice pc5 k cc5) (by first | assumption | (simp [*]; done)); have y1 := keep_cell hb7 (p := ⟨b6, 1, none⟩) (v := .slice pr5 q cr5) (by first | assumption | (simp [*]; done)); have y2 := keep_cell hb7 (p := ⟨b4, 0, none⟩) (v := .slice pc n cc) (by first | assumption | (simp [*]; done)); have y3 := keep_cell hb7 (p := ⟨b4, 1, none⟩) (v := .slice pr m cr) (by first | assumption | (simp [*]; done)); have y4 : Hid (Below w6.heap.size w6 w7) := below_then (Hid.out (by first | assumption | exact hdn _ _ hst)) hb7 (Nat.le_refl _))))
          have e0 : w7.cell? ⟨b1, 0, none⟩ = some (.slice a n cap) := keep_cell y4.out e0
          have h6 : (n : Int).tdiv 6 = ((n / 6 : Nat) : Int) := (Int.ofNat_tdiv n 6).symm
          have h60 : n / 6 ≤ 6 := by omega
          generalize n / 6 = x6 at h6 h60
          clear hgt hgt' hqm2 hqm3 hdr hdn hst hs31 hs22 HEI HER
          go_wp2_with fail
          go_roundw
          case rel => exact ⟨k + 1 + x6, by go_num, by omega, below_then HB46.out y4.out (Nat.le_refl _)⟩
          case measure => simp [intOf]; omega
        · go_wp2_with (go_at_call 11; refine (wakes11 _).mono ?_; rintro e w5 ⟨rfl, hb5⟩)
          go_ret
          exact ⟨rfl, by rw [HW.out]; exact below_then HB4.out (below_then hbel.out hb5 (Nat.le_refl _)) (Nat.le_of_eq HW.out.symm)⟩
  · have HM := Lib.hid hmay
    clear hmay
    go_wp2_with (first
      | (go_at_call 23; refine (may23_is false a n cap F w1 HL1.out (by simpa using HM.out)).mono ?_; rintro e w2 ⟨rfl, hb2⟩)
      | (go_at_call 11; refine (wakes11 _).mono ?_; rintro e w3 ⟨rfl, hb3⟩))
    go_ret
    exact ⟨rfl, by rw [HW.out]; exact below_then (below_then HB1.out hb2 (Nat.le_of_eq HW.out.symm)) hb3 (Nat.le_of_eq HW.out.symm)⟩
end Go.Proofs.Ytfniekdohidbiaa
