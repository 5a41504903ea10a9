/- MatchClasses, walked. Conditions: the bounds that each theorem names. -/
import Derived.Test.YtfniekdohidbiaaXr
import Derived.Test.YtfniekdohidbiaaXu
import Derived.Test.YtfniekdohidbiaaXw
import Derived.Test.YtfniekdohidbiaaOa
namespace Go.Proofs.Ytfniekdohidbiaa
open Go.RowKit Go.Bm
set_option maxHeartbeats 4000000 in
set_option maxRecDepth 100000 in
theorem classes_walk (a : Option Addr) (n cap : Nat) (F : Nat → Bmp) (t : Nat) (w : World) (hL : IsBms w a n cap F) (hsz : ∀ i, i < n → (F i).n ≤ 1125899906842624) :
    Calls Try.prog 3 #[.agg #[.slice a n cap, .int .u64 ((t : Nat) : Int)]] w fun e w' => e = .returned (.bool true) ∧ Below w.heap.size w w' := by
  have HL := Lib.hid hL
  have HSZ := Lib.hid hsz
  clear hL hsz
  go_enter Try.func3, Try.ntmps3
  go_upto_region 1 with fail
  have hk1 : (w.alloc (.cells #[.slice a n cap, .int .u64 ((t : Nat) : Int)] 25)).heap[w.heap.size]? = some (.cells #[.slice a n cap, .int .u64 ((t : Nat) : Int)] 25 (0, 0)) := heap_alloc_new w _
  have hb1 : Below w.heap.size w (w.alloc (.cells #[.slice a n cap, .int .u64 ((t : Nat) : Int)] 25)) := (Below.refl _ _).alloc (Nat.le_refl _) _
  have HL1 := Lib.hid (HL.out.below hb1)
  obtain ⟨b1, hb1e⟩ : ∃ b1, w.heap.size = b1 := ⟨_, rfl⟩
  rw [hb1e] at hk1 hb1 ⊢
  have HW := Lib.hid hb1e
  have K1 := Lib.hid hk1
  have HB1 := Lib.hid hb1
  clear hk1 hb1 hb1e
  generalize w.alloc (.cells #[.slice a n cap, .int .u64 ((t : Nat) : Int)] 25) = w1 at *
  have e0 : w1.cell? ⟨b1, 0, none⟩ = some (.slice a n cap) := by rw [Joins.cell_of_block K1.out]; rfl
  have e1 : w1.cell? ⟨b1, 1, none⟩ = some (.int .u64 ((t : Nat) : Int)) := by rw [Joins.cell_of_block K1.out]; rfl
  have hf12 : ∀ w, (callFunc 12 #[.int .u64 ((t : Nat) : Int)]).run Try.prog w = .ok (.value (.float .f64 t)) w := fun w => by have := call35 (t : Int) w; simpa using this
  go_upto_region 3 with (first
    | (go_at_call 10; refine (light10 a n cap F w1 HL1.out HL1.out.len).mono ?_; rintro e w2 ⟨b, rfl, ⟨q, rfl⟩, hb, hsm⟩)
    | (go_at_call 11; refine (wakes11 _).mono ?_; rintro e w2 ⟨rfl, hb2⟩))
  · go_ret
    exact ⟨rfl, by rw [HW.out]; exact below_then (below_drewN HB1.out q) hb2 (Nat.le_of_eq HW.out.symm)⟩
  · have hb' : b = true := by first | assumption | (simp_all; done)
    have hn40 := hb hb'
    have hsum := ((hsm HSZ.out).1 hb').2
    have hsmall : ∀ i, i < n → (F i).n ≤ 6000 := fun i hi => by
      have := sumB_each F n i hi
      omega
    have HSM := Lib.hid hsmall
    obtain ⟨cls, m, Q, c, hcl40, hm40, hq, h14, h15⟩ := classes_both a n cap t F w1 HL1.out hn40 hsmall
    have H14 := Lib.hid h14
    have H15 := Lib.hid h15
    have HQ := Lib.hid hq
    clear hb hsm hb' hsum hsmall hq h14 h15
    have hbq : Below w1.heap.size w1 (w1.drewN q) := below_drewN (Below.refl _ _) q
    have e0 := keep_cell hbq e0
    have e1 := keep_cell hbq e1
    have HBQ := Lib.hid hbq
    clear hbq
    go_upto_region 5 with (go_at_call 13; refine (copies13 a n cap F _ (HL1.out.below HBQ.out) (by omega) (fun k hk => Nat.le_trans (HSM.out k hk) (by omega))).mono ?_; rintro e w3 ⟨v, R0, rfl, hlie, hlk0, hb3⟩; obtain ⟨px, cx, rfl, hx⟩ := hlie.is)
    have hb13 : Below w1.heap.size w1 w3 := below_then HBQ.out hb3 (Nat.le_refl _)
    have e0 := keep_cell hb3 e0
    have HX := Lib.hid hx
    have HLK0 := Lib.hid hlk0
    have HB13 := Lib.hid hb13
    clear hlie hlk0 hb3 hx hb13 e1 hf12
    go_upto_region 6 with (go_at_call 14; refine (H14.out w3 HB13.out).mono ?_; rintro e w4 ⟨pc, cc, pr, cr, G, rfl, hi4, hg4, hl4, hb4⟩)
    have hbx : Below w4.heap.size w4 (w4.alloc (.cells #[.slice pc cls.length cc, .slice pr m cr] 33)) := (Below.refl _ _).alloc (Nat.le_refl _) _
    have hk5 : (w4.alloc (.cells #[.slice pc cls.length cc, .slice pr m cr] 33)).heap[w4.heap.size]? = some (.cells #[.slice pc cls.length cc, .slice pr m cr] 33 (0, 0)) := heap_alloc_new w4 _
    have h35 : Below w3.heap.size w3 (w4.alloc (.cells #[.slice pc cls.length cc, .slice pr m cr] 33)) := below_then hb4 hbx (Nat.le_refl _)
    have HX5 := Lib.hid (HX.out.below h35)
    have HI5 := Lib.hid (hi4.below hbx)
    have HG5 := Lib.hid (hg4.below hbx)
    have HLG := Lib.hid hl4
    have HB15 := Lib.hid (below_then HB13.out h35 (Nat.le_refl _))
    obtain ⟨b5, hb5⟩ : ∃ b5, w4.heap.size = b5 := ⟨_, rfl⟩
    rw [hb5] at hk5 ⊢
    have K5 := Lib.hid hk5
    clear hbx hk5 h35 hb4 hi4 hg4 hl4 hb5 e0 HX
    generalize w4.alloc (.cells #[.slice pc cls.length cc, .slice pr m cr] 33) = w5 at *
    go_wp2_with fail
    go_loopw [7] (fun v wr => ∃ k : Nat, k ≤ 2 ∧ v = .int .i64 k ∧ Hid (Below w5.heap.size w5 wr)) (fun v _ => 2 - (intOf v).toNat)
    case atStart => exact ⟨0, by omega, rfl, Below.refl _ _⟩
    case round =>
      obtain ⟨k, hk, rfl, hbel⟩ := hrel
      by_cases hlt : k < 2
      · go_upto_region 10 with (go_at_call 15; refine (H15.out px cx R0 wr (HX5.out.below hbel.out) HLK0.out).mono ?_; rintro e w6 ⟨pc6, cc6, pr6, cr6, R6, rfl, ho6, hr6, hl6, hb6⟩)
        have hbx : Below w6.heap.size w6 (w6.alloc (.cells #[.slice pc6 cls.length cc6, .slice pr6 m cr6] 33)) := (Below.refl _ _).alloc (Nat.le_refl _) _
        have hk8 : (w6.alloc (.cells #[.slice pc6 cls.length cc6, .slice pr6 m cr6] 33)).heap[w6.heap.size]? = some (.cells #[.slice pc6 cls.length cc6, .slice pr6 m cr6] 33 (0, 0)) := heap_alloc_new w6 _
        have HO7 := Lib.hid (ho6.kept (grown_of_below hbx none) (Classical.em _))
        have HR7 := Lib.hid (hr6.below hbx)
        have HL7 := Lib.hid hl6
        have h57 : Below wr.heap.size wr (w6.alloc (.cells #[.slice pc6 cls.length cc6, .slice pr6 m cr6] 33)) := below_then hb6 hbx (Nat.le_refl _)
        have HB57 := Lib.hid (below_then hbel.out h57 (Nat.le_refl _))
        have HB7 := Lib.hid h57
        obtain ⟨b8, hb8⟩ : ∃ b8, w6.heap.size = b8 := ⟨_, rfl⟩
        have hge8 : wr.heap.size ≤ b8 := by rw [← hb8]; exact hb6.size
        rw [hb8] at hk8 ⊢
        have K8 := Lib.hid hk8
        clear hbx hk8 h57 hb6 ho6 hr6 hl6 hb8
        generalize w6.alloc (.cells #[.slice pc6 cls.length cc6, .slice pr6 m cr6] 33) = w7 at *
        have K57 := Lib.hid (grown_block_lt (grown_of_below HB57.out none) K5.out (by simp))
        have c0 : w7.cell? ⟨b8, 0, none⟩ = some (.slice pc6 cls.length cc6) := by rw [Joins.cell_of_block K8.out]; rfl
        have c1 : w7.cell? ⟨b8, 1, none⟩ = some (.slice pr6 m cr6) := by rw [Joins.cell_of_block K8.out]; rfl
        have d0 : w7.cell? ⟨b5, 0, none⟩ = some (.slice pc cls.length cc) := by rw [Joins.cell_of_block K57.out]; rfl
        have d1 : w7.cell? ⟨b5, 1, none⟩ = some (.slice pr m cr) := by rw [Joins.cell_of_block K57.out]; rfl
        obtain ⟨p', c', hv, hi7⟩ := isInts_of_owns HO7.out
        simp only [Value.slice.injEq, true_and] at hv
        obtain ⟨rfl, rfl⟩ := hv
        obtain ⟨p', c', hv, hr7⟩ := HR7.out.is
        simp only [Value.slice.injEq, true_and] at hv
        obtain ⟨rfl, rfl⟩ := hv
        have HEQ := Lib.hid (eqmatching16 pc6 cls.length cc6 _ pr6 m cr6 R6 pc cls.length cc _ pr m cr G w7 hi7 (HI5.out.below HB57.out) hr7 (HG5.out.below HB57.out) (by omega) ⟨rfl, fun _ _ => rfl⟩ ⟨rfl, fun k hk => ((HL7.out k hk).trans (HLG.out k hk).symm).same⟩)
        clear hi7 hr7
        go_upto_region 12 with (first
          | (go_at_call 16; refine HEQ.out.mono ?_; rintro e w8 ⟨rfl, hb8⟩; have c1' := keep_cell hb8 c1; have K88 := Lib.hid (grown_block_lt (grown_of_below hb8 none) K8.out (by simp)); have HO8 := Lib.hid (HO7.out.kept (grown_of_below hb8 none) (Classical.em _)); have HR8 := Lib.hid (HR7.out.below hb8); have HB8 := Lib.hid (below_then HB7.out hb8 (Nat.le_refl _)); have hs8 := hb8.size; clear hb8)
          | (go_at_call 17; refine (overbitmaps17k wr.heap.size m (.slice pr6 m cr6) R6 w8 HR8.out (by omega) (fun k hk => by rw [(HL7.out k hk).2.2.1]; exact Nat.le_trans (HQ.out k hk) (by omega)) HB8.out.size).mono ?_; rintro e w9 ⟨rfl, hb9, hk9⟩; have HO9 := Lib.hid (ownsRow_keepNot HO8.out hk9 (by decide)); have c0' : w9.cell? ⟨b8, 0, none⟩ = some (.slice pc6 cls.length cc6) := (by rw [Joins.cell_of_block (hk9 _ _ _ _ K88.out (by decide))]; rfl); have HB9 := Lib.hid (HB8.out.trans hb9); clear hb9 hk9))
        go_wp2_with (go_at_call 18; refine (overints18 wr.heap.size cls.length (.slice pc6 cls.length cc6) (numsL cls) w9 HO9.out (by omega) HB9.out.size).mono ?_; rintro e w10 ⟨rfl, hb10⟩)
        go_roundw
        case rel => exact ⟨k + 1, by omega, by go_num, below_then hbel.out (HB9.out.trans hb10) (Nat.le_refl _)⟩
        case measure => simp [intOf]; omega
      · obtain rfl : k = 2 := by omega
        have HB1r := Lib.hid (below_then HB15.out hbel.out (Nat.le_refl _))
        have e0 : wr.cell? ⟨b1, 0, none⟩ = some (.slice a n cap) := by rw [Joins.cell_of_block (grown_block_lt (grown_of_below HB1r.out none) K1.out (by simp))]; rfl
        have HEQ := Lib.hid (eqbitmaps19 px n cx R0 a n cap F true wr (HX5.out.below hbel.out) (HL1.out.below HB1r.out) (by simpa using fun i hi => (HLK0.out i hi).same))
        go_wp2_with (first
          | (go_at_call 19; refine HEQ.out.mono ?_; rintro e w8 ⟨rfl, hb8⟩)
          | (go_at_call 11; refine (wakes11 _).mono ?_; rintro e w9 ⟨rfl, hb9⟩))
        go_ret
        exact ⟨rfl, by rw [HW.out]; exact below_then HB1.out (below_then HB1r.out (below_then hb8 hb9 (Nat.le_refl _)) (Nat.le_refl _)) (Nat.le_of_eq HW.out.symm)⟩
end Go.Proofs.Ytfniekdohidbiaa
