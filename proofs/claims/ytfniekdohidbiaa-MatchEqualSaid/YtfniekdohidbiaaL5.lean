/- MatchEqual, walked. Conditions: the bounds that each theorem names. -/
import Derived.Test.YtfniekdohidbiaaYb
import Derived.Test.YtfniekdohidbiaaYd
namespace Go.Proofs.Ytfniekdohidbiaa
open Go.RowKit Go.Bm Fl Go.FlW
/-- the three tolerances -/
def tols (k : Nat) : Nat := if k = 0 then 0 else if k = 1 then 9223372036854775808 else 9218868437227405312
theorem tols_ok (k : Nat) : tolOk (tols k) = true := by
  unfold tols
  split
  · exact tol_facts.1.2.2
  · split
    · exact tol_facts.2.1.2.2
    · exact tol_facts.2.2.2.2
/-- what Classes answers at bitmaps that may be: the classes, and where they lie -/
theorem classes15_at {n t : Nat} {F : Nat → Bmp} (hm : MayB F n) (ht : tolOk t = true) (a' : Option Addr) (cap' : Nat) (w' : World) (hL : IsBms w' a' n cap' F) :
    Calls Try.prog 15 #[.slice a' n cap', .float .f64 t] w' fun e w2 => ∃ pc cc pr cr, e = .returned (.tuple #[.agg #[.slice pc n cc, .slice pr (clsOf F t n).2.length cr], .int .i64 0]) ∧
      Hid (IsInts w2 pc n cc (fun i => ((clsOf F t n).1[i]! : Nat))) ∧ Hid (∀ g o, pc = some ⟨g, o, none⟩ → w'.heap.size ≤ g) ∧ Hid (Below w'.heap.size w' w2) := by
  have h40 := hm.2.1
  refine (classes15 a' n cap' t F w' hL (by omega) ht (fun i hi => ⟨hm.1 i (by omega), Nat.le_trans (hm.small i (by omega)) (by omega)⟩) (fun i hi _ => by have := (clsOf_reps F t i).1; omega)).mono ?_
  rintro e w2 ⟨pc, cc, pr, cr, R, he, h1, h2, h3, h4⟩
  obtain ⟨p, c, hv, hi⟩ := isInts_of_owns h1
  simp only [Value.slice.injEq, true_and] at hv
  obtain ⟨rfl, rfl⟩ := hv
  exact ⟨pc, cc, pr, cr, he, hi, fun g o e => by subst e; exact (h1.lt g rfl).1, h4⟩
set_option maxHeartbeats 4000000 in
set_option maxRecDepth 100000 in
theorem equal_walk (a : Option Addr) (n cap : Nat) (F : Nat → Bmp) (t : Nat) (w : World) (hL : IsBms w a n cap F) (_ht : t < 2 ^ 64) :
    Calls Try.prog 5 #[.agg #[.slice a n cap, .int .u64 ((t : Nat) : Int)]] w fun e w' => e = .returned (.bool true) ∧ Below w.heap.size w w' := by
  have HL := Lib.hid hL
  clear hL _ht
  go_enter Try.func5, Try.ntmps5
  go_upto_region 1 with fail
  have hk1 : (w.alloc (.cells #[.slice a n cap, .int .u64 ((t : Nat) : Int)] 25)).heap[w.heap.size]? = some (.cells #[.slice a n cap, .int .u64 ((t : Nat) : Int)] 25 (0, 0)) := heap_alloc_new w _
  have hb1 : Below w.heap.size w (w.alloc (.cells #[.slice a n cap, .int .u64 ((t : Nat) : Int)] 25)) := (Below.refl _ _).alloc (Nat.le_refl _) _
  have HL1 := Lib.hid (HL.out.below hb1)
  obtain ⟨b1, hb1e⟩ : ∃ b1, w.heap.size = b1 := ⟨_, rfl⟩
  rw [hb1e] at hk1 hb1 ⊢
  have HW := Lib.hid hb1e
  have K1 := Lib.hid hk1
  have HB1 := Lib.hid hb1
  clear hk1 hb1 hb1e
  generalize w.alloc (.cells #[.slice a n cap, .int .u64 ((t : Nat) : Int)] 25) = w1 at *
  have e0 : w1.cell? ⟨b1, 0, none⟩ = some (.slice a n cap) := by rw [Joins.cell_of_block K1.out]; rfl
  by_cases hmay : MayB F n
  · have HM := Lib.hid hmay
    clear hmay
    have hneg : Op.unary .neg (.float .f64 0) = pure (.float .f64 9223372036854775808) := rfl
    have hquo : ∀ (t : TypeId) (w : World), (binOp .quo t (.float .f64 4607182418800017408) (.float .f64 0)).run Try.prog w = .ok (.float .f64 9218868437227405312) w := run_fl_some .quo _ _ _ (by decide)
    go_upto_region 4 with (go_at_call 23; refine (may23_is true a n cap F w1 HL1.out (by simpa using HM.out)).mono ?_; rintro e w2 ⟨rfl, hb2⟩)
    have e0 := keep_cell hb2 e0
    have HL2 := Lib.hid (HL1.out.below hb2)
    have HB2 := Lib.hid (below_then HB1.out hb2 (Nat.le_of_eq HW.out.symm))
    clear hb2
    go_upto_region 6 with fail
    have hb3 : Below w2.heap.size w2 (w2.alloc (.cells #[.float .f64 0, .float .f64 9223372036854775808, .float .f64 9218868437227405312] 28)) := (Below.refl _ _).alloc (Nat.le_refl _) _
    have hk3 : (w2.alloc (.cells #[.float .f64 0, .float .f64 9223372036854775808, .float .f64 9218868437227405312] 28)).heap[w2.heap.size]? = some (.cells #[.float .f64 0, .float .f64 9223372036854775808, .float .f64 9218868437227405312] 28 (0, 0)) := heap_alloc_new w2 _
    have HL3 := Lib.hid (HL2.out.below hb3)
    have HB3 := Lib.hid (below_then HB2.out hb3 (Nat.le_of_eq HW.out.symm))
    have e0 := keep_cell hb3 e0
    obtain ⟨b3, hb3e⟩ : ∃ b3, w2.heap.size = b3 := ⟨_, rfl⟩
    rw [hb3e] at hk3 ⊢
    have K3 := Lib.hid hk3
    clear hb3 hk3 hb3e HL2 HB2 HL1 HL hneg hquo
    generalize w2.alloc (.cells #[.float .f64 0, .float .f64 9223372036854775808, .float .f64 9218868437227405312] 28) = w3 at *
    have HF : Hid (∀ k, k < 3 → w3.cell? ⟨b3, k, none⟩ = some (.float .f64 (tols k))) := fun k hk => by
      rw [Joins.cell_of_block K3.out]
      match k, hk with
      | 0, _ => rfl
      | 1, _ => rfl
      | 2, _ => rfl
    have hn40 := HM.out.2.1
    have hok := Lib.hid HM.out.1
    have hwd := Lib.hid HL3.out.word
    go_loopw [5] (fun v wr => ∃ k : Nat, v = .int .i64 k ∧ k ≤ 3 ∧ Hid (Below w3.heap.size w3 wr)) (fun v _ => 3 - (intOf v).toNat)
    case atStart => exact ⟨0, rfl, by omega, Below.refl _ _⟩
    case round =>
      obtain ⟨k, rfl, hk3, hbel⟩ := hrel
      have e0 := keep_cell hbel.out e0
      by_cases hlt : k < 3
      · have f0 := keep_cell hbel.out (HF.out k hlt)
        have HT := Lib.hid (tols_ok k)
        have HLr := Lib.hid (HL3.out.below hbel.out)
        go_upto_region 8 with fail
        go_cut [6, 7] from 21 to 113 (fun s6 s7 wx => ∃ b6 pc cc pr cr, s6 = .pointer (some ⟨b6, 0, none⟩) ∧ s7 = .int .i64 0 ∧ Hid (wx.heap[b6]? = some (.cells #[.slice pc n cc, .slice pr (clsOf F (tols k) n).2.length cr] 33 (0, 0))) ∧ Hid (IsInts wx pc n cc (fun i => ((clsOf F (tols k) n).1[i]! : Nat))) ∧ Hid (Below wr.heap.size wr wx))
        case first =>
          have hl1 : b1 < wr.heap.size := World.block_lt_of_cell? wr _ e0
          have hl3 : b3 < wr.heap.size := World.block_lt_of_cell? wr _ f0
          have hn1 : ¬ b1 = wr.heap.size := by omega
          have hn3 : ¬ b3 = wr.heap.size := by omega
          go_region_held3 (fun w' => w'.cell? ⟨b1, 0, none⟩ = some (.slice a n cap) ∧ w'.cell? ⟨b3, k, none⟩ = some (.float .f64 (tols k))) (first | go_keep | (go_split_ands; refine ⟨?_, ?_⟩ <;> (refine grown_cell (grown_setCell _ _ _) ?_ (grown_cell (grown_setCell _ _ _) ?_ (by assumption)) <;> (simp; omega))))
            ((go_at_call 15; refine (classes15_at HM.out HT.out a cap _ ?_).mono ?_; (first | with_reducible exact HLr.out | (with_reducible exact HLr.out.below (Below.drew (Below.refl _ _))) | (with_reducible exact HLr.out.below ((Below.refl _ _).alloc (Nat.le_refl _) _).drew) | (with_reducible exact HLr.out.below ((Below.refl _ _).drew.alloc (by simp) _)) | (with_reducible exact HLr.out.below ((Below.refl _ _).alloc (Nat.le_refl _) _))); rintro e w5 ⟨pc, cc, pr, cr, rfl, HI5, HG5, HB5⟩;
              have hbW : Hid (Below wr.heap.size wr w5) := below_then (by first | with_reducible exact Below.refl _ _ | with_reducible exact Below.drew (Below.refl _ _) | with_reducible exact ((Below.refl _ _).alloc (Nat.le_refl _) _).drew | with_reducible exact (Below.refl _ _).drew.alloc (by simp) _ | with_reducible exact (Below.refl _ _).alloc (Nat.le_refl _) _) HB5.out (Nat.le_refl _);
              have y0 := keep_cell hbW.out e0; have y1 := keep_cell hbW.out f0;
              (try (have hM : w5.heap[wr.heap.size]? = some (.cells #[.slice none 0 0, .slice none 0 0] 33 (0, 0)) := (HB5.out.block wr.heap.size (by simp)).trans (heap_alloc_new wr _); have z0 : w5.cell? ⟨wr.heap.size, 0, none⟩ = some (.slice none 0 0) := (by rw [Joins.cell_of_block hM]; rfl); have z1 : w5.cell? ⟨wr.heap.size, 1, none⟩ = some (.slice none 0 0) := (by rw [Joins.cell_of_block hM]; rfl); have zf0 : w5.frozen? ⟨wr.heap.size, 0, none⟩ = false := Joins.unfrozen_of_block hM _; have zf1 : w5.frozen? ⟨wr.heap.size, 1, none⟩ = false := Joins.unfrozen_of_block hM _; have HMM := Lib.hid hM; clear hM))))
          all_goals (go_wp2_with fail; go_meet)
          · exact ⟨_, pc, cc, pr, cr, rfl, rfl, heap_alloc_new w5 _, HI5.out.below ((Below.refl _ _).alloc (Nat.le_refl _) _), hbW.out.alloc hbW.out.size _⟩
          all_goals
            have hne : ∀ g o, pc = some ⟨g, o, none⟩ → g ≠ wr.heap.size := fun g o e => by have h1 := HG5.out g o e; simp at h1; omega
            exact ⟨_, pc, cc, pr, cr, rfl, rfl, Joins.block_setCell (Joins.block_setCell HMM.out _) _, (HI5.out.other hne _ _).other hne _ _, (hbW.out.setCell (by simp) _).setCell (by simp) _⟩
        case rest =>
          obtain ⟨b6, pc, cc, pr, cr, rfl, rfl, K6, HI6, HB6⟩ := hcut
          have HBk := Lib.hid (below_then hbel.out HB6.out (Nat.le_refl _))
          have e0 := keep_cell HB6.out e0
          have e0c := Lib.hid e0
          have d0 : wc.cell? ⟨b6, 0, none⟩ = some (.slice pc n cc) := by rw [Joins.cell_of_block K6.out]; rfl
          have HLc := Lib.hid (HLr.out.below HB6.out)
          have HEQ : Hid (∀ i j, i < n → j < n → k < 2 → ((clsOf F (tols k) n).1[i]! = (clsOf F (tols k) n).1[j]! ↔ (F i).same (F j))) := fun i j hi hj h2 => by
            refine cls_zero hok.out hwd.out ?_ ?_ i j hi hj
            · unfold tols; split
              · exact tol_facts.1.1
              · rw [if_pos (by omega)]; exact tol_facts.2.1.1
            · unfold tols; split
              · exact tol_facts.1.2.1
              · rw [if_pos (by omega)]; exact tol_facts.2.1.2.1
          have HEI : Hid (∀ i j, i < n → j < n → k = 2 → ((clsOf F (tols k) n).1[i]! = (clsOf F (tols k) n).1[j]! ↔ (F i).W = (F j).W ∧ (F i).H = (F j).H)) := fun i j hi hj h2 => by
            subst h2
            exact cls_inf hok.out tol_facts.2.2.1 tol_facts.2.2.2.1 i j hi hj
          obtain ⟨C, hC⟩ : ∃ C : Nat → Nat, ∀ i, (clsOf F (tols k) n).1[i]! = C i := ⟨_, fun _ => rfl⟩
          have HEQ : Hid (∀ i j, i < n → j < n → k < 2 → (C i = C j ↔ (F i).same (F j))) := fun i j hi hj h2 => by rw [← hC, ← hC]; exact HEQ.out i j hi hj h2
          have HEI : Hid (∀ i j, i < n → j < n → k = 2 → (C i = C j ↔ (F i).W = (F j).W ∧ (F i).H = (F j).H)) := fun i j hi hj h2 => by rw [← hC, ← hC]; exact HEI.out i j hi hj h2
          have HI6 := Lib.hid (show IsInts wc pc n cc (fun i => (C i : Nat)) by simpa only [hC] using HI6.out)
          clear f0 HLr HT hC
          go_wp2_with fail
          go_loopw [8] (fun v wy => ∃ i : Nat, v = .int .i64 i ∧ i ≤ n ∧ Hid (Below wc.heap.size wc wy)) (fun v _ => n - (intOf v).toNat)
          case atStart => exact ⟨0, rfl, Nat.zero_le _, Below.refl _ _⟩
          case round =>
            obtain ⟨i, rfl, hin, hbi⟩ := hrel
            have e0 := keep_cell hbi.out e0
            by_cases hi : i < n
            · go_wp2_with fail
              go_loopw [9] (fun v wx => ∃ j : Nat, v = .int .i64 j ∧ j ≤ i ∧ Hid (Below wc.heap.size wc wx)) (fun v _ => i - (intOf v).toNat)
              case atStart => exact ⟨0, rfl, Nat.zero_le _, hbi⟩
              case round =>
                obtain ⟨j, rfl, hji, hbj⟩ := hrel
                by_cases hj : j < i
                · rcases HLc.out with h0 | ⟨ab, ao, rfl, al1, al2, al3, hca⟩
                  · omega
                  rcases HI6.out with h0 | ⟨g, o, rfl, gl1, gl2, gl3, hcg⟩
                  · omega
                  have hjn : j < n := by omega
                  have g0 := keep_cell hbj.out d0
                  have g1 := keep_cell hbj.out (hcg i hi)
                  have g2 := keep_cell hbj.out (hcg j hjn)
                  obtain ⟨p0, p1, p2, p3⟩ := hca i hi
                  obtain ⟨q0, q1, q2, q3⟩ := hca j hjn
                  have p0 := keep_cell hbj.out p0
                  have p1 := keep_cell hbj.out p1
                  have p2 := keep_cell hbj.out p2
                  have q0 := keep_cell hbj.out q0
                  have q1 := keep_cell hbj.out q1
                  have q2 := keep_cell hbj.out q2
                  have P3 := Lib.hid (p3.below hbj.out)
                  have Q3 := Lib.hid (q3.below hbj.out)
                  have e0 := keep_cell hbj.out e0c.out
                  clear hca hcg p3 q3
                  obtain ⟨bs, hbs⟩ : ∃ bs : Bool, bs = true ↔ (F i).same (F j) := by
                    classical
                    exact ⟨decide ((F i).same (F j)), by simp⟩
                  have HBS := Lib.hid hbs
                  clear hbs
                  go_upto_region 17 with fail
                  go_region_held3 (fun w' => w'.cell? ⟨b1, 0, none⟩ = some (.slice (some ⟨ab, ao, none⟩) n cap) ∧ w'.cell? ⟨ab, ao + i * 3, none⟩ = some (.int .i64 (F i).W) ∧ w'.cell? ⟨ab, ao + i * 3 + 1, none⟩ = some (.int .i64 (F i).H) ∧ w'.cell? ⟨ab, ao + i * 3 + 2, none⟩ = some (.slice (F i).a (F i).n (F i).cap) ∧ w'.cell? ⟨ab, ao + j * 3, none⟩ = some (.int .i64 (F j).W) ∧ w'.cell? ⟨ab, ao + j * 3 + 1, none⟩ = some (.int .i64 (F j).H) ∧ w'.cell? ⟨ab, ao + j * 3 + 2, none⟩ = some (.slice (F j).a (F j).n (F j).cap)) (go_keep)
                    ((go_at_call 24; refine (Bmp.eq (F i) (F j) bs _ ?c1 ?c2 HBS.out ?c3).mono ?_; (case c1 => (first | exact P3.out | exact IsWords.below P3.out (Below.drew (Below.refl _ _)) | exact IsWords.below P3.out (below_drewN (Below.refl _ _) _))); (case c2 => (first | exact Q3.out | exact IsWords.below Q3.out (Below.drew (Below.refl _ _)) | exact IsWords.below Q3.out (below_drewN (Below.refl _ _) _))); (case c3 => exact P3.out.len); rintro e w7 ⟨rfl, hb7⟩; have y0 := keep_cell hb7 (p := ⟨b1, 0, none⟩) (v := .slice (some ⟨ab, ao, none⟩) n cap) (by assumption); have y1 := keep_cell hb7 (p := ⟨ab, ao + i * 3, none⟩) (v := .int .i64 (F i).W) (by assumption); have y2 := keep_cell hb7 (p := ⟨ab, ao + i * 3 + 1, none⟩) (v := .int .i64 (F i).H) (by assumption); have y3 := keep_cell hb7 (p := ⟨ab, ao + i * 3 + 2, none⟩) (v := .slice (F i).a (F i).n (F i).cap) (by assumption); have y4 := keep_cell hb7 (p := ⟨ab, ao + j * 3, none⟩) (v := .int .i64 (F j).W) (by assumption); have y5 := keep_cell hb7 (p := ⟨ab, ao + j * 3 + 1, none⟩) (v := .int .i64 (F j).H) (by assumption); have y6 := keep_cell hb7 (p := ⟨ab, ao + j * 3 + 2, none⟩) (v := .slice (F j).a (F j).n (F j).cap) (by assumption)))
                  have HB7 := Lib.hid (below_then hbj.out (below_then (Below.drew (Below.refl _ _)) hb7 (Nat.le_refl _)) (Nat.le_refl _))
                  have hb17 : Below wr.heap.size wr w7 := below_then (Below.drew (Below.refl _ _)) hb7 (Nat.le_refl _)
                  have g0 := keep_cell hb17 g0
                  have g1 := keep_cell hb17 g1
                  have g2 := keep_cell hb17 g2
                  clear hb7 hb17 p0 p1 p2 q0 q1 q2 HL3
                  by_cases hk2 : k = 2
                  · have hiff := HEI.out i j hi hjn hk2
                    have hk2' : ((k : Int) == 2) = true := by simp; omega
                    clear hk2
                    by_cases hW : (F i).W = (F j).W
                    · by_cases hH : (F i).H = (F j).H
                      · have hC : ((C i : Int) == (C j : Int)) = true := by rw [beq_iff_eq, Int.ofNat_inj]; exact hiff.2 ⟨hW, hH⟩
                        have hWb : ((F i).W == (F j).W) = true := by simpa using hW
                        have hHb : ((F i).H == (F j).H) = true := by simpa using hH
                        clear hW hH hiff
                        go_upto_region 19 with fail
                        go_quiet (fail)
                        go_upto_region 20 with fail
                        go_quiet (fail)
                        go_wp2_with fail
                        go_roundw
                        case rel => exact ⟨j + 1, by go_num, by omega, by first | exact below_drewN HB7.out _ | exact below_drewN (below_drewN HB7.out _) _⟩
                        case measure => simp [intOf]; omega
                      · have hC : ((C i : Int) == (C j : Int)) = false := by rw [beq_eq_false_iff_ne]; exact fun h => hH (hiff.1 (Int.ofNat_inj.1 h)).2
                        have hWb : ((F i).W == (F j).W) = true := by simpa using hW
                        have hHb : ((F i).H == (F j).H) = false := by simpa using hH
                        clear hW hH hiff
                        go_upto_region 19 with fail
                        go_quiet (fail)
                        go_upto_region 20 with fail
                        go_quiet (fail)
                        go_wp2_with fail
                        go_roundw
                        case rel => exact ⟨j + 1, by go_num, by omega, by first | exact below_drewN HB7.out _ | exact below_drewN (below_drewN HB7.out _) _⟩
                        case measure => simp [intOf]; omega
                    · have hC : ((C i : Int) == (C j : Int)) = false := by rw [beq_eq_false_iff_ne]; exact fun h => hW (hiff.1 (Int.ofNat_inj.1 h)).1
                      have hWb : ((F i).W == (F j).W) = false := by simpa using hW
                      clear hW hiff
                      go_upto_region 19 with fail
                      go_quiet (fail)
                      go_upto_region 20 with fail
                      go_quiet (fail)
                      go_wp2_with fail
                      go_roundw
                      case rel => exact ⟨j + 1, by go_num, by omega, by first | exact below_drewN HB7.out _ | exact below_drewN (below_drewN HB7.out _) _⟩
                      case measure => simp [intOf]; omega
                  · have hiff := HEQ.out i j hi hjn (by omega)
                    have hk2' : ((k : Int) == 2) = false := by simp; omega
                    have hbs := HBS.out
                    clear hk2
                    cases bs with
                    | true =>
                      have hC : ((C i : Int) == (C j : Int)) = true := by rw [beq_iff_eq, Int.ofNat_inj]; exact hiff.2 (hbs.1 rfl)
                      clear hiff hbs
                      go_upto_region 20 with fail
                      go_quiet (fail)
                      go_wp2_with fail
                      go_roundw
                      case rel => exact ⟨j + 1, by go_num, by omega, by first | exact below_drewN HB7.out _ | exact below_drewN (below_drewN HB7.out _) _⟩
                      case measure => simp [intOf]; omega
                    | false =>
                      have hC : ((C i : Int) == (C j : Int)) = false := by rw [beq_eq_false_iff_ne]; exact fun h => by cases hbs.2 (hiff.1 (Int.ofNat_inj.1 h))
                      clear hiff hbs
                      go_upto_region 20 with fail
                      go_quiet (fail)
                      go_wp2_with fail
                      go_roundw
                      case rel => exact ⟨j + 1, by go_num, by omega, by first | exact below_drewN HB7.out _ | exact below_drewN (below_drewN HB7.out _) _⟩
                      case measure => simp [intOf]; omega
                · obtain rfl : i = j := by omega
                  have e0 := keep_cell hbj.out e0c.out
                  go_wp2_with fail
                  go_roundw
                  case rel => exact ⟨i + 1, by go_num, by omega, hbj⟩
                  case measure => simp [intOf]; omega
            · obtain rfl : n = i := by omega
              go_wp2_with fail
              go_roundw
              case rel => exact ⟨k + 1, by go_num, by omega, below_then HBk.out hbi.out (Nat.le_refl _)⟩
              case measure => simp [intOf]; omega
      · obtain rfl : k = 3 := by omega
        go_wp2_with (go_at_call 11; refine (wakes11 _).mono ?_; rintro e w5 ⟨rfl, hb5⟩)
        go_ret
        exact ⟨rfl, by rw [HW.out]; exact below_then HB3.out (below_then hbel.out hb5 (Nat.le_refl _)) (Nat.le_of_eq HW.out.symm)⟩
  · have HM := Lib.hid hmay
    clear hmay
    go_wp2_with (first
      | (go_at_call 23; refine (may23_is false a n cap F w1 HL1.out (by simpa using HM.out)).mono ?_; rintro e w2 ⟨rfl, hb2⟩)
      | (go_at_call 11; refine (wakes11 _).mono ?_; rintro e w3 ⟨rfl, hb3⟩))
    go_ret
    exact ⟨rfl, by rw [HW.out]; exact below_then (below_then HB1.out hb2 (Nat.le_of_eq HW.out.symm)) hb3 (Nat.le_of_eq HW.out.symm)⟩
end Go.Proofs.Ytfniekdohidbiaa
