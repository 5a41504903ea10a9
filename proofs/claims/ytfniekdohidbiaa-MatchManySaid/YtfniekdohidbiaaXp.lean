/- The reference's Classes, walked. Conditions: the bounds that each theorem names. -/
import Derived.Test.YtfniekdohidbiaaXo
import Derived.Deep.RegionLaw
namespace Go.Proofs.Ytfniekdohidbiaa
open Go.RowKit Go.Bm Fl Go.FlW
set_option maxHeartbeats 4000000 in
set_option maxRecDepth 100000 in
theorem classes14 (a : Option Addr) (n cap t : Nat) (F : Nat → Bmp) (w : World) (hL : IsBms w a n cap F) (hn : n ≤ 1048576) (ht : tolOk t = true) (hok : ∀ i, i < n → (F i).ok ∧ (F i).n ≤ 10000)
    (hroom : ∀ i, i < n → hit F t (clsOf F t i).2 i = none → (clsOf F t i).2.length < 4096) :
    Calls Try.prog 14 #[.slice a n cap, .float .f64 t] w fun e w' => ∃ pc cc pr cr R, e = .returned (.tuple #[.agg #[.slice pc n cc, .slice pr (clsOf F t n).2.length cr], .int .i64 0]) ∧
      w'.ownsRow w.heap.size 3 1 (.slice pc n cc) n (numsL (clsOf F t n).1) ∧ LieBms w' w.heap.size (.slice pr (clsOf F t n).2.length cr) (clsOf F t n).2.length R ∧ (∀ k, k < (clsOf F t n).2.length → (R k).like (F (clsOf F t n).2[k]!)) ∧ Below w.heap.size w w' := by
  obtain ⟨i0, hi, hz0, hz1, hz2⟩ := info_parts infoI
  obtain ⟨j0, hj, hy0, hy1, hy2⟩ := info_parts infoB
  have HL := Lib.hid hL
  have HOK := Lib.hid hok
  have HROOM := Lib.hid hroom
  have HT := Lib.hid ht
  clear hL hok hroom
  go_enter Try.func14, Try.ntmps14
  go_upto_region 1 with fail
  have h4 : (w.alloc (.cells #[.slice none 0 0, .slice none 0 0] 33)).heap[w.heap.size]? = some (.cells #[.slice none 0 0, .slice none 0 0] 33 (0, 0)) := heap_alloc_new w _
  have hs4 : (w.alloc (.cells #[.slice none 0 0, .slice none 0 0] 33)).heap.size = w.heap.size + 1 := by simp
  have hb4 : Below w.heap.size w (w.alloc (.cells #[.slice none 0 0, .slice none 0 0] 33)) := (Below.refl _ w).alloc (Nat.le_refl _) _
  obtain ⟨b4, hb4e⟩ : ∃ b4, w.heap.size = b4 := ⟨_, rfl⟩
  rw [hb4e] at h4 hs4 hb4 ⊢
  have HW0 := Lib.hid hb4e
  clear hb4e
  generalize w.alloc (.cells #[.slice none 0 0, .slice none 0 0] 33) = w2 at *
  have HS4 := Lib.hid hs4
  have H4 := Lib.hid h4
  have HB4 := Lib.hid hb4
  clear hs4 h4 hb4
  go_wp2_with (go_at_call 25; refine (fits25 t _).mono ?_; rw [ht]; rintro e w' ⟨rfl, rfl⟩)
  clear ht
  go_loopw [6] (fun i wr => ∃ k : Nat, k ≤ n ∧ i = .int .i64 k ∧ Hid (Below w2.heap.size w2 wr)) (fun i _ => n - (intOf i).toNat)
  case atStart => exact ⟨0, Nat.zero_le _, rfl, Below.refl _ _⟩
  case round =>
    obtain ⟨k, hk, rfl, hbel⟩ := hrel
    have HLw := Lib.hid (HL.out.below (by rw [HW0.out]; exact below_then HB4.out hbel.out (Nat.le_of_eq HW0.out.symm)))
    by_cases hlt : k < n
    · rcases HLw.out with h0 | ⟨b1, o1, rfl, l1, l2, l3, hc1⟩
      · omega
      · obtain ⟨q0, q1, q2, q3⟩ := hc1 k hlt
        have Q3 := Lib.hid q3
        have HO := HOK.out k hlt
        have HO1 := Lib.hid HO
        clear hc1 q3 HO
        go_wp2_with (go_at_call 29; refine (Bmp.may (F k) true _ Q3.out (by simpa using HO1.out.1)).mono ?_; rintro e w4 ⟨rfl, hbel2⟩)
        go_roundw
        case rel => exact ⟨k + 1, by omega, by go_num, below_then hbel.out hbel2 (Nat.le_refl _)⟩
        case measure => simp [intOf]; omega
    · obtain rfl : n = k := by omega
      have hb3 := below_then HB4.out hbel.out (Nat.le_of_eq HW0.out.symm)
      have h4 := (hbel.out.block b4 (by have := HS4.out; omega)).trans H4.out
      have hsz := hbel.out.size
      have HB3 := Lib.hid hb3
      have H4 := Lib.hid h4
      have HSZ := Lib.hid hsz
      clear hbel h4 hsz hb3
      go_upto_region 9 with fail
      have h7 : (wr.alloc (.cells #[.slice none 0 0, .slice none 0 0] 33)).heap[wr.heap.size]? = some (.cells #[.slice none 0 0, .slice none 0 0] 33 (0, 0)) := heap_alloc_new wr _
      have hs7 : (wr.alloc (.cells #[.slice none 0 0, .slice none 0 0] 33)).heap.size = wr.heap.size + 1 := by simp
      have hb7 : Below wr.heap.size wr (wr.alloc (.cells #[.slice none 0 0, .slice none 0 0] 33)) := (Below.refl _ wr).alloc (Nat.le_refl _) _
      obtain ⟨b7, hb7e⟩ : ∃ b7, wr.heap.size = b7 := ⟨_, rfl⟩
      rw [hb7e] at h7 hs7 hb7 HSZ ⊢
      have hci : RI w (b7 + 1) b4 b7 [] 0 F (.slice none 0 0) (.slice none 0 0) (wr.alloc (.cells #[.slice none 0 0, .slice none 0 0] 33)) := by
        have e2 := HSZ.out
        have e3 := HS4.out
        have e5 := HW0.out
        refine ⟨(Below.heap_alloc _ _ _ (by omega)).trans H4.out, h7, World.ownsRow_nil _ _ _ _, LieBms.nil _ _ _, ?_, ⟨by omega, by omega, by omega⟩, ⟨by omega, by omega⟩, by omega⟩
        rw [e5]; exact HB3.out.alloc (by omega) _
      have HCI := Lib.hid hci
      clear hci hb7e hb7 h7 hs7
      generalize wr.alloc (.cells #[.slice none 0 0, .slice none 0 0] 33) = w4 at *
      clear H4 HS4 HB3 HSZ HB4
      obtain ⟨base, hbase⟩ : ∃ base, b7 + 1 = base := ⟨_, rfl⟩
      rw [hbase] at HCI
      clear hbase
      go_wp2_with fail
      generalize wr = wold at *
      go_loopw [8] (fun i wr => ∃ k : Nat, k ≤ n ∧ i = .int .i64 k ∧ ∃ pc cc pr cr R, Hid (RI w base b4 b7 (clsOf F t k).1 (clsOf F t k).2.length R (.slice pc k cc) (.slice pr (clsOf F t k).2.length cr) wr) ∧ Hid (∀ j, j < (clsOf F t k).2.length → (R j).like (F (clsOf F t k).2[j]!))) (fun i _ => n - (intOf i).toNat)
      case atStart => exact ⟨0, Nat.zero_le _, rfl, none, 0, none, 0, F, HCI, fun j h => absurd h (Nat.not_lt_zero _)⟩
      case round =>
        obtain ⟨k, hk, rfl, pc, cc, pr, cr, R, hci, hlike⟩ := hrel
        by_cases hlt : k < n
        · obtain ⟨cls, hcls⟩ : ∃ cls, (clsOf F t k).1 = cls := ⟨_, rfl⟩
          obtain ⟨reps, hreps⟩ : ∃ reps, (clsOf F t k).2 = reps := ⟨_, rfl⟩
          have hcl : cls.length = k := by rw [← hcls]; exact clsOf_len F t k
          have hrl : reps.length ≤ k := by rw [← hreps]; exact (clsOf_reps F t k).1
          have hokr : ∀ j, j < reps.length → (F reps[j]!).ok ∧ (F reps[j]!).n ≤ 10000 := fun j hj => by
            rw [← hreps] at hj ⊢
            exact HOK.out _ (Nat.lt_trans (reps_lt F t k j hj) hlt)
          have hrm := HROOM.out k hlt
          have HST : Hid (clsOf F t (k + 1) = stepC F t (cls, reps) k) := by
            show stepC F t (clsOf F t k) k = _
            rw [← hcls, ← hreps]
          rw [hcls, hreps] at hci
          rw [hreps] at hlike hrm
          have HOKR := Lib.hid hokr
          have HRM := Lib.hid hrm
          have HCL := Lib.hid hcl
          clear hcls hreps hokr hrm hcl
          rcases HL.out with h0 | ⟨b1, o1, rfl, l1, l2, l3, hc1⟩
          · omega
          obtain ⟨q0, q1, q2, q3⟩ := hc1 k hlt
          have HQ : Hid (w.cell? ⟨b1, o1 + k * 3, none⟩ = some (.int .i64 (F k).W) ∧ w.cell? ⟨b1, o1 + k * 3 + 1, none⟩ = some (.int .i64 (F k).H) ∧ w.cell? ⟨b1, o1 + k * 3 + 2, none⟩ = some (.slice (F k).a (F k).n (F k).cap)) := ⟨q0, q1, q2⟩
          have HQ3 := Lib.hid q3
          have HO := Lib.hid (HOK.out k hlt)
          obtain ⟨mm, hmm⟩ : ∃ mm, reps.length = mm := ⟨_, rfl⟩
          rw [hmm] at hci hlike hrl HOKR HRM
          have HMM := Lib.hid hmm
          clear hc1 q0 q1 q2 q3 hmm
          go_wp2_with fail
          generalize wr = wo at *
          go_loopw [9, 10] (fun at_ j wy => ∃ (i : Nat) (q : Option Nat), i ≤ mm ∧ j = .int .i64 i ∧ at_ = .int .i64 (idxI q) ∧ Hid ((q = none ∧ ∀ x, x < i → nearB (F reps[x]!) (F k) t = false) ∨ (∃ x, q = some x ∧ hit F t reps k = some x)) ∧ Hid (Below wo.heap.size wo wy)) (fun _ j _ => mm - (intOf j).toNat)
          case atStart => exact ⟨0, none, Nat.zero_le _, rfl, rfl, Or.inl ⟨rfl, fun x hx => absurd hx (Nat.not_lt_zero _)⟩, Below.refl _ _⟩
          case round =>
            obtain ⟨i, q, hi1, rfl, rfl, hq, hb2⟩ := hrel
            have HCI2 := Lib.hid (hci.out.below hb2.out)
            rcases hq.out with ⟨rfl, hno⟩ | ⟨x, rfl, hhit⟩
            · have HNO := Lib.hid hno
              clear hno hq
              by_cases hlt2 : i < mm
              · obtain ⟨Gb, cr', e1, _, _, _, _, hcells⟩ := HCI2.out.rp.cells (by omega)
                simp only [Value.slice.injEq, true_and] at e1
                obtain ⟨rfl, rfl⟩ := e1
                obtain ⟨y0, y1, y2⟩ := hcells i hlt2
                have hlk := hlike.out i hlt2
                obtain ⟨fo, fn⟩ := HOKR.out i hlt2
                have hnb := nearB_like (t := t) hlk (show (F k).like (F k) from ⟨rfl, rfl, rfl, rfl⟩)
                have m1 : wr.cell? ⟨b7, 1, none⟩ = some (.slice (some ⟨Gb, 0, none⟩) mm cr) := by rw [Joins.cell_of_block HCI2.out.k7]; rfl
                obtain ⟨q0, q1, q2⟩ := HQ.out
                have q0 := (HCI2.out.bl.cell (p := ⟨b1, o1 + k * 3, none⟩) l3).trans q0
                have q1 := (HCI2.out.bl.cell (p := ⟨b1, o1 + k * 3 + 1, none⟩) l3).trans q1
                have q2 := (HCI2.out.bl.cell (p := ⟨b1, o1 + k * 3 + 2, none⟩) l3).trans q2
                have hu := fun (W : World) (hb : Below wr.heap.size wr W) (hW : (R i).W = (F k).W) (hH : (R i).H = (F k).H) => Bmp.unlikeRef (R i) (F k) W ((HCI2.out.rp.2 i hlt2).words.below hb) ((HQ3.out.below HCI2.out.bl).below hb) (hlk.ok fo) HO.out.1 hW hH (by rw [hlk.2.2.1]; exact fn)
                have HU := Lib.hid hu
                have HNBL := Lib.hid hnb
                clear hcells hu hnb hlk fo fn
                by_cases hW : (R i).W = (F k).W
                · by_cases hH : (R i).H = (F k).H
                  · rw [hW] at y0
                    rw [hH] at y1
                    have hu := fun (W : World) (hb : Below wr.heap.size wr W) => HU.out W hb hW hH
                    rw [hW, hH] at hu
                    have HU := Lib.hid hu
                    have hnear : nearB (F reps[i]!) (F k) t = leqB (R i) (F k) t := by
                      rw [← HNBL.out]
                      unfold nearB sizeB
                      rw [decide_eq_true ⟨hW, hH⟩, Bool.true_and]
                    have HNR := Lib.hid hnear
                    clear hu hnear hW hH
                    cases hlq : leqB (R i) (F k) t
                    · have HNB : Hid (nearB (F reps[i]!) (F k) t = false) := HNR.out.trans hlq
                      go_upto_region 16 with fail
                      go_region_held3 (fun w' => w'.cell? ⟨b7, 1, none⟩ = some (.slice (some ⟨Gb, 0, none⟩) mm cr) ∧ w'.cell? ⟨Gb, i * 3, none⟩ = some (.int .i64 (F k).W) ∧ w'.cell? ⟨Gb, i * 3 + 1, none⟩ = some (.int .i64 (F k).H) ∧ w'.cell? ⟨Gb, i * 3 + 2, none⟩ = some (.slice (R i).a (R i).n (R i).cap) ∧
                          w'.cell? ⟨b1, o1 + k * 3, none⟩ = some (.int .i64 (F k).W) ∧ w'.cell? ⟨b1, o1 + k * 3 + 1, none⟩ = some (.int .i64 (F k).H) ∧ w'.cell? ⟨b1, o1 + k * 3 + 2, none⟩ = some (.slice (F k).a (F k).n (F k).cap)) (go_keep)
                        ((go_at_call 30; refine (HU.out _ ?_).mono ?_; (first | exact Below.refl _ _ | exact Below.drew (Below.refl _ _) | exact below_drewN (Below.refl _ _) _); rintro e w3 ⟨r, rfl, hr, hb3⟩; have hle := (leB_order r t).trans ((hr t).trans hlq); have z1 := keep_cell hb3 (p := ⟨b7, 1, none⟩) (v := .slice (some ⟨Gb, 0, none⟩) mm cr) (by assumption); have y0 := keep_cell hb3 (p := ⟨Gb, i * 3, none⟩) (v := .int .i64 (F k).W) (by assumption); have y1 := keep_cell hb3 (p := ⟨Gb, i * 3 + 1, none⟩) (v := .int .i64 (F k).H) (by assumption); have y2 := keep_cell hb3 (p := ⟨Gb, i * 3 + 2, none⟩) (v := .slice (R i).a (R i).n (R i).cap) (by assumption); have y3 := keep_cell hb3 (p := ⟨b1, o1 + k * 3, none⟩) (v := .int .i64 (F k).W) (by assumption); have y4 := keep_cell hb3 (p := ⟨b1, o1 + k * 3 + 1, none⟩) (v := .int .i64 (F k).H) (by assumption); have y5 := keep_cell hb3 (p := ⟨b1, o1 + k * 3 + 2, none⟩) (v := .slice (F k).a (F k).n (F k).cap) (by assumption)))
                      have HB3 := Lib.hid (below_then hb2.out (below_then (Below.drew (Below.refl _ _)) hb3 (Nat.le_refl _)) (Nat.le_refl _))
                      clear hr hb3 y0 y1 y2 y3 y4 y5 z1
                      have HBX := HB3
                      go_wp2_with fail
                      go_roundw
                      case rel => exact ⟨i + 1, none, by omega, by go_num, rfl, Or.inl ⟨rfl, fun x hx => by
                        by_cases e : x = i
                        · subst e; exact HNB.out
                        · exact HNO.out x (by omega)⟩, HBX⟩
                      case measure => simp [intOf]; omega
                    · have HNB : Hid (nearB (F reps[i]!) (F k) t = true) := HNR.out.trans hlq
                      go_upto_region 16 with fail
                      go_region_held3 (fun w' => w'.cell? ⟨b7, 1, none⟩ = some (.slice (some ⟨Gb, 0, none⟩) mm cr) ∧ w'.cell? ⟨Gb, i * 3, none⟩ = some (.int .i64 (F k).W) ∧ w'.cell? ⟨Gb, i * 3 + 1, none⟩ = some (.int .i64 (F k).H) ∧ w'.cell? ⟨Gb, i * 3 + 2, none⟩ = some (.slice (R i).a (R i).n (R i).cap) ∧
                          w'.cell? ⟨b1, o1 + k * 3, none⟩ = some (.int .i64 (F k).W) ∧ w'.cell? ⟨b1, o1 + k * 3 + 1, none⟩ = some (.int .i64 (F k).H) ∧ w'.cell? ⟨b1, o1 + k * 3 + 2, none⟩ = some (.slice (F k).a (F k).n (F k).cap)) (go_keep)
                        ((go_at_call 30; refine (HU.out _ ?_).mono ?_; (first | exact Below.refl _ _ | exact Below.drew (Below.refl _ _) | exact below_drewN (Below.refl _ _) _); rintro e w3 ⟨r, rfl, hr, hb3⟩; have hle := (leB_order r t).trans ((hr t).trans hlq); have z1 := keep_cell hb3 (p := ⟨b7, 1, none⟩) (v := .slice (some ⟨Gb, 0, none⟩) mm cr) (by assumption); have y0 := keep_cell hb3 (p := ⟨Gb, i * 3, none⟩) (v := .int .i64 (F k).W) (by assumption); have y1 := keep_cell hb3 (p := ⟨Gb, i * 3 + 1, none⟩) (v := .int .i64 (F k).H) (by assumption); have y2 := keep_cell hb3 (p := ⟨Gb, i * 3 + 2, none⟩) (v := .slice (R i).a (R i).n (R i).cap) (by assumption); have y3 := keep_cell hb3 (p := ⟨b1, o1 + k * 3, none⟩) (v := .int .i64 (F k).W) (by assumption); have y4 := keep_cell hb3 (p := ⟨b1, o1 + k * 3 + 1, none⟩) (v := .int .i64 (F k).H) (by assumption); have y5 := keep_cell hb3 (p := ⟨b1, o1 + k * 3 + 2, none⟩) (v := .slice (F k).a (F k).n (F k).cap) (by assumption)))
                      have HB3 := Lib.hid (below_then hb2.out (below_then (Below.drew (Below.refl _ _)) hb3 (Nat.le_refl _)) (Nat.le_refl _))
                      clear hr hb3 y0 y1 y2 y3 y4 y5 z1
                      go_wp2_with fail
                      go_roundw
                      case rel => exact ⟨i + 1, some i, by omega, by go_num, rfl, Or.inr ⟨i, rfl, find_of (by rw [HMM.out]; exact hlt2) HNB.out (fun x hx => HNO.out x hx)⟩, HB3⟩
                      case measure => simp [intOf]; omega
                  · have HNB : Hid (nearB (F reps[i]!) (F k) t = false) := by
                      show _ = _
                      rw [← HNBL.out]
                      unfold nearB sizeB
                      rw [decide_eq_false (fun h => hH h.2), Bool.false_and]
                    rw [hW] at y0
                    have hq1 : ((R i).H == (F k).H) = false := by simpa using hH
                    clear hW hH
                    go_upto_region 16 with fail
                    go_quiet (fail)
                    have HBX : Hid (Below wo.heap.size wo (wr.drewN nq)) := below_drewN hb2.out nq
                    go_wp2_with fail
                    go_roundw
                    case rel => exact ⟨i + 1, none, by omega, by go_num, rfl, Or.inl ⟨rfl, fun x hx => by
                      by_cases e : x = i
                      · subst e; exact HNB.out
                      · exact HNO.out x (by omega)⟩, HBX⟩
                    case measure => simp [intOf]; omega
                · have HNB : Hid (nearB (F reps[i]!) (F k) t = false) := by
                    show _ = _
                    rw [← HNBL.out]
                    unfold nearB sizeB
                    rw [decide_eq_false (fun h => hW h.1), Bool.false_and]
                  have hq1 : ((R i).W == (F k).W) = false := by simpa using hW
                  clear hW
                  go_upto_region 16 with fail
                  go_quiet (fail)
                  have HBX : Hid (Below wo.heap.size wo (wr.drewN nq)) := below_drewN hb2.out nq
                  go_wp2_with fail
                  go_roundw
                  case rel => exact ⟨i + 1, none, by omega, by go_num, rfl, Or.inl ⟨rfl, fun x hx => by
                    by_cases e : x = i
                    · subst e; exact HNB.out
                    · exact HNO.out x (by omega)⟩, HBX⟩
                  case measure => simp [intOf]; omega
              · obtain rfl : mm = i := by omega
                have hnone : hit F t reps k = none := find_none (fun j hj => HNO.out j (by rw [← HMM.out]; exact hj))
                have hrl2 := HRM.out hnone
                have HSTEP : Hid (clsOf F t (k + 1) = (cls ++ [mm], reps ++ [k])) := by
                  refine HST.out.trans ?_
                  show (match hit F t reps k with | some k => (cls ++ [k], reps) | none => (cls ++ [reps.length], reps ++ [k])) = _
                  rw [hnone, HMM.out]
                have he : idxI none = -1 := rfl
                rw [he]
                have hm4 : ((mm : Int) == 4096) = false := by simp; omega
                have m1 : wr.cell? ⟨b7, 1, none⟩ = some (.slice pr mm cr) := by rw [Joins.cell_of_block HCI2.out.k7]; rfl
                obtain ⟨q0, q1, q2⟩ := HQ.out
                have q0 := (HCI2.out.bl.cell (p := ⟨b1, o1 + k * 3, none⟩) l3).trans q0
                have q1 := (HCI2.out.bl.cell (p := ⟨b1, o1 + k * 3 + 1, none⟩) l3).trans q1
                have q2 := (HCI2.out.bl.cell (p := ⟨b1, o1 + k * 3 + 2, none⟩) l3).trans q2
                clear hnone he
                go_upto_region 22 with fail
                have HW9 : Hid (∀ W, Below wr.heap.size wr W → IsWords W (F k).a (F k).n (F k).cap (F k).B) := fun W hb => (HQ3.out.below HCI2.out.bl).below hb
                have HPL : Hid ((F k).n ≤ 17179869184) := Nat.le_trans HO.out.2 (by omega)
                have hbs : base ≤ wr.heap.size := HCI2.out.lt.2.2
                have hn7 : some b7 ≠ (Value.slice pr mm cr).ownBlock := fun e => by have := (HCI2.out.rp.1.lt b7 e.symm).1; have := HCI2.out.lt.2.1; omega
                have HN7R := Lib.hid hn7
                clear hn7
                go_region_law (first
                  | (go_simp; go_at_call 28; refine (copy28 (F k) _ ?_ HPL.out).mono ?_; (first | exact HW9.out _ (Below.refl _ _) | exact HW9.out _ (Below.drew (Below.refl _ _))); rintro e w10 ⟨fb, rfl, hlk, hob, hb10⟩; (have hb910 : Below wr.heap.size wr w10 := (by first | exact hb10 | exact below_then (Below.drew (Below.refl _ _)) hb10 (Nat.le_refl _))); (have HCIC := Lib.hid ((HCI2.out.below hb910).below ((Below.refl _ w10).alloc (Nat.le_refl _) (.cells #[.int .i64 fb.W, .int .i64 fb.H, .slice fb.a fb.n fb.cap] 48)))); (have HOBC := Lib.hid ((hob.base hbs).below ((Below.refl _ w10).alloc (Nat.le_refl _) (.cells #[.int .i64 fb.W, .int .i64 fb.H, .slice fb.a fb.n fb.cap] 48)))); (have HLK := Lib.hid hlk); (have y1 : w10.cell? ⟨b7, 1, none⟩ = some (.slice pr mm cr) := keep_cell hb910 m1); (have y2 : (w10.alloc (.cells #[.int .i64 fb.W, .int .i64 fb.H, .slice fb.a fb.n fb.cap] 48)).cell? ⟨b7, 1, none⟩ = some (.slice pr mm cr) := (by rw [Joins.cell_of_block HCIC.out.k7]; rfl)); clear hob hb10 hb910 hlk)
                  | (refine step_append_own (by rfl) _ _ 22 (by rfl) base 48 j0 _ 3 40 Try.underlying22 hj hy0 hy1 hy2 rfl (by decide) (.slice pr mm cr) mm (cellsB R mm) (by rfl) HCIC.out.rp.1 ⟨w10.heap.size, 0, none⟩ 1 1 fb.vals.toList (by rfl) rfl (World.news_of_block (cs := fb.vals) (t := 48) (fr := (0, 0)) (heap_alloc_new w10 _)) (cellsB_one (fun _ => fb) 0) (by unfold maxLen; omega) (by omega) HCIC.out.lt.2.2 ?_; intro p11 c11 w11 hown11 hgrow11 hloc11; have k7' := grown_block_lt hgrow11 HCIC.out.k7 HN7R.out; have z1 : w11.cell? ⟨b7, 1, none⟩ = some (.slice pr mm cr) := (by rw [Joins.cell_of_block k7']; rfl); have zf : w11.frozen? ⟨b7, 1, none⟩ = false := Joins.unfrozen_of_block k7' _))
                all_goals
                  have HCID := Lib.hid (HCIC.out.addr HOBC.out hgrow11 hown11)
                  clear hgrow11 hown11 hloc11 k7' z1 zf y1 y2 HCIC HOBC hbs m1 q0 q1 q2 HCI2 HW9
                  generalize w11.setCell ⟨b7, 1, none⟩ (.slice p11 (mm + 1) c11) = w12 at *
                  go_upto_region 23 with fail
                  have m0 : w12.cell? ⟨b7, 0, none⟩ = some (.slice pc k cc) := by rw [Joins.cell_of_block HCID.out.k7]; rfl
                  have hbA : Below w12.heap.size w12 (w12.alloc (.cells #[.int .i64 (mm : Int)] 3)) := (Below.refl _ _).alloc (Nat.le_refl _) _
                  have HXB := Lib.hid (HCID.out.below hbA)
                  have hclB := HXB.out.cl
                  rw [HCL.out] at hclB
                  have HCLB := Lib.hid hclB
                  have hbs : base ≤ w12.heap.size := HCID.out.lt.2.2
                  have hn7 : some b7 ≠ (Value.slice pc k cc).ownBlock := fun e => by have := (HCID.out.cl.lt b7 e.symm).1; have := HCID.out.lt.2.1; omega
                  have HN7 := Lib.hid hn7
                  clear hbA hclB hn7
                  go_wp2_with (at_builtin; go_loud (refine wpList_append_own_at _ rfl _ _ 31 rfl base 3 i0 (.int .i64 0) 1 8 Try.underlying31 hi hz0 hz1 hz2 rfl (by decide) (.slice pc k cc) k (numsL cls) rfl HCLB.out ⟨w12.heap.size, 0, none⟩ 1 1 [.int .i64 (mm : Nat)] rfl rfl (World.news_of_block (cs := #[.int .i64 (mm : Nat)]) (t := 3) (fr := (0, 0)) (heap_alloc_new w12 _)) (by intro u hu; simp at hu; subst hu; rfl) (by unfold maxLen; omega) (by omega) (by simp; omega) ?_; intro v8 w8 hown8 hgrow8 _ hloc8; obtain ⟨p8, c8, rfl, _⟩ := ownsRow_slice hown8; have k7' := grown_block_lt hgrow8 HXB.out.k7 HN7.out; have z0 : w8.cell? ⟨b7, 0, none⟩ = some (.slice pc k cc) := (by rw [Joins.cell_of_block k7']; rfl); have zf : w8.frozen? ⟨b7, 0, none⟩ = false := Joins.unfrozen_of_block k7' _))
                  have HX8 := Lib.hid (HXB.out.addc hgrow8 (by rw [HCL.out, numsL_snoc]; exact hown8))
                  clear hown8 hgrow8 hloc8 k7' z0 zf HXB HCLB
                  go_roundw
                  case rel =>
                    refine ⟨k + 1, by omega, by go_num, p8, c8, p11, c11, (fun j => if j = mm then fb else R j), ?_, ?_⟩
                    · rw [HSTEP.out]
                      show Hid (RI w base b4 b7 (cls ++ [mm]) (reps ++ [k]).length _ (.slice p8 (k + 1) c8) (.slice p11 (reps ++ [k]).length c11) _)
                      have hlen : (reps ++ [k]).length = mm + 1 := by rw [List.length_append, HMM.out]; rfl
                      rw [hlen]
                      exact HX8
                    · rw [HSTEP.out]
                      have hls := like_snoc (R := R) (F := F) (fb := fb) (reps := reps) (k := k) (by rw [HMM.out]; exact hlike.out) HLK.out
                      rw [HMM.out] at hls
                      exact hls
                  case measure => simp [intOf]; omega
            · have hxm : x < mm := by rw [← HMM.out]; exact (find_some hhit).1
              by_cases hlt2 : i < mm
              · have HSTEP : Hid (clsOf F t (k + 1) = (cls ++ [x], reps)) := by
                  refine HST.out.trans ?_
                  show (match hit F t reps k with | some k => (cls ++ [k], reps) | none => (cls ++ [reps.length], reps ++ [k])) = _
                  rw [hhit]
                have he : idxI (some x) = (x : Int) := rfl
                rw [he]
                have hx0 : ¬ (x : Int) < 0 := by omega
                have m1 : wr.cell? ⟨b7, 1, none⟩ = some (.slice pr mm cr) := by rw [Joins.cell_of_block HCI2.out.k7]; rfl
                clear hq hhit he
                go_upto_region 23 with fail
                have m0 : wr.cell? ⟨b7, 0, none⟩ = some (.slice pc k cc) := by rw [Joins.cell_of_block HCI2.out.k7]; rfl
                have hbA : Below wr.heap.size wr (wr.alloc (.cells #[.int .i64 (x : Int)] 3)) := (Below.refl _ _).alloc (Nat.le_refl _) _
                have HXB := Lib.hid (HCI2.out.below hbA)
                have hclB := HXB.out.cl
                rw [HCL.out] at hclB
                have HCLB := Lib.hid hclB
                have hbs : base ≤ wr.heap.size := HCI2.out.lt.2.2
                have hn7 : some b7 ≠ (Value.slice pc k cc).ownBlock := fun e => by have := (HCI2.out.cl.lt b7 e.symm).1; have := HCI2.out.lt.2.1; omega
                have HN7 := Lib.hid hn7
                clear hbA hclB hn7
                go_wp2_with (at_builtin; go_loud (refine wpList_append_own_at _ rfl _ _ 31 rfl base 3 i0 (.int .i64 0) 1 8 Try.underlying31 hi hz0 hz1 hz2 rfl (by decide) (.slice pc k cc) k (numsL cls) rfl HCLB.out ⟨wr.heap.size, 0, none⟩ 1 1 [.int .i64 (x : Nat)] rfl rfl (World.news_of_block (cs := #[.int .i64 (x : Nat)]) (t := 3) (fr := (0, 0)) (heap_alloc_new wr _)) (by intro u hu; simp at hu; subst hu; rfl) (by unfold maxLen; omega) (by omega) (by simp; omega) ?_; intro v8 w8 hown8 hgrow8 _ hloc8; obtain ⟨p8, c8, rfl, _⟩ := ownsRow_slice hown8; have k7' := grown_block_lt hgrow8 HXB.out.k7 HN7.out; have z0 : w8.cell? ⟨b7, 0, none⟩ = some (.slice pc k cc) := (by rw [Joins.cell_of_block k7']; rfl); have zf : w8.frozen? ⟨b7, 0, none⟩ = false := Joins.unfrozen_of_block k7' _))
                have HX8 := Lib.hid (HXB.out.addc hgrow8 (by rw [HCL.out, numsL_snoc]; exact hown8))
                clear hown8 hgrow8 hloc8 k7' z0 zf HXB HCLB
                go_roundw
                case rel =>
                  refine ⟨k + 1, by omega, by go_num, p8, c8, pr, cr, R, ?_, ?_⟩
                  · rw [HSTEP.out]
                    show Hid (RI w base b4 b7 (cls ++ [x]) reps.length R (.slice p8 (k + 1) c8) (.slice pr reps.length cr) _)
                    rw [HMM.out]
                    exact HX8
                  · rw [HSTEP.out]
                    show Hid (∀ j, j < reps.length → (R j).like (F reps[j]!))
                    rw [HMM.out]
                    exact hlike
                case measure => simp [intOf]; omega
              · have HSTEP : Hid (clsOf F t (k + 1) = (cls ++ [x], reps)) := by
                  refine HST.out.trans ?_
                  show (match hit F t reps k with | some k => (cls ++ [k], reps) | none => (cls ++ [reps.length], reps ++ [k])) = _
                  rw [hhit]
                have he : idxI (some x) = (x : Int) := rfl
                rw [he]
                have hx0 : ¬ (x : Int) < 0 := by omega
                have m1 : wr.cell? ⟨b7, 1, none⟩ = some (.slice pr mm cr) := by rw [Joins.cell_of_block HCI2.out.k7]; rfl
                clear hq hhit he
                go_upto_region 23 with fail
                have m0 : wr.cell? ⟨b7, 0, none⟩ = some (.slice pc k cc) := by rw [Joins.cell_of_block HCI2.out.k7]; rfl
                have hbA : Below wr.heap.size wr (wr.alloc (.cells #[.int .i64 (x : Int)] 3)) := (Below.refl _ _).alloc (Nat.le_refl _) _
                have HXB := Lib.hid (HCI2.out.below hbA)
                have hclB := HXB.out.cl
                rw [HCL.out] at hclB
                have HCLB := Lib.hid hclB
                have hbs : base ≤ wr.heap.size := HCI2.out.lt.2.2
                have hn7 : some b7 ≠ (Value.slice pc k cc).ownBlock := fun e => by have := (HCI2.out.cl.lt b7 e.symm).1; have := HCI2.out.lt.2.1; omega
                have HN7 := Lib.hid hn7
                clear hbA hclB hn7
                go_wp2_with (at_builtin; go_loud (refine wpList_append_own_at _ rfl _ _ 31 rfl base 3 i0 (.int .i64 0) 1 8 Try.underlying31 hi hz0 hz1 hz2 rfl (by decide) (.slice pc k cc) k (numsL cls) rfl HCLB.out ⟨wr.heap.size, 0, none⟩ 1 1 [.int .i64 (x : Nat)] rfl rfl (World.news_of_block (cs := #[.int .i64 (x : Nat)]) (t := 3) (fr := (0, 0)) (heap_alloc_new wr _)) (by intro u hu; simp at hu; subst hu; rfl) (by unfold maxLen; omega) (by omega) (by simp; omega) ?_; intro v8 w8 hown8 hgrow8 _ hloc8; obtain ⟨p8, c8, rfl, _⟩ := ownsRow_slice hown8; have k7' := grown_block_lt hgrow8 HXB.out.k7 HN7.out; have z0 : w8.cell? ⟨b7, 0, none⟩ = some (.slice pc k cc) := (by rw [Joins.cell_of_block k7']; rfl); have zf : w8.frozen? ⟨b7, 0, none⟩ = false := Joins.unfrozen_of_block k7' _))
                have HX8 := Lib.hid (HXB.out.addc hgrow8 (by rw [HCL.out, numsL_snoc]; exact hown8))
                clear hown8 hgrow8 hloc8 k7' z0 zf HXB HCLB
                go_roundw
                case rel =>
                  refine ⟨k + 1, by omega, by go_num, p8, c8, pr, cr, R, ?_, ?_⟩
                  · rw [HSTEP.out]
                    show Hid (RI w base b4 b7 (cls ++ [x]) reps.length R (.slice p8 (k + 1) c8) (.slice pr reps.length cr) _)
                    rw [HMM.out]
                    exact HX8
                  · rw [HSTEP.out]
                    show Hid (∀ j, j < reps.length → (R j).like (F reps[j]!))
                    rw [HMM.out]
                    exact hlike
                case measure => simp [intOf]; omega
        · obtain rfl : n = k := by omega
          have hcl : (clsOf F t n).1.length = n := clsOf_len F t n
          have HCL := Lib.hid hcl
          obtain ⟨mm, hmm⟩ : ∃ mm, (clsOf F t n).2.length = mm := ⟨_, rfl⟩
          rw [hmm] at hci
          have HMM := Lib.hid hmm
          clear hcl hmm
          have m0 : wr.cell? ⟨b7, 0, none⟩ = some (.slice pc n cc) := by rw [Joins.cell_of_block hci.out.k7]; rfl
          have m1 : wr.cell? ⟨b7, 1, none⟩ = some (.slice pr mm cr) := by rw [Joins.cell_of_block hci.out.k7]; rfl
          have c0 : wr.cell? ⟨b4, 0, none⟩ = some (.slice none 0 0) := by rw [Joins.cell_of_block hci.out.k4]; rfl
          have c1 : wr.cell? ⟨b4, 1, none⟩ = some (.slice none 0 0) := by rw [Joins.cell_of_block hci.out.k4]; rfl
          have f0 : wr.frozen? ⟨b4, 0, none⟩ = false := Joins.unfrozen_of_block hci.out.k4 _
          have f1 : wr.frozen? ⟨b4, 1, none⟩ = false := Joins.unfrozen_of_block hci.out.k4 _
          go_wp2_with fail
          refine bodyPost_ret (v := .tuple #[.agg #[.slice pc n cc, .slice pr mm cr], .int .i64 0]) (by simp [results, Try.results14, go_sem, c0, c1]) rfl ⟨pc, cc, pr, cr, R, by rw [HMM.out], ?_, ?_, hlike.out, ?_⟩
          · have h1 := hci.out.cl
            rw [HCL.out] at h1
            have hb := hci.out.lt
            have hg := hci.out.ge
            refine row_base ((h1.kept (grown_setCell _ _ _) (ownsRow_block_ne h1 hb.1)).kept (grown_setCell _ _ _) (ownsRow_block_ne h1 hb.1)) (show w.heap.size ≤ base by omega)
          · have hb := hci.out.lt
            have hg := hci.out.ge
            have h1 := hci.out.rp
            have h2 := (h1.kept (grown_setCell wr ⟨b4, 0, none⟩ (.slice pc n cc)) (fun g e => by cases e; exact Or.inl hb.1)).kept (grown_setCell _ ⟨b4, 1, none⟩ (.slice pr mm cr)) (fun g e => by cases e; exact Or.inl hb.1)
            rw [HMM.out]
            exact h2.mono (show w.heap.size ≤ base by omega)
          · exact (hci.out.bl.setCell hci.out.ge.1 _).setCell hci.out.ge.1 _
end Go.Proofs.Ytfniekdohidbiaa
