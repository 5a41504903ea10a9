/- Classes of package match where there are too many classes, walked. Conditions: the bounds that each theorem names. -/
import Derived.Test.YtfniekdohidbiaaXm
import Derived.Deep.RegionLaw
namespace Go.Proofs.Ytfniekdohidbiaa
open Go.RowKit Go.Bm Fl Go.FlW
set_option maxHeartbeats 4000000 in
set_option maxRecDepth 100000 in
theorem classes15_big (a : Option Addr) (n cap t s : Nat) (F : Nat → Bmp) (w : World) (hL : IsBms w a n cap F) (hn : n ≤ 1048576) (ht : tolOk t = true) (hok : ∀ i, i < n → (F i).ok ∧ (F i).n ≤ 10000) (hs : s < n)
    (hroom : ∀ i, i < s → hit F t (clsOf F t i).2 i = none → (clsOf F t i).2.length < 4096) (hfull : hit F t (clsOf F t s).2 s = none) (hfl : 4096 ≤ (clsOf F t s).2.length) :
    Calls Try.prog 15 #[.slice a n cap, .float .f64 t] w fun e w' => e = .returned (.tuple #[.agg #[.slice none 0 0, .slice none 0 0], .int .i64 120]) ∧ Below w.heap.size w w' := by
  obtain ⟨i0, hi, hz0, hz1, hz2⟩ := info_parts infoI
  obtain ⟨j0, hj, hy0, hy1, hy2⟩ := info_parts infoB
  have HL := Lib.hid hL
  have HOK := Lib.hid hok
  have HROOM := Lib.hid hroom
  have HFULL := Lib.hid (And.intro hfull hfl)
  have HT := Lib.hid ht
  clear hL hok hroom ht hfull hfl
  go_enter Try.func15, Try.ntmps15
  go_upto_region 1 with fail
  have h4 : (w.alloc (.cells #[.slice none 0 0, .slice none 0 0] 33)).heap[w.heap.size]? = some (.cells #[.slice none 0 0, .slice none 0 0] 33 (0, 0)) := heap_alloc_new w _
  have hs4 : (w.alloc (.cells #[.slice none 0 0, .slice none 0 0] 33)).heap.size = w.heap.size + 1 := by simp
  have hb4 : Below w.heap.size w (w.alloc (.cells #[.slice none 0 0, .slice none 0 0] 33)) := (Below.refl _ w).alloc (Nat.le_refl _) _
  obtain ⟨b4, hb4e⟩ : ∃ b4, w.heap.size = b4 := ⟨_, rfl⟩
  rw [hb4e] at h4 hs4 hb4 ⊢
  have HW0 := Lib.hid hb4e
  clear hb4e
  generalize w.alloc (.cells #[.slice none 0 0, .slice none 0 0] 33) = w1 at *
  have HS4 := Lib.hid hs4
  clear hs4
  have hst : ∀ (a : Addr) (x : Nat) (m : Mode) (w : World), (store a (.float .f64 x) m).run Try.prog w = stored Try.prog w a (.float .f64 x) m := fun a x m w => run_store Try.prog w a _ m rfl
  go_upto_region 2 with (go_at_call 31; refine (tol19_yes t _ HT.out).mono ?_; rintro e w' ⟨rfl, rfl⟩)
  clear hst
  have hs4 := HS4.out
  have h6 : (w1.alloc (.cells #[.float .f64 (tolVal t)] 28)).heap[w1.heap.size]? = some (.cells #[.float .f64 (tolVal t)] 28 (0, 0)) := heap_alloc_new w1 _
  have h4b : (w1.alloc (.cells #[.float .f64 (tolVal t)] 28)).heap[b4]? = some (.cells #[.slice none 0 0, .slice none 0 0] 33 (0, 0)) := (Below.heap_alloc _ _ _ (by omega)).trans h4
  have hs6 : (w1.alloc (.cells #[.float .f64 (tolVal t)] 28)).heap.size = w1.heap.size + 1 := by simp
  have hb6 : Below b4 w (w1.alloc (.cells #[.float .f64 (tolVal t)] 28)) := hb4.alloc (by omega) _
  obtain ⟨b6, hb6e⟩ : ∃ b6, w1.heap.size = b6 := ⟨_, rfl⟩
  rw [hb6e] at h6 hs6 ⊢
  have hb46 : b4 + 1 = b6 := by omega
  clear hb6e h4 hs4 hb4
  generalize w1.alloc (.cells #[.float .f64 (tolVal t)] 28) = w2 at *
  have H4 := Lib.hid h4b
  have H6 := Lib.hid h6
  have HB6 := Lib.hid hb6
  have HS6 := Lib.hid hs6
  have H46 := Lib.hid hb46
  clear h4b h6 hb6 hs6 hb46
  go_wp2_with fail
  go_loopw [27] (fun i wr => ∃ k : Nat, k ≤ n ∧ i = .int .i64 k ∧ Hid (Below w2.heap.size w2 wr)) (fun i _ => n - (intOf i).toNat)
  case atStart => exact ⟨0, Nat.zero_le _, rfl, Below.refl _ _⟩
  case round =>
    obtain ⟨k, hk, rfl, hbel⟩ := hrel
    have HLw := Lib.hid (HL.out.below (by rw [HW0.out]; exact below_then HB6.out hbel.out (Nat.le_of_eq HW0.out.symm)))
    by_cases hlt : k < n
    · rcases HLw.out with h0 | ⟨b1, o1, rfl, l1, l2, l3, hc1⟩
      · omega
      · obtain ⟨q0, q1, q2, q3⟩ := hc1 k hlt
        have Q3 := Lib.hid q3
        have HO := HOK.out k hlt
        have HO1 := Lib.hid HO
        clear hc1 q3 HO
        go_upto_region 7 with fail
        obtain ⟨c0, c1⟩ := one_cells wr #[.int .i64 (F k).W, .int .i64 (F k).H, .slice (F k).a (F k).n (F k).cap] 48
        have e0 := c0 0
        have e1 := c0 1
        have e2 := c0 2
        have HB1 := Lib.hid (hbel.out.alloc hbel.out.size (.cells #[.int .i64 (F k).W, .int .i64 (F k).H, .slice (F k).a (F k).n (F k).cap] 48))
        have Q4 := Lib.hid (Q3.out.below ((Below.refl _ wr).alloc (Nat.le_refl _) (.cells #[.int .i64 (F k).W, .int .i64 (F k).H, .slice (F k).a (F k).n (F k).cap] 48)))
        clear c0 c1 q0 q1 q2 Q3 hbel
        obtain ⟨gs, hgs⟩ : ∃ gs, wr.heap.size = gs := ⟨_, rfl⟩
        rw [hgs] at e0 e1 e2 ⊢
        clear hgs
        generalize wr.alloc (.cells #[.int .i64 (F k).W, .int .i64 (F k).H, .slice (F k).a (F k).n (F k).cap] 48) = w3 at *
        go_wp2_with (go_at_call 32; refine (Bmp.check (F k) true _ Q4.out (by simpa using HO1.out.1)).mono ?_; rintro e w4 ⟨rfl, hbel2⟩)
        go_roundw
        case rel => exact ⟨k + 1, by omega, by go_num, below_then HB1.out hbel2 (Nat.le_refl _)⟩
        case measure => simp [intOf]; omega
    · obtain rfl : n = k := by omega
      have hb3 := below_then HB6.out hbel.out (Nat.le_of_eq HW0.out.symm)
      have h4 := (hbel.out.block b4 (by have := HS6.out; have := H46.out; omega)).trans H4.out
      have h6 := (hbel.out.block b6 (by have := HS6.out; omega)).trans H6.out
      have hsz := hbel.out.size
      have HB3 := Lib.hid hb3
      have H4 := Lib.hid h4
      have H6 := Lib.hid h6
      have HSZ := Lib.hid hsz
      clear hbel h4 h6 hsz hb3
      have hmk : ∀ (W : World), (Instr.makeMap 59 none).run Try.prog W = .ok (.map (some W.heap.size)) (W.alloc (.map #[] 0)) := fun W => by
        simp [Instr.makeMap, Result.andThen]
      go_upto_region 11 with fail
      have h10 : (wr.alloc (.cells #[.slice none 0 0, .slice none 0 0] 33)).heap[wr.heap.size]? = some (.cells #[.slice none 0 0, .slice none 0 0] 33 (0, 0)) := heap_alloc_new wr _
      have hs10 : (wr.alloc (.cells #[.slice none 0 0, .slice none 0 0] 33)).heap.size = wr.heap.size + 1 := by simp
      have hb10 : Below wr.heap.size wr (wr.alloc (.cells #[.slice none 0 0, .slice none 0 0] 33)) := (Below.refl _ wr).alloc (Nat.le_refl _) _
      obtain ⟨b10, hb10e⟩ : ∃ b10, wr.heap.size = b10 := ⟨_, rfl⟩
      rw [hb10e] at h10 hs10 hb10 HSZ ⊢
      have H4 := Lib.hid ((hb10.block b4 (by have := HSZ.out; have := HS6.out; have := H46.out; omega)).trans H4.out)
      have H6 := Lib.hid ((hb10.block b6 (by have := HSZ.out; have := HS6.out; omega)).trans H6.out)
      have HB3 := Lib.hid (below_then HB3.out (by rw [hb10e]; exact hb10) (Nat.le_of_eq HW0.out.symm))
      clear hb10e hb10
      generalize wr.alloc (.cells #[.slice none 0 0, .slice none 0 0] 33) = w3 at *
      have H10 := Lib.hid h10
      have HS10 := Lib.hid hs10
      clear h10 hs10
      go_upto_region 12 with fail
      have hci : CI w (b10 + 2) b4 b6 b10 (b10 + 1) (tolVal t) [] 0 F (fun _ _ => []) (.slice none 0 0) (.slice none 0 0) (w3.alloc (.map #[] 0)) := by
        have e1 := HS10.out
        have e2 := HSZ.out
        have e3 := HS6.out
        have e4 := H46.out
        have e5 := HW0.out
        refine ⟨(Below.heap_alloc _ _ _ (by omega)).trans H4.out, (Below.heap_alloc _ _ _ (by omega)).trans H6.out, (Below.heap_alloc _ _ _ (by omega)).trans H10.out, World.ownsRow_nil _ _ _ _, OwnBms.nil _ _ _, ?_, ?_, ⟨by omega, by omega, by omega, by simp; omega⟩, ⟨by omega, by omega, by omega, by omega⟩, ⟨by omega, by omega⟩⟩
        · rw [← e1]; exact GMap.made w3 _ _ (by omega)
        · rw [e5]; exact HB3.out.alloc (by omega) _
      have hbm : w3.heap.size = b10 + 1 := HS10.out
      rw [hbm]
      have HCI := Lib.hid hci
      clear hci hbm hmk
      generalize w3.alloc (.map #[] 0) = w4 at *
      have H2 : Hid (b10 + 2 ≤ w4.heap.size ∧ w.heap.size ≤ b4) := ⟨HCI.out.lt.2.2.2, HCI.out.ge.1⟩
      clear H4 H6 H10 HS10 HB3 HSZ HS6 H46 HB6
      obtain ⟨bm, hbm⟩ : ∃ bm, b10 + 1 = bm := ⟨_, rfl⟩
      rw [hbm] at HCI ⊢
      clear hbm
      obtain ⟨base, hbase⟩ : ∃ base, b10 + 2 = base := ⟨_, rfl⟩
      rw [hbase] at HCI H2
      clear hbase
      go_wp2_with fail
      generalize wr = wold at *
      go_loopw [39] (fun i wr => ∃ k : Nat, k ≤ s ∧ i = .int .i64 k ∧ ∃ pc cc pr cr R, Hid (CI w base b4 b6 b10 bm (tolVal t) (clsOf F t k).1 (clsOf F t k).2.length R (grp F (clsOf F t k).2) (.slice pc k cc) (.slice pr (clsOf F t k).2.length cr) wr) ∧ Hid (∀ j, j < (clsOf F t k).2.length → (R j).like (F (clsOf F t k).2[j]!))) (fun i _ => n - (intOf i).toNat)
      case atStart => exact ⟨0, Nat.zero_le _, rfl, none, 0, none, 0, F, HCI, fun j h => absurd h (Nat.not_lt_zero _)⟩
      case round =>
        obtain ⟨k, hk, rfl, pc, cc, pr, cr, R, hci, hlike⟩ := hrel
        by_cases hlt : k < n
        · obtain ⟨cls, hcls⟩ : ∃ cls, (clsOf F t k).1 = cls := ⟨_, rfl⟩
          obtain ⟨reps, hreps⟩ : ∃ reps, (clsOf F t k).2 = reps := ⟨_, rfl⟩
          have hcl : cls.length = k := by rw [← hcls]; exact clsOf_len F t k
          have hrl : reps.length ≤ k := by rw [← hreps]; exact (clsOf_reps F t k).1
          have hokr : ∀ j, j < reps.length → (F reps[j]!).ok ∧ (F reps[j]!).n ≤ 10000 := fun j hj => by
            rw [← hreps] at hj ⊢
            exact HOK.out _ (Nat.lt_trans (reps_lt F t k j hj) hlt)
          have hrm := HROOM.out k
          have hfu : k = s → hit F t (clsOf F t k).2 k = none ∧ 4096 ≤ (clsOf F t k).2.length := fun e => by subst e; exact HFULL.out
          have HST : Hid (clsOf F t (k + 1) = stepC F t (cls, reps) k) := by
            show stepC F t (clsOf F t k) k = _
            rw [← hcls, ← hreps]
          rw [hcls, hreps] at hci
          rw [hreps] at hlike hrm hfu
          have HOKR := Lib.hid hokr
          have HRM := Lib.hid hrm
          have HFU := Lib.hid hfu
          have HCL := Lib.hid hcl
          clear hcls hreps hokr hrm hfu hcl
          rcases HL.out with h0 | ⟨b1, o1, rfl, l1, l2, l3, hc1⟩
          · omega
          obtain ⟨q0, q1, q2, q3⟩ := hc1 k hlt
          have q0 := (hci.out.bl.cell (p := ⟨b1, o1 + k * 3, none⟩) l3).trans q0
          have q1 := (hci.out.bl.cell (p := ⟨b1, o1 + k * 3 + 1, none⟩) l3).trans q1
          have q2 := (hci.out.bl.cell (p := ⟨b1, o1 + k * 3 + 2, none⟩) l3).trans q2
          have Q3 := Lib.hid (q3.below hci.out.bl)
          have HQ3 := Lib.hid q3
          have HO := Lib.hid (HOK.out k hlt)
          clear hc1 q3
          go_upto_region 15 with fail
          obtain ⟨c0, c1⟩ := one_cells wr #[.int .i64 (F k).W, .int .i64 (F k).H, .slice (F k).a (F k).n (F k).cap] 48
          have e0 := c0 0
          have e1 := c0 1
          have e2 := c0 2
          have hbx : Below wr.heap.size wr (wr.alloc (.cells #[.int .i64 (F k).W, .int .i64 (F k).H, .slice (F k).a (F k).n (F k).cap] 48)) := (Below.refl _ _).alloc (Nat.le_refl _) _
          have HCI1 := Lib.hid (hci.out.below hbx)
          have Q4 := Lib.hid (Q3.out.below hbx)
          have hold : ∀ g, (Value.slice pc k cc).ownBlock = some g ∨ (Value.slice pr reps.length cr).ownBlock = some g → g < wr.heap.size := fun g hg => hg.elim (fun h => (hci.out.cl.lt g h).2) (fun h => (hci.out.rp.1.lt g h).2)
          have HOLD := Lib.hid hold
          have hx1 : (wr.alloc (.cells #[.int .i64 (F k).W, .int .i64 (F k).H, .slice (F k).a (F k).n (F k).cap] 48)).heap.size = wr.heap.size + 1 := by simp
          have HX1 := Lib.hid hx1
          have hk13 : (wr.alloc (.cells #[.int .i64 (F k).W, .int .i64 (F k).H, .slice (F k).a (F k).n (F k).cap] 48)).heap[wr.heap.size]? = some (.cells #[.int .i64 (F k).W, .int .i64 (F k).H, .slice (F k).a (F k).n (F k).cap] 48 (0, 0)) := heap_alloc_new wr _
          have K13 := Lib.hid hk13
          have hb13b : base ≤ wr.heap.size := hci.out.lt.2.2.2
          have HB13 := Lib.hid hb13b
          clear hold hx1 hk13 hb13b
          clear c0 c1 q0 q1 q2 Q3 hci hbx
          obtain ⟨b13, hb13⟩ : ∃ b13, wr.heap.size = b13 := ⟨_, rfl⟩
          rw [hb13] at e0 e1 e2 HOLD HX1 K13 HB13 ⊢
          clear hb13
          generalize wr.alloc (.cells #[.int .i64 (F k).W, .int .i64 (F k).H, .slice (F k).a (F k).n (F k).cap] 48) = X1 at *
          go_upto_region 16 with fail
          obtain ⟨c0, c1⟩ := one_cells X1 #[.int .i64 (F k).W, .int .i64 (F k).H] 61
          have g0 := c0 0
          have g1 := c0 1
          have hbx : Below X1.heap.size X1 (X1.alloc (.cells #[.int .i64 (F k).W, .int .i64 (F k).H] 61)) := (Below.refl _ _).alloc (Nat.le_refl _) _
          have HCI2 := Lib.hid (HCI1.out.below hbx)
          have K13 := Lib.hid (grown_block_lt (grown_of_below hbx none) K13.out (by simp))
          have hk14 : (X1.alloc (.cells #[.int .i64 (F k).W, .int .i64 (F k).H] 61)).heap[X1.heap.size]? = some (.cells #[.int .i64 (F k).W, .int .i64 (F k).H] 61 (0, 0)) := heap_alloc_new X1 _
          have K14 := Lib.hid hk14
          clear hk14
          have Q5 := Lib.hid (Q4.out.below hbx)
          have e0 := keep_cell hbx e0
          have e1 := keep_cell hbx e1
          have e2 := keep_cell hbx e2
          clear c0 c1 Q4 HCI1 hbx
          obtain ⟨b14, hb14⟩ : ∃ b14, X1.heap.size = b14 := ⟨_, rfl⟩
          rw [hb14] at g0 g1 HX1 K14 ⊢
          clear hb14
          generalize X1.alloc (.cells #[.int .i64 (F k).W, .int .i64 (F k).H] 61) = X2 at *
          have g0 : X2.cell? ⟨b14, 0, none⟩ = some (.int .i64 (F k).W) := g0
          have g1 : X2.cell? ⟨b14, 1, none⟩ = some (.int .i64 (F k).H) := g1
          have hiw : InI (F k).W ∧ InI (F k).H := by
            have h1 := HO.out.1.1
            have h2 := okS_le h1
            obtain ⟨h3, h4, _⟩ := h1
            exact ⟨⟨by omega, by omega⟩, ⟨by omega, by omega⟩⟩
          have HIW := Lib.hid hiw
          clear hiw
          obtain ⟨vl, hlook, hvl, _⟩ := HCI2.out.mp.look HIW.out.1 HIW.out.2
          obtain ⟨l, hl⟩ : ∃ l, grp F reps (F k).W (F k).H = l := ⟨_, rfl⟩
          rw [hl] at hvl
          obtain ⟨pl, cl, rfl, hlf⟩ := ownsRow_slice hvl
          have hlook : (Instr.lookup 59 (.map (some bm)) (.agg #[.int .i64 (F k).W, .int .i64 (F k).H]) false).run Try.prog X2 = .ok (.slice pl l.length cl) X2 := hlook
          have HVL := Lib.hid hvl
          have HLF := Lib.hid hlf
          have hll : l.length ≤ reps.length := by rw [← hl]; exact grp_len F reps _ _
          have hnear := HCI2.out.near HT.out hlike.out HOKR.out e0 e1 e2 Q5.out HO.out.1 rfl
          rw [hl] at hnear
          obtain ⟨p, hp⟩ : ∃ p : Nat → Bool, (fun c => leqB (F reps[c]!) (F k) t) = p := ⟨_, rfl⟩
          have HNEAR : Hid (∀ c ∈ l, ∀ w1, Below X2.heap.size X2 w1 → Calls Try.prog 34 #[.int .i64 (c : Int), .pointer (some ⟨b10, 0, none⟩), .pointer (some ⟨b13, 0, none⟩), .pointer (some ⟨b6, 0, none⟩)] w1 fun e w' => e = .returned (.bool (p c)) ∧ Below w1.heap.size w1 w') :=
            fun c hc w1 hb => by rw [← hp]; exact hnear c hc w1 hb
          have HHIT : Hid (hit F t reps k = l.find? p) := by show _ = _; rw [hit_grp, hl, hp]
          have HGRP := Lib.hid hl
          have hix := index33 base (.slice pl l.length cl) l p #[.pointer (some ⟨b10, 0, none⟩), .pointer (some ⟨b13, 0, none⟩), .pointer (some ⟨b6, 0, none⟩)] X2 HVL.out (by omega) b10 b13 b6 rfl HNEAR.out
          clear hvl hlf hnear hl hp
          have hmf : ∀ (fn : Fn) (first cap : Array Value) (w : World), (Instr.makeFunc fn first cap).run Try.prog w = .ok (.func fn first cap) w := fun _ _ _ _ => rfl
          cases ho : l.findIdx? p with
          | some ai =>
            obtain ⟨hai, hfi⟩ := find_of_idx ho
            rw [ho] at hix
            have HIX : Hid (Calls Try.prog 33 #[.slice pl l.length cl, .func (.func 34) #[] #[.pointer (some ⟨b10, 0, none⟩), .pointer (some ⟨b13, 0, none⟩), .pointer (some ⟨b6, 0, none⟩)]] X2 fun e w' => e = .returned (.int .i64 (ai : Int)) ∧ Below X2.heap.size X2 w') := hix
            have HFI := Lib.hid hfi
            have hks : k < s := by
              rcases Nat.lt_or_eq_of_le hk with h | h
              · exact h
              · have h1 := (HFU.out h).1
                rw [HHIT.out, hfi] at h1
                cases h1
            clear hix hfi ho
            go_upto_region 18 with (go_at_call 33; refine HIX.out.mono ?_; rintro e X3 ⟨rfl, hbx3⟩)
            have HCI3 := Lib.hid (HCI2.out.below hbx3)
            have g0 := keep_cell hbx3 g0
            have g1 := keep_cell hbx3 g1
            have hbd : Below X3.heap.size X3 X3.drew := Below.drew (Below.refl _ _)
            obtain ⟨vl3, hlook3, hvl3, hvn3⟩ := (HCI3.out.below hbd).mp.look HIW.out.1 HIW.out.2
            rw [HGRP.out] at hvl3
            obtain ⟨pl3, cl3, rfl, hlf3⟩ := ownsRow_slice hvl3
            have hlook3 : (Instr.lookup 59 (.map (some bm)) (.agg #[.int .i64 (F k).W, .int .i64 (F k).H]) false).run Try.prog X3.drew = .ok (.slice pl3 l.length cl3) X3.drew := hlook3
            rcases hlf3 with h0 | ⟨gl, curl, rfl, _, _, hnl, _, hhl, hsl, htl⟩
            · omega
            obtain ⟨x, hx⟩ : ∃ x, l[ai]! = x := ⟨_, rfl⟩
            have hxc : X3.drew.cell? ⟨gl, ai, none⟩ = some (.int .i64 (x : Int)) := by
              have e2 : curl.toList[ai]? = (numsL l)[ai]? := by rw [← htl, List.getElem?_take, if_pos (by omega)]
              rw [Joins.cell_of_block hhl, ← Array.getElem?_toList, e2]
              unfold numsL
              rw [List.getElem?_map, List.getElem?_eq_getElem hai, ← hx, getElem!_pos l ai hai]
              rfl
            have hxc : X3.cell? ⟨gl, ai, none⟩ = some (.int .i64 (x : Int)) := hxc
            have m0 : X3.cell? ⟨b10, 0, none⟩ = some (.slice pc k cc) := by rw [Joins.cell_of_block HCI3.out.k10]; rfl
            have f0 : X3.frozen? ⟨b10, 0, none⟩ = false := Joins.unfrozen_of_block HCI3.out.k10 _
            have HCLX : Hid (∀ w', Below X3.heap.size X3 w' → w'.ownsRow base 3 1 (.slice pc k cc) k (numsL cls)) := fun w' hb => by
              have := (HCI3.out.below hb).cl
              rwa [HCL.out] at this
            have hbs : base ≤ X3.heap.size := HCI3.out.lt.2.2.2
            have HX := Lib.hid hx
            have HNL := Lib.hid hnl
            clear hbx3 hbd hvl3 hhl hsl htl hx HIX hlook e0 e1 e2 HNEAR HLF HVL hmf
            have hbA : Below X3.heap.size X3 (X3.alloc (.cells #[.int .i64 (x : Int)] 3)).drew := Below.drew ((Below.refl _ _).alloc (Nat.le_refl _) _)
            have HCI4 := Lib.hid (HCI3.out.below hbA)
            have hn10 : some b10 ≠ (Value.slice pc k cc).ownBlock := fun e => by have := (HCI3.out.cl.lt b10 e.symm).1; have := HCI3.out.lt.2.2.1; omega
            have hn14 : some b14 ≠ (Value.slice pc k cc).ownBlock := fun e => by have := HOLD.out b14 (Or.inl e.symm); have := HX1.out; omega
            have hngl : some gl ≠ (Value.slice pc k cc).ownBlock := fun e => by
              rcases hvn3 with h1 | h1
              · cases h1
              · exact h1 e.symm
            have HZ : Hid (∀ w5, (X3.alloc (.cells #[.int .i64 (x : Int)] 3)).drew.grownBy w5 (Value.slice pc k cc).ownBlock → w5.cell? ⟨b10, 0, none⟩ = some (.slice pc k cc) ∧ w5.cell? ⟨b14, 0, none⟩ = some (.int .i64 (F k).W) ∧ w5.cell? ⟨b14, 1, none⟩ = some (.int .i64 (F k).H) ∧ w5.cell? ⟨gl, ai, none⟩ = some (.int .i64 (x : Int))) := fun w5 hg =>
              ⟨grown_cell (q := ⟨b10, 0, none⟩) hg hn10 (keep_cell hbA m0), grown_cell (q := ⟨b14, 0, none⟩) hg hn14 (keep_cell hbA g0), grown_cell (q := ⟨b14, 1, none⟩) hg hn14 (keep_cell hbA g1), grown_cell (q := ⟨gl, ai, none⟩) hg hngl (keep_cell hbA hxc)⟩
            have m0d := keep_cell hbA m0
            have HN10 := Lib.hid hn10
            have HBA := Lib.hid hbA
            clear hbA f0 hn10 hn14 hngl hvn3
            have HSTEP : Hid (clsOf F t (k + 1) = (cls ++ [x], reps)) := by
              refine HST.out.trans ?_
              show (match hit F t reps k with | some k => (cls ++ [k], reps) | none => (cls ++ [reps.length], reps ++ [k])) = _
              rw [HHIT.out, HFI.out, HX.out]
            go_region_law ((refine step_append_own (by rfl) _ _ 31 (by rfl) base 3 i0 (.int .i64 0) 1 8 Try.underlying31 hi hz0 hz1 hz2 rfl (by decide) (.slice pc k cc) k (numsL cls) (by rfl) (HCLX.out _ HBA.out) ⟨X3.heap.size, 0, none⟩ 1 1 [.int .i64 (x : Int)] (by rfl) rfl (World.news_of_block (cs := #[.int .i64 (x : Int)]) (t := 3) (fr := (0, 0)) (heap_alloc_new X3 _)) (by intro u hu; simp at hu; subst hu; rfl) (by unfold maxLen; omega) (by omega) (by simp; omega) ?_; intro p5 c5 w5 hown5 hgrow5 hloc5; obtain ⟨z0, z1, z2, z3⟩ := HZ.out w5 hgrow5; have zf : w5.frozen? ⟨b10, 0, none⟩ = false := Joins.unfrozen_of_block (grown_block_lt hgrow5 HCI4.out.k10 HN10.out) _))
            all_goals
              have HCI5 := Lib.hid (HCI4.out.addc hgrow5 (by rw [HCL.out, numsL_snoc]; exact hown5) (hloc5.elim Or.inl (fun h => Or.inr ⟨_, h, Nat.le_refl _⟩)))
              clear hgrow5 hown5 hloc5 z0 z1 z2 z3 zf
              go_wp2_with fail
              go_roundw
            all_goals first
              | (show _ < _; simp [intOf]; omega)
              | (refine ⟨k + 1, by omega, by go_num, p5, c5, pr, cr, R, ?_, ?_⟩
                 · rw [HSTEP.out]; exact HCI5
                 · rw [HSTEP.out]; exact hlike)
          | none =>
            have hfi := find_no_idx ho
            rw [ho] at hix
            have HIX : Hid (Calls Try.prog 33 #[.slice pl l.length cl, .func (.func 34) #[] #[.pointer (some ⟨b10, 0, none⟩), .pointer (some ⟨b13, 0, none⟩), .pointer (some ⟨b6, 0, none⟩)]] X2 fun e w' => e = .returned (.int .i64 (-1)) ∧ Below X2.heap.size X2 w') := hix
            by_cases hks' : ¬ k < s
            · have hge := (HFU.out (by omega)).2
              clear hix hfi ho
              go_upto_region 19 with (go_at_call 33; refine HIX.out.mono ?_; rintro e X3 ⟨rfl, hbx3⟩)
              have HCI3 := Lib.hid (HCI2.out.below hbx3)
              clear hbx3 HIX hlook e0 e1 e2 HNEAR HLF HVL hmf g0 g1
              have m1 : X3.cell? ⟨b10, 1, none⟩ = some (.slice pr reps.length cr) := by rw [Joins.cell_of_block HCI3.out.k10]; rfl
              have c0 : X3.cell? ⟨b4, 0, none⟩ = some (.slice none 0 0) := by rw [Joins.cell_of_block HCI3.out.k4]; rfl
              have c1 : X3.cell? ⟨b4, 1, none⟩ = some (.slice none 0 0) := by rw [Joins.cell_of_block HCI3.out.k4]; rfl
              have f0 : X3.frozen? ⟨b4, 0, none⟩ = false := Joins.unfrozen_of_block HCI3.out.k4 _
              have f1 : X3.frozen? ⟨b4, 1, none⟩ = false := Joins.unfrozen_of_block HCI3.out.k4 _
              have hge2 : (4096 : Int) ≤ (reps.length : Int) := by omega
              go_wp2_with fail
              refine bodyPost_ret (v := .tuple #[.agg #[.slice none 0 0, .slice none 0 0], .int .i64 120]) (by simp [results, Try.results15, go_sem, c0, c1]) rfl ⟨rfl, ?_⟩
              exact (HCI3.out.bl.setCell HCI3.out.ge.1 _).setCell HCI3.out.ge.1 _
            have hks : k < s := Decidable.not_not.1 hks'
            have hrl2 := HRM.out hks (HHIT.out.trans hfi)
            have HSTEP : Hid (clsOf F t (k + 1) = (cls ++ [reps.length], reps ++ [k])) := by
              refine HST.out.trans ?_
              show (match hit F t reps k with | some k => (cls ++ [k], reps) | none => (cls ++ [reps.length], reps ++ [k])) = _
              rw [HHIT.out, hfi]
            clear hix hfi ho
            go_upto_region 19 with (go_at_call 33; refine HIX.out.mono ?_; rintro e X3 ⟨rfl, hbx3⟩)
            have HCI3 := Lib.hid (HCI2.out.below hbx3)
            have K13 := Lib.hid (grown_block_lt (grown_of_below hbx3 none) K13.out (by simp))
            have K14 := Lib.hid (grown_block_lt (grown_of_below hbx3 none) K14.out (by simp))
            clear hbx3 HIX hlook e0 e1 e2 HNEAR HLF HVL hmf g0 g1
            have m1 : X3.cell? ⟨b10, 1, none⟩ = some (.slice pr reps.length cr) := by rw [Joins.cell_of_block HCI3.out.k10]; rfl
            have g0 : X3.cell? ⟨b14, 0, none⟩ = some (.int .i64 (F k).W) := by rw [Joins.cell_of_block K14.out]; rfl
            have g1 : X3.cell? ⟨b14, 1, none⟩ = some (.int .i64 (F k).H) := by rw [Joins.cell_of_block K14.out]; rfl
            have hbA : Below X3.heap.size X3 (X3.alloc (.cells #[.int .i64 (reps.length : Int)] 3)) := (Below.refl _ _).alloc (Nat.le_refl _) _
            have HCIA := Lib.hid (HCI3.out.below hbA)
            have K13A := Lib.hid (grown_block_lt (grown_of_below hbA none) K13.out (by simp))
            have hbs : base ≤ X3.heap.size := HCI3.out.lt.2.2.2
            obtain ⟨v0, st, Y1, hrunE, hgY, hszY, hoY, hneY, hback⟩ := HCIA.out.mp.entry HIW.out.1 HIW.out.2 (fun g hg => (HCIA.out.cl.lt g hg).2)
            rw [HGRP.out] at hoY hback
            obtain ⟨p0, c0, rfl, _⟩ := ownsRow_slice hoY
            have hrunE : (Instr.mapEntry 59 (.map (some bm)) (.agg #[.int .i64 (F k).W, .int .i64 (F k).H])).run Try.prog (X3.alloc (.cells #[.int .i64 (reps.length : Int)] 3)) = .ok (.tuple #[.slice p0 l.length c0, .int .i64 st]) Y1 := hrunE
            have hne3 : X3.heap.size ≠ bm := by have := HCI3.out.mp.1; omega
            have hnew : Y1.heap[X3.heap.size]? = some (.cells #[.int .i64 (reps.length : Int)] 3 (0, 0)) := grown_block_lt hgY (heap_alloc_new X3 _) (by simp; exact hne3)
            have HOY := Lib.hid hoY
            have HGY := Lib.hid hgY
            have HNEY := Lib.hid hneY
            have HBACK := Lib.hid hback
            have HNEW := Lib.hid hnew
            have hbY : base ≤ Y1.heap.size := by rw [hszY]; simp; omega
            have hrl3 : (reps.length : Int) < 4096 := by omega
            clear hbA hoY hgY hneY hback hnew hne3 hszY
            go_upto_region 22 with (at_builtin; go_loud (refine wpList_append_own_at _ rfl _ _ 31 rfl base 3 i0 (.int .i64 0) 1 8 Try.underlying31 hi hz0 hz1 hz2 rfl (by decide) (.slice p0 l.length c0) l.length (numsL l) rfl HOY.out ⟨X3.heap.size, 0, none⟩ 1 1 [.int .i64 (reps.length : Nat)] rfl rfl (World.news_of_block (cs := #[.int .i64 (reps.length : Nat)]) HNEW.out) (by intro u hu; simp at hu; subst hu; rfl) (by unfold maxLen; omega) (by omega) hbY ?_; intro v6 w6 hown6 hgrow6 _ hloc6; obtain ⟨p6, c6, rfl, _⟩ := ownsRow_slice hown6; obtain ⟨w7, hst7, hg7, hG7⟩ := HBACK.out w6 (.slice p6 (l.length + 1) c6) reps.length hgrow6 (by rw [numsL_snoc]; exact hown6) (hloc6.elim Or.inl (fun h => Or.inr ⟨_, h, Nat.le_refl _⟩)); have hst7 : (Instr.entryStore 59 (.map (some bm)) (.int .i64 st) (.slice p6 (l.length + 1) c6)).run Try.prog w6 = .ok () w7 := hst7))
            have HCI7 := Lib.hid (HCIA.out.addm HGY.out HOY.out hgrow6 hg7 HNEY.out hG7)
            have K13 : Hid (w7.heap[b13]? = some (.cells #[.int .i64 (F k).W, .int .i64 (F k).H, .slice (F k).a (F k).n (F k).cap] 48 (0, 0))) := by
              have nb : some b13 ≠ some bm := fun e => by cases e; have := HCI3.out.mp.1; have := HB13.out; omega
              refine grown_block_lt hg7 (grown_block_lt hgrow6 (grown_block_lt HGY.out K13A.out nb) ?_) nb
              intro e
              obtain ⟨cu, hcu⟩ := ownsRow_type HOY.out e.symm
              have := grown_block_lt HGY.out K13A.out nb
              rw [this] at hcu
              simp at hcu
            clear hst7 hg7 hG7 hgrow6 hown6 hloc6 HBACK HNEW HNEY HGY K13A hbY g0 g1 m1 HCIA HCI3 hbs
            have m0 : w7.cell? ⟨b10, 0, none⟩ = some (.slice pc k cc) := by rw [Joins.cell_of_block HCI7.out.k10]; rfl
            have m1 : w7.cell? ⟨b10, 1, none⟩ = some (.slice pr reps.length cr) := by rw [Joins.cell_of_block HCI7.out.k10]; rfl
            have hbA : Below w7.heap.size w7 (w7.alloc (.cells #[.int .i64 (reps.length : Int)] 3)) := (Below.refl _ _).alloc (Nat.le_refl _) _
            have HCIB := Lib.hid (HCI7.out.below hbA)
            have K13B := Lib.hid (grown_block_lt (grown_of_below hbA none) K13.out (by simp))
            have hclB := HCIB.out.cl
            rw [HCL.out] at hclB
            have HCLB := Lib.hid hclB
            have hbs : base ≤ w7.heap.size := HCI7.out.lt.2.2.2
            have hn10 : some b10 ≠ (Value.slice pc k cc).ownBlock := fun e => by have := (HCI7.out.cl.lt b10 e.symm).1; have := HCI7.out.lt.2.2.1; omega
            have hn13 : some b13 ≠ (Value.slice pc k cc).ownBlock := fun e => by have := HOLD.out b13 (Or.inl e.symm); omega
            have HN10 := Lib.hid hn10
            have HN13 := Lib.hid hn13
            clear hbA hclB hn10 hn13
            go_upto_region 23 with (at_builtin; go_loud (refine wpList_append_own_at _ rfl _ _ 31 rfl base 3 i0 (.int .i64 0) 1 8 Try.underlying31 hi hz0 hz1 hz2 rfl (by decide) (.slice pc k cc) k (numsL cls) rfl HCLB.out ⟨w7.heap.size, 0, none⟩ 1 1 [.int .i64 (reps.length : Nat)] rfl rfl (World.news_of_block (cs := #[.int .i64 (reps.length : Nat)]) (t := 3) (fr := (0, 0)) (heap_alloc_new w7 _)) (by intro u hu; simp at hu; subst hu; rfl) (by unfold maxLen; omega) (by omega) (by simp; omega) ?_; intro v8 w8 hown8 hgrow8 _ hloc8; obtain ⟨p8, c8, rfl, _⟩ := ownsRow_slice hown8; have k10' := grown_block_lt hgrow8 HCIB.out.k10 HN10.out; have z0 : w8.cell? ⟨b10, 0, none⟩ = some (.slice pc k cc) := (by rw [Joins.cell_of_block k10']; rfl); have zf : w8.frozen? ⟨b10, 0, none⟩ = false := Joins.unfrozen_of_block k10' _))
            have HCI8 := Lib.hid (HCIB.out.addc hgrow8 (by rw [HCL.out, numsL_snoc]; exact hown8) (hloc8.elim Or.inl (fun h => Or.inr ⟨_, h, Nat.le_refl _⟩)))
            have K13 : Hid ((w8.setCell ⟨b10, 0, none⟩ (.slice p8 (k + 1) c8)).heap[b13]? = some (.cells #[.int .i64 (F k).W, .int .i64 (F k).H, .slice (F k).a (F k).n (F k).cap] 48 (0, 0))) :=
              grown_block_lt (grown_setCell _ _ _) (grown_block_lt hgrow8 K13B.out HN13.out) (fun e => by have h1 : b13 = b10 := (by simpa using e); have := HCI7.out.lt.2.2.1; have := HB13.out; omega)
            clear hown8 hgrow8 hloc8 k10' z0 zf K13B HCIB HCLB m0 m1 HCI7 hbs HN10 HN13
            generalize w8.setCell ⟨b10, 0, none⟩ (.slice p8 (k + 1) c8) = w9 at *
            have HW9 : Hid (∀ W, Below w9.heap.size w9 W → IsWords W (F k).a (F k).n (F k).cap (F k).B) := fun W hb => (HQ3.out.below HCI8.out.bl).below hb
            have hpos : 0 < (F k).n := Bmp.ok_pos HO.out.1
            have hle : (F k).n ≤ 17179869184 := Nat.le_trans HO.out.2 (by omega)
            have HPL : Hid (0 < (F k).n ∧ (F k).n ≤ 17179869184) := ⟨hpos, hle⟩
            obtain ⟨t0, t1, t2⟩ := three_cells K13.out
            have m1 : w9.cell? ⟨b10, 1, none⟩ = some (.slice pr reps.length cr) := by rw [Joins.cell_of_block HCI8.out.k10]; rfl
            have hbs : base ≤ w9.heap.size := HCI8.out.lt.2.2.2
            clear hpos hle
            have hn10 : some b10 ≠ (Value.slice pr reps.length cr).ownBlock := fun e => by have := (HCI8.out.rp.1.lt b10 e.symm).1; have := HCI8.out.lt.2.2.1; omega
            have HN10 := Lib.hid hn10
            clear hn10
            go_region_law (first
              | (go_simp; go_at_call 35; refine (copied35 (F k) _ ?_ HPL.out.1 HPL.out.2).mono ?_; (first | exact HW9.out _ (Below.refl _ _) | exact HW9.out _ (Below.drew (Below.refl _ _))); rintro e w10 ⟨fb, rfl, hlk, hob, hb10⟩; (have hb910 : Below w9.heap.size w9 w10 := (by first | exact hb10 | exact below_then (Below.drew (Below.refl _ _)) hb10 (Nat.le_refl _))); (have HCIC := Lib.hid ((HCI8.out.below hb910).below ((Below.refl _ w10).alloc (Nat.le_refl _) (.cells #[.int .i64 fb.W, .int .i64 fb.H, .slice fb.a fb.n fb.cap] 48)))); (have HOBC := Lib.hid ((hob.mono hbs).alloc (.cells #[.int .i64 fb.W, .int .i64 fb.H, .slice fb.a fb.n fb.cap] 48))); (have HAPC := Lib.hid (HCI8.out.rp.fresh hob (Nat.le_refl _))); (have HLK := Lib.hid hlk); (have y1 : w10.cell? ⟨b10, 1, none⟩ = some (.slice pr reps.length cr) := keep_cell hb910 m1); (have y2 : (w10.alloc (.cells #[.int .i64 fb.W, .int .i64 fb.H, .slice fb.a fb.n fb.cap] 48)).cell? ⟨b10, 1, none⟩ = some (.slice pr reps.length cr) := (by rw [Joins.cell_of_block HCIC.out.k10]; rfl)); clear hob hb10 hb910 hlk)
              | (refine step_append_own (by rfl) _ _ 22 (by rfl) base 48 j0 _ 3 40 Try.underlying22 hj hy0 hy1 hy2 rfl (by decide) (.slice pr reps.length cr) reps.length (cellsB R reps.length) (by rfl) HCIC.out.rp.1 ⟨w10.heap.size, 0, none⟩ 1 1 fb.vals.toList (by rfl) rfl (World.news_of_block (cs := fb.vals) (t := 48) (fr := (0, 0)) (heap_alloc_new w10 _)) (cellsB_one (fun _ => fb) 0) (by unfold maxLen; omega) (by omega) HCIC.out.lt.2.2.2 ?_; intro p11 c11 w11 hown11 hgrow11 hloc11; have k10' := grown_block_lt hgrow11 HCIC.out.k10 HN10.out; have z1 : w11.cell? ⟨b10, 1, none⟩ = some (.slice pr reps.length cr) := (by rw [Joins.cell_of_block k10']; rfl); have zf : w11.frozen? ⟨b10, 1, none⟩ = false := Joins.unfrozen_of_block k10' _))
            all_goals
              have HCID := Lib.hid (HCIC.out.addr HOBC.out HAPC.out hgrow11 hown11)
              clear hgrow11 hown11 hloc11 k10' z1 zf y1 y2
              go_wp2_with fail
              go_roundw
            all_goals first
              | (show _ < _; simp [intOf]; omega)
              | (refine ⟨k + 1, by omega, by go_num, p8, c8, p11, c11, (fun j => if j = reps.length then fb else R j), ?_, ?_⟩
                 · rw [HSTEP.out]
                   have hG : grp F (reps ++ [k]) = updG (grp F reps) (F k).W (F k).H reps.length := by
                     funext W H; exact grp_snoc F reps k W H
                   have hlen : (reps ++ [k]).length = reps.length + 1 := by simp
                   show Hid (CI w base b4 b6 b10 bm (tolVal t) (cls ++ [reps.length]) (reps ++ [k]).length _ (grp F (reps ++ [k])) (.slice p8 (k + 1) c8) (.slice p11 (reps ++ [k]).length c11) _)
                   rw [hG, hlen]
                   exact HCID
                 · rw [HSTEP.out]
                   exact like_snoc hlike.out HLK.out)
        · exact absurd (show k < n by omega) hlt
end Go.Proofs.Ytfniekdohidbiaa
