/- Both Classes at no tolerance and at a bitmap that may not be. Conditions: the bounds that each theorem names. -/
import Derived.Test.YtfniekdohidbiaaXo
namespace Go.Proofs.Ytfniekdohidbiaa
open Go.RowKit Go.Bm Fl Go.FlW
theorem cells33_new (w : World) : (w.alloc (.cells #[.slice none 0 0, .slice none 0 0] 33)).heap[w.heap.size]? = some (.cells #[.slice none 0 0, .slice none 0 0] 33 (0, 0)) := heap_alloc_new w _
set_option maxHeartbeats 1000000 in
set_option maxRecDepth 100000 in
theorem classes15_tol (a : Option Addr) (n cap t : Nat) (w : World) (ht : tolOk t = false) :
    Calls Try.prog 15 #[.slice a n cap, .float .f64 t] w fun e w' => e = .returned (.tuple #[.agg #[.slice none 0 0, .slice none 0 0], .int .i64 102]) ∧ Below w.heap.size w w' := by
  go_enter Try.func15, Try.ntmps15
  go_upto_region 1 with fail
  have h4 := cells33_new w
  have hb4 : Below w.heap.size w (w.alloc (.cells #[.slice none 0 0, .slice none 0 0] 33)) := (Below.refl _ w).alloc (Nat.le_refl _) _
  have hs4 : w.heap.size ≤ (w.alloc (.cells #[.slice none 0 0, .slice none 0 0] 33)).heap.size := by simp
  have hs5 : w.heap.size < (w.alloc (.cells #[.slice none 0 0, .slice none 0 0] 33)).heap.size := by simp
  obtain ⟨b4, hb4e⟩ : ∃ b4, w.heap.size = b4 := ⟨_, rfl⟩
  rw [hb4e] at h4 hb4 hs4 hs5 ⊢
  have HW0 := Lib.hid hb4e
  clear hb4e
  generalize w.alloc (.cells #[.slice none 0 0, .slice none 0 0] 33) = w1 at *
  have hst : ∀ (a : Addr) (x : Nat) (m : Mode) (w : World), (store a (.float .f64 x) m).run Try.prog w = stored Try.prog w a (.float .f64 x) m := fun a x m w => run_store Try.prog w a _ m rfl
  have HB4 := Lib.hid hb4
  have HS4 := Lib.hid hs4
  have H4 := Lib.hid h4
  have HS5 := Lib.hid hs5
  clear hb4 hs4 h4 hs5
  go_upto_region 2 with (go_at_call 31; refine (tol19_no t _ ht).mono ?_; rintro e w' ⟨rfl, rfl⟩)
  have HB6 := Lib.hid (HB4.out.alloc HS4.out (.cells #[.float .f64 0] 28))
  have h4 := (Below.heap_alloc w1 (.cells #[.float .f64 0] 28) b4 HS5.out).trans H4.out
  have c0 : (w1.alloc (.cells #[.float .f64 0] 28)).cell? ⟨b4, 0, none⟩ = some (.slice none 0 0) := by rw [Joins.cell_of_block h4]; rfl
  have c1 : (w1.alloc (.cells #[.float .f64 0] 28)).cell? ⟨b4, 1, none⟩ = some (.slice none 0 0) := by rw [Joins.cell_of_block h4]; rfl
  have f0 : (w1.alloc (.cells #[.float .f64 0] 28)).frozen? ⟨b4, 0, none⟩ = false := Joins.unfrozen_of_block h4 _
  have f1 : (w1.alloc (.cells #[.float .f64 0] 28)).frozen? ⟨b4, 1, none⟩ = false := Joins.unfrozen_of_block h4 _
  clear h4 hst
  generalize w1.alloc (.cells #[.float .f64 0] 28) = w2 at *
  go_wp2_with fail
  refine bodyPost_ret (v := .tuple #[.agg #[.slice none 0 0, .slice none 0 0], .int .i64 102]) (by simp [results, Try.results15, go_sem, c0, c1]) rfl ⟨rfl, ?_⟩
  rw [HW0.out]
  exact (HB6.out.setCell (Nat.le_refl _) _).setCell (Nat.le_refl _) _
set_option maxHeartbeats 1000000 in
set_option maxRecDepth 100000 in
theorem classes14_tol (a : Option Addr) (n cap t : Nat) (w : World) (ht : tolOk t = false) :
    Calls Try.prog 14 #[.slice a n cap, .float .f64 t] w fun e w' => e = .returned (.tuple #[.agg #[.slice none 0 0, .slice none 0 0], .int .i64 102]) ∧ Below w.heap.size w w' := by
  go_enter Try.func14, Try.ntmps14
  go_upto_region 1 with fail
  have h4 := cells33_new w
  have hb4 : Below w.heap.size w (w.alloc (.cells #[.slice none 0 0, .slice none 0 0] 33)) := (Below.refl _ w).alloc (Nat.le_refl _) _
  obtain ⟨b4, hb4e⟩ : ∃ b4, w.heap.size = b4 := ⟨_, rfl⟩
  rw [hb4e] at h4 hb4 ⊢
  have HW0 := Lib.hid hb4e
  clear hb4e
  generalize w.alloc (.cells #[.slice none 0 0, .slice none 0 0] 33) = w2 at *
  have HB6 := Lib.hid hb4
  have c0 : w2.cell? ⟨b4, 0, none⟩ = some (.slice none 0 0) := by rw [Joins.cell_of_block h4]; rfl
  have c1 : w2.cell? ⟨b4, 1, none⟩ = some (.slice none 0 0) := by rw [Joins.cell_of_block h4]; rfl
  have f0 : w2.frozen? ⟨b4, 0, none⟩ = false := Joins.unfrozen_of_block h4 _
  have f1 : w2.frozen? ⟨b4, 1, none⟩ = false := Joins.unfrozen_of_block h4 _
  clear h4 hb4
  go_wp2_with (go_at_call 25; refine (fits25 t _).mono ?_; rw [ht]; rintro e w' ⟨rfl, rfl⟩)
  refine bodyPost_ret (v := .tuple #[.agg #[.slice none 0 0, .slice none 0 0], .int .i64 102]) (by simp [results, Try.results14, go_sem, c0, c1]) rfl ⟨rfl, ?_⟩
  rw [HW0.out]
  exact (HB6.out.setCell (Nat.le_refl _) _).setCell (Nat.le_refl _) _
set_option maxHeartbeats 1000000 in
set_option maxRecDepth 100000 in
theorem classes14_bad (b1 o1 n cap t m : Nat) (F : Nat → Bmp) (w : World) (hL : IsBms w (some ⟨b1, o1, none⟩) n cap F) (ht : tolOk t = true) (hm : m < n) (hok : ∀ i, i < m → (F i).ok) (hbad : ¬ (F m).ok) :
    Calls Try.prog 14 #[.slice (some ⟨b1, o1, none⟩) n cap, .float .f64 t] w fun e w' => e = .returned (.tuple #[.agg #[.slice none 0 0, .slice none 0 0], .int .i64 110]) ∧ Below w.heap.size w w' := by
  have HL := Lib.hid hL
  have HOK := Lib.hid hok
  have HBAD := Lib.hid hbad
  clear hL hok hbad
  go_enter Try.func14, Try.ntmps14
  go_upto_region 1 with fail
  have h4 := cells33_new w
  have hs4 : (w.alloc (.cells #[.slice none 0 0, .slice none 0 0] 33)).heap.size = w.heap.size + 1 := by simp
  have hb4 : Below w.heap.size w (w.alloc (.cells #[.slice none 0 0, .slice none 0 0] 33)) := (Below.refl _ w).alloc (Nat.le_refl _) _
  obtain ⟨b4, hb4e⟩ : ∃ b4, w.heap.size = b4 := ⟨_, rfl⟩
  rw [hb4e] at h4 hs4 hb4 ⊢
  have HW0 := Lib.hid hb4e
  clear hb4e
  generalize w.alloc (.cells #[.slice none 0 0, .slice none 0 0] 33) = w2 at *
  have HS4 := Lib.hid hs4
  have H4 := Lib.hid h4
  have HB4 := Lib.hid hb4
  clear hs4 h4 hb4
  go_wp2_with (go_at_call 25; refine (fits25 t _).mono ?_; rw [ht]; rintro e w' ⟨rfl, rfl⟩)
  clear ht
  go_loopw [6] (fun i wr => ∃ k : Nat, k ≤ m ∧ i = .int .i64 k ∧ Hid (Below w2.heap.size w2 wr)) (fun i _ => n - (intOf i).toNat)
  case atStart => exact ⟨0, Nat.zero_le _, rfl, Below.refl _ _⟩
  case round =>
    obtain ⟨k, hk, rfl, hbel⟩ := hrel
    have hlt : k < n := by omega
    have HBW := Lib.hid (below_then HB4.out hbel.out (Nat.le_of_eq HW0.out.symm))
    have HLw := Lib.hid (HL.out.below (by rw [HW0.out]; exact HBW.out))
    rcases HLw.out with h0 | ⟨b1', o1', he, l1, l2, l3, hc1⟩
    · omega
    · cases he
      obtain ⟨q0, q1, q2, q3⟩ := hc1 k hlt
      have Q3 := Lib.hid q3
      clear hc1 q3
      by_cases hkm : k < m
      · have HO := HOK.out k hkm
        go_wp2_with (go_at_call 29; refine (Bmp.may (F k) true _ Q3.out (by simpa using HO)).mono ?_; rintro e w4 ⟨rfl, hbel2⟩)
        go_roundw
        case rel => exact ⟨k + 1, by omega, by go_num, below_then hbel.out hbel2 (Nat.le_refl _)⟩
        case measure => simp [intOf]; omega
      · obtain rfl : k = m := by omega
        have h4 := (hbel.out.block b4 (by have := HS4.out; omega)).trans H4.out
        have HH4 := Lib.hid h4
        clear h4
        go_wp2_with (go_at_call 29; refine (Bmp.may (F k) false _ Q3.out (by simpa using HBAD.out)).mono ?_; rintro e w4 ⟨rfl, hbel2⟩; have h4 := (hbel2.block b4 (Array.getElem?_eq_some_iff.1 HH4.out).1).trans HH4.out; have c0 : w4.cell? ⟨b4, 0, none⟩ = some (.slice none 0 0) := (by rw [Joins.cell_of_block h4]; rfl); have c1 : w4.cell? ⟨b4, 1, none⟩ = some (.slice none 0 0) := (by rw [Joins.cell_of_block h4]; rfl); have f0 : w4.frozen? ⟨b4, 0, none⟩ = false := Joins.unfrozen_of_block h4 _; have f1 : w4.frozen? ⟨b4, 1, none⟩ = false := Joins.unfrozen_of_block h4 _)
        refine bodyPost_ret (v := .tuple #[.agg #[.slice none 0 0, .slice none 0 0], .int .i64 110]) (by simp [results, Try.results14, go_sem, c0, c1]) rfl ⟨rfl, ?_⟩
        rw [HW0.out]
        exact ((below_then HBW.out hbel2 (Nat.le_of_eq HW0.out.symm)).setCell (Nat.le_refl _) _).setCell (Nat.le_refl _) _
set_option maxHeartbeats 1000000 in
set_option maxRecDepth 100000 in
theorem classes15_bad (b1 o1 n cap t m : Nat) (F : Nat → Bmp) (w : World) (hL : IsBms w (some ⟨b1, o1, none⟩) n cap F) (ht : tolOk t = true) (hm : m < n) (hok : ∀ i, i < m → (F i).ok) (hbad : ¬ (F m).ok) :
    Calls Try.prog 15 #[.slice (some ⟨b1, o1, none⟩) n cap, .float .f64 t] w fun e w' => e = .returned (.tuple #[.agg #[.slice none 0 0, .slice none 0 0], .int .i64 110]) ∧ Below w.heap.size w w' := by
  have HL := Lib.hid hL
  have HOK := Lib.hid hok
  have HBAD := Lib.hid hbad
  clear hL hok hbad
  go_enter Try.func15, Try.ntmps15
  go_upto_region 1 with fail
  have h4 := cells33_new w
  have hs4 : (w.alloc (.cells #[.slice none 0 0, .slice none 0 0] 33)).heap.size = w.heap.size + 1 := by simp
  have hb4 : Below w.heap.size w (w.alloc (.cells #[.slice none 0 0, .slice none 0 0] 33)) := (Below.refl _ w).alloc (Nat.le_refl _) _
  obtain ⟨b4, hb4e⟩ : ∃ b4, w.heap.size = b4 := ⟨_, rfl⟩
  rw [hb4e] at h4 hs4 hb4 ⊢
  have HW0 := Lib.hid hb4e
  clear hb4e
  generalize w.alloc (.cells #[.slice none 0 0, .slice none 0 0] 33) = w1 at *
  have HS4 := Lib.hid hs4
  have H4 := Lib.hid h4
  have HB4 := Lib.hid hb4
  clear hs4 h4 hb4
  have hst : ∀ (a : Addr) (x : Nat) (m : Mode) (w : World), (store a (.float .f64 x) m).run Try.prog w = stored Try.prog w a (.float .f64 x) m := fun a x m w => run_store Try.prog w a _ m rfl
  go_upto_region 2 with (go_at_call 31; refine (tol19_yes t _ ht).mono ?_; rintro e w' ⟨rfl, rfl⟩)
  clear hst ht
  have HB6 := Lib.hid (HB4.out.alloc (by have := HS4.out; omega) (.cells #[.float .f64 (tolVal t)] 28))
  have H4b : Hid ((w1.alloc (.cells #[.float .f64 (tolVal t)] 28)).heap[b4]? = some (.cells #[.slice none 0 0, .slice none 0 0] 33 (0, 0))) := (Below.heap_alloc _ _ _ (by have := HS4.out; omega)).trans H4.out
  have HS6 : Hid (b4 < (w1.alloc (.cells #[.float .f64 (tolVal t)] 28)).heap.size) := by show _ < _; have := HS4.out; simp; omega
  generalize w1.alloc (.cells #[.float .f64 (tolVal t)] 28) = w2 at *
  go_wp2_with fail
  go_loopw [27] (fun i wr => ∃ k : Nat, k ≤ m ∧ i = .int .i64 k ∧ Hid (Below w2.heap.size w2 wr)) (fun i _ => n - (intOf i).toNat)
  case atStart => exact ⟨0, Nat.zero_le _, rfl, Below.refl _ _⟩
  case round =>
    obtain ⟨k, hk, rfl, hbel⟩ := hrel
    have hlt : k < n := by omega
    have HBW := Lib.hid (below_then HB6.out hbel.out (Nat.le_of_eq HW0.out.symm))
    have HLw := Lib.hid (HL.out.below (by rw [HW0.out]; exact HBW.out))
    have H4w := Lib.hid ((hbel.out.block b4 HS6.out).trans H4b.out)
    rcases HLw.out with h0 | ⟨b1', o1', he, l1, l2, l3, hc1⟩
    · omega
    · cases he
      obtain ⟨q0, q1, q2, q3⟩ := hc1 k hlt
      have Q3 := Lib.hid q3
      clear hc1 q3
      go_upto_region 7 with fail
      obtain ⟨c0, c1⟩ := one_cells wr #[.int .i64 (F k).W, .int .i64 (F k).H, .slice (F k).a (F k).n (F k).cap] 48
      have e0 := c0 0
      have e1 := c0 1
      have e2 := c0 2
      have hbx : Below wr.heap.size wr (wr.alloc (.cells #[.int .i64 (F k).W, .int .i64 (F k).H, .slice (F k).a (F k).n (F k).cap] 48)) := (Below.refl _ wr).alloc (Nat.le_refl _) _
      have HB1 := Lib.hid (hbel.out.alloc hbel.out.size (.cells #[.int .i64 (F k).W, .int .i64 (F k).H, .slice (F k).a (F k).n (F k).cap] 48))
      have Q4 := Lib.hid (Q3.out.below hbx)
      have HBW1 := Lib.hid (below_then HBW.out hbx (Nat.le_of_eq HW0.out.symm))
      have H4x := Lib.hid (grown_block_lt (grown_of_below hbx none) H4w.out (by simp))
      clear c0 c1 q0 q1 q2 Q3 hbel hbx
      obtain ⟨gs, hgs⟩ : ∃ gs, wr.heap.size = gs := ⟨_, rfl⟩
      rw [hgs] at e0 e1 e2 ⊢
      clear hgs
      generalize wr.alloc (.cells #[.int .i64 (F k).W, .int .i64 (F k).H, .slice (F k).a (F k).n (F k).cap] 48) = w3 at *
      by_cases hkm : k < m
      · have HO := HOK.out k hkm
        go_wp2_with (go_at_call 32; refine (Bmp.check (F k) true _ Q4.out (by simpa using HO)).mono ?_; rintro e w4 ⟨rfl, hbel2⟩)
        go_roundw
        case rel => exact ⟨k + 1, by omega, by go_num, below_then HB1.out hbel2 (Nat.le_refl _)⟩
        case measure => simp [intOf]; omega
      · obtain rfl : k = m := by omega
        go_wp2_with (go_at_call 32; refine (Bmp.check (F k) false _ Q4.out (by simpa using HBAD.out)).mono ?_; rintro e w4 ⟨rfl, hbel2⟩; have h4 := (hbel2.block b4 (Array.getElem?_eq_some_iff.1 H4x.out).1).trans H4x.out; have c0 : w4.cell? ⟨b4, 0, none⟩ = some (.slice none 0 0) := (by rw [Joins.cell_of_block h4]; rfl); have c1 : w4.cell? ⟨b4, 1, none⟩ = some (.slice none 0 0) := (by rw [Joins.cell_of_block h4]; rfl); have f0 : w4.frozen? ⟨b4, 0, none⟩ = false := Joins.unfrozen_of_block h4 _; have f1 : w4.frozen? ⟨b4, 1, none⟩ = false := Joins.unfrozen_of_block h4 _)
        refine bodyPost_ret (v := .tuple #[.agg #[.slice none 0 0, .slice none 0 0], .int .i64 110]) (by simp [results, Try.results15, go_sem, c0, c1]) rfl ⟨rfl, ?_⟩
        rw [HW0.out]
        exact ((below_then HBW1.out hbel2 (Nat.le_of_eq HW0.out.symm)).setCell (Nat.le_refl _) _).setCell (Nat.le_refl _) _
end Go.Proofs.Ytfniekdohidbiaa
