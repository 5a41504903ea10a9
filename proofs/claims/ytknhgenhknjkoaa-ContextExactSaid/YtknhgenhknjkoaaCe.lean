/- Package context: what Row refuses; equal lists of numbers; the statement's 'wakes'. Conditions: the bounds that each theorem names. -/
import Derived.Test.YtknhgenhknjkoaaCd
namespace Go.Proofs.Ytknhgenhknjkoaa
open Go.RowKit Go.Bm

set_option maxHeartbeats 1000000 in
theorem row_no1 (t y : Int) (ht : ¬ (0 ≤ t ∧ t < 4)) (w : World) (W H : Int) (a : Option Addr) (n cap : Nat) :
    Calls Try.prog 15 #[.agg #[.int .i64 W, .int .i64 H, .slice a n cap], .int .i64 t, .int .i64 y] w fun e w' => e = .returned (.tuple #[.slice none 0 0, .int .i64 60]) ∧ Below w.heap.size w w' := by
  have hn : ∀ w, (binOp BinOp.eql 56 (.slice none 0 0) (.slice none 0 0)).run Try.prog w = .ok (.bool true) w := fun w => (Lib.run_eql_slice_nil w _ _ _ _ _ _ _ Try.underlying56)
  have HT := Lib.hid ht
  clear ht
  go_enter Try.func15, Try.ntmps15
  go_wp2_with (go_at_call 31; refine (spans_no t HT.out _).mono ?_; rintro e w' ⟨rfl, rfl⟩)
  go_ret2
  exact ⟨rfl, (Below.refl _ _).alloc (Nat.le_refl _) _⟩

set_option maxHeartbeats 1000000 in
theorem row_no2 (W H : Int) (a : Option Addr) (n cap : Nat) (B : Nat → Nat) (t : Nat) (y : Int) (w : World) (hB : IsWords w a n cap B) (hb : ¬ okB W H n B) (ht : t < 4) :
    Calls Try.prog 15 #[.agg #[.int .i64 W, .int .i64 H, .slice a n cap], .int .i64 (t : Int), .int .i64 y] w
      fun e w' => e = .returned (.tuple #[.slice none 0 0, .int .i64 62]) ∧ Below w.heap.size w w' := by
  have hn : ∀ w a n c, (binOp BinOp.eql 56 (.slice (some a) n c) (.slice none 0 0)).run Try.prog w = .ok (.bool false) w := fun w a n c => (Lib.run_eql_slice_nil w _ _ _ _ _ _ _ Try.underlying56)
  have HB := Lib.hid hB
  have HO := Lib.hid hb
  have hbel := (Below.refl w.heap.size w).alloc (Nat.le_refl _) (.cells #[.int .i64 W, .int .i64 H, .slice a n cap] 24)
  have HL := Lib.hid hbel
  clear hB hb hbel
  go_enter Try.func15, Try.ntmps15
  go_upto_region 4 with (go_at_call 31; refine (spans_ok t ht _).mono ?_; rintro e w1 ⟨g0, rfl, hsp, hbel⟩)
  obtain ⟨c0, c1, c2⟩ := box_cells w W H a n cap hbel
  have HB1 := Lib.hid (HL.out.trans (hbel.mono (by simp)))
  have HW := Lib.hid (HB.out.below HB1.out)
  clear hsp hbel HL HB
  go_wp2_with (go_at_call 34; refine (check0 W H a n cap B false _ HW.out (by simp [HO.out])).mono ?_; rintro e w2 ⟨rfl, hbel⟩)
  go_ret2
  exact ⟨rfl, HB1.out.trans (hbel.mono HB1.out.size)⟩

set_option maxHeartbeats 1000000 in
theorem row_no3 (W H : Nat) (a : Option Addr) (n cap : Nat) (B : Nat → Nat) (t : Nat) (y : Int) (w : World) (hB : IsWords w a n cap B) (hb : okB W H n B) (ht : t < 4) (hy : ¬ (0 ≤ y ∧ y < H)) :
    Calls Try.prog 15 #[.agg #[.int .i64 (W : Int), .int .i64 (H : Int), .slice a n cap], .int .i64 (t : Int), .int .i64 y] w
      fun e w' => e = .returned (.tuple #[.slice none 0 0, .int .i64 61]) ∧ Below w.heap.size w w' := by
  have hn : ∀ w a n c, (binOp BinOp.eql 56 (.slice (some a) n c) (.slice none 0 0)).run Try.prog w = .ok (.bool false) w := fun w a n c => (Lib.run_eql_slice_nil w _ _ _ _ _ _ _ Try.underlying56)
  have HB := Lib.hid hB
  have HO := Lib.hid hb
  have HY := Lib.hid hy
  have hbel := (Below.refl w.heap.size w).alloc (Nat.le_refl _) (.cells #[.int .i64 (W : Int), .int .i64 (H : Int), .slice a n cap] 24)
  have HL := Lib.hid hbel
  clear hB hb hbel hy
  go_enter Try.func15, Try.ntmps15
  go_upto_region 4 with (go_at_call 31; refine (spans_ok t ht _).mono ?_; rintro e w1 ⟨g0, rfl, hsp, hbel⟩)
  obtain ⟨c0, c1, c2⟩ := box_cells w W H a n cap hbel
  have hlt0 : w.heap.size < w1.heap.size := Nat.lt_of_lt_of_le (by simp) hbel.size
  have HB1 := Lib.hid (HL.out.trans (hbel.mono (by simp)))
  have HW := Lib.hid (HB.out.below HB1.out)
  clear hsp hbel HL HB
  go_upto_region 6 with (go_at_call 34; refine (check0 W H a n cap B true _ HW.out (by simp [HO.out])).mono ?_; rintro e w2 ⟨rfl, hbel⟩)
  have c1 := (hbel.cell (p := ⟨w.heap.size, 1, none⟩) hlt0).trans c1
  have HB2 := Lib.hid (HB1.out.trans (hbel.mono HB1.out.size))
  clear hbel HB1 HW c0 c2
  by_cases h1 : y < 0
  · go_wp2
    go_ret2
    exact ⟨rfl, HB2.out⟩
  · have h2 : (H : Int) ≤ y := by have := HY.out; omega
    go_wp2
    go_ret2
    exact ⟨rfl, HB2.out⟩

/-- numbers in memory -/
def IsInts (w : World) (a : Option Addr) (len : Nat) (L : Nat → Int) : Prop :=
  len = 0 ∨ ∃ b off, a = some ⟨b, off, none⟩ ∧ b < w.heap.size ∧ ∀ i, i < len → w.cell? ⟨b, off + i, none⟩ = some (.int .i64 (L i))
theorem IsInts.below {w w' : World} {a : Option Addr} {n : Nat} {L : Nat → Int} (h : IsInts w a n L) (hb : Below w.heap.size w w') : IsInts w' a n L := by
  rcases h with h | ⟨b, off, h1, h4, h5⟩
  · exact Or.inl h
  · exact Or.inr ⟨b, off, h1, Nat.lt_of_lt_of_le h4 hb.size, fun i hi => (hb.cell (p := ⟨b, off + i, none⟩) h4).trans (h5 i hi)⟩
theorem isInts_ivals {w : World} {g n : Nat} {O : Nat → Nat} (h : w.heap[g]? = some (.cells (ivals O n) 3 (0, 0))) : IsInts w (some ⟨g, 0, none⟩) n (fun i => (O i : Nat)) :=
  Or.inr ⟨g, 0, rfl, (Array.getElem?_eq_some_iff.1 h).1, fun i hi => by rw [Nat.zero_add, Joins.cell_of_block h, ivals_get _ _ hi]⟩

set_option maxHeartbeats 1000000 in
theorem eqints0 (a : Option Addr) (n cap : Nat) (A : Nat → Int) (c : Option Addr) (m cap2 : Nat) (B : Nat → Int) (b : Bool) (w : World) (hA : IsInts w a n A) (hB : IsInts w c m B) (hb : b = true ↔ (n = m ∧ ∀ i, i < n → A i = B i))
    (hn : n ≤ 1000000000000) :
    Calls Try.prog 30 #[.slice a n cap, .slice c m cap2] w fun e w' => e = .returned (.bool b) ∧ ∃ k, w.drewN k = w' := by
  by_cases hnm : n = m
  · subst hnm
    go_enter Try.func30, Try.ntmps30
    go_wp2
    go_loopw [5] (fun i wr => ∃ k : Nat, k ≤ n ∧ i = .int .i64 k ∧ (∀ j, j < k → A j = B j) ∧ ∃ q, wr = w.drewN q) (fun i _ => n - (intOf i).toNat)
    case atStart => exact ⟨0, Nat.zero_le _, rfl, fun j hj => by omega, 0, rfl⟩
    case round =>
      obtain ⟨k, hk, rfl, hcl, q, rfl⟩ := hrel
      have HCl := Lib.hid hcl
      have HB := Lib.hid hb
      clear hcl hb
      by_cases hlt : k < n
      · rcases hA with h0 | ⟨b1, o1, rfl, l3, hc1⟩
        · omega
        · rcases hB with h0 | ⟨b2, o2, rfl, m3, hc2⟩
          · omega
          · have d1 := hc1 k hlt
            have d2 := hc2 k hlt
            clear hc1 hc2
            by_cases hc : A k = B k
            · have hq : (A k != B k) = false := by rw [hc]; simp
              have HD := Lib.hid hc
              clear hc
              go_wp2
              go_quiet (fail)
              go_wp2
              go_roundw
              case rel => exact ⟨k + 1, by omega, by go_num, fun j hj => by
                by_cases e : j = k
                · subst e; exact HD.out
                · exact HCl.out j (by omega), _, rfl⟩
              case measure => simp [intOf]; omega
            · have hq : (A k != B k) = true := by simpa using hc
              obtain rfl : b = false := by cases b with | false => rfl | true => exact absurd ((HB.out.1 rfl).2 k hlt) hc
              clear hc
              go_wp2
              go_quiet (fail)
              go_wp2
              go_ret
              exact ⟨by first | trivial | rfl, _, by rw [World.drewN_drewN]⟩
      · obtain rfl : k = n := by omega
        obtain rfl : b = true := HB.out.2 ⟨by first | trivial | rfl, HCl.out⟩
        clear hA hB
        go_wp2
        go_ret
        exact ⟨rfl, _, rfl⟩
  · obtain rfl : b = false := by cases b with | false => rfl | true => exact absurd (hb.1 rfl).1 hnm
    clear hA hB hb
    go_enter Try.func30, Try.ntmps30
    go_wp2
    go_ret
    exact ⟨rfl, 0, rfl⟩

def wakeB (i : Nat) : Nat := if i = 0 then 9223372036854775808 else 0
theorem wake_ok : okB ((2 : Nat) : Int) ((1 : Nat) : Int) 1 wakeB := by
  refine ⟨⟨by decide, by decide, by decide⟩, rfl, fun y hy => ?_⟩
  have : y = 0 := by simpa using hy
  subst this
  right
  decide
theorem wake_ctx0 : ctx 2 (px 2 1 wakeB) 0 0 = 0 := by decide
theorem wake_ctx1 : ctx 2 (px 2 1 wakeB) 1 0 = 1 := by decide

theorem at_wake (a : Option Addr) (cap : Nat) (w : World) (h : IsWords w a 1 cap wakeB) :
    Calls Try.prog 14 #[.agg #[.int .i64 2, .int .i64 1, .slice a 1 cap], .int .i64 2, .int .i64 1, .int .i64 0] w fun e w' => e = .returned (.tuple #[.int .i64 1, .int .i64 0]) ∧ Below w.heap.size w w' := by
  have := at_ok 2 1 a 1 cap wakeB 2 1 0 w h wake_ok (by decide)
  rw [wake_ctx1] at this
  exact this
theorem row_wake (a : Option Addr) (cap : Nat) (w : World) (h : IsWords w a 1 cap wakeB) :
    Calls Try.prog 15 #[.agg #[.int .i64 2, .int .i64 1, .slice a 1 cap], .int .i64 2, .int .i64 0] w fun e w' => ∃ g, e = .returned (.tuple #[.slice (some ⟨g, 0, none⟩) 2 2, .int .i64 0]) ∧ IsInts w' (some ⟨g, 0, none⟩) 2 (fun i => (i : Int)) ∧ Below w.heap.size w w' := by
  have := row_ok 2 1 a 1 cap wakeB 2 0 w h wake_ok (by decide) (by decide)
  refine Calls.mono this fun e w' ⟨g, _, he, hh, hb⟩ => ⟨g, he, ?_, hb⟩
  rcases isInts_ivals hh with h0 | ⟨b, off, h1, h2, h3⟩
  · cases h0
  · refine Or.inr ⟨b, off, h1, h2, fun i hi => ?_⟩
    rw [h3 i hi]
    match i, hi with
    | 0, _ => exact congrArg (fun n : Nat => some (Value.int .i64 n)) wake_ctx0
    | 1, _ => exact congrArg (fun n : Nat => some (Value.int .i64 n)) wake_ctx1
theorem size_wake (w : World) : Calls Try.prog 10 #[.int .i64 0] w fun e w' => e = .returned (.tuple #[.int .i64 65536, .int .i64 0]) ∧ Below w.heap.size w w' := by
  have := size_ok 0 (by decide) w
  exact this

set_option maxRecDepth 100000 in
set_option maxHeartbeats 4000000 in
theorem wakes9 (w : World) : Calls Try.prog 9 #[] w fun e w' => e = .returned (.bool true) ∧ Below w.heap.size w w' := by
  have b2 : Below w.heap.size w ((w.alloc (.cells #[.int .u64 9223372036854775808] 54)).alloc (.cells #[.int .i64 2, .int .i64 1, .slice (some ⟨w.heap.size, 0, none⟩) 1 1] 24)) := ((Below.refl _ _).alloc (Nat.le_refl _) _).alloc (by simp) _
  have k2 : IsWords ((w.alloc (.cells #[.int .u64 9223372036854775808] 54)).alloc (.cells #[.int .i64 2, .int .i64 1, .slice (some ⟨w.heap.size, 0, none⟩) 1 1] 24)) (some ⟨w.heap.size, 0, none⟩) 1 1 wakeB := by
    refine IsWords.below (w := w.alloc (.cells #[.int .u64 9223372036854775808] 54)) (Or.inr ⟨w.heap.size, 0, rfl, by omega, by omega, by simp, fun i hi => ?_⟩) ((Below.refl _ _).alloc (Nat.le_refl _) _)
    have : i = 0 := by omega
    subst this
    exact ⟨by rw [World.cell?_alloc_at _ _ _ _ rfl]; rfl, by decide⟩
  have B2 := Lib.hid b2
  have K2 := Lib.hid k2
  clear b2 k2
  go_enter Try.func9, Try.ntmps9
  go_upto_region 3 with (go_at_call 14; refine (at_wake _ 1 _ K2.out).mono ?_; rintro e w1 ⟨rfl, hbel⟩)
  obtain ⟨ww, hww⟩ : ∃ ww, ((w.alloc (.cells #[.int .u64 9223372036854775808] 54)).alloc (.cells #[.int .i64 2, .int .i64 1, .slice (some ⟨w.heap.size, 0, none⟩) 1 1] 24)) = ww := ⟨_, rfl⟩
  have d0 : w1.cell? ⟨w.heap.size + 1, 0, none⟩ = some (.int .i64 2) := (hbel.cell (p := ⟨w.heap.size + 1, 0, none⟩) (by simp)).trans (by rw [World.cell?_alloc_at _ _ _ _ (by simp)]; rfl)
  have d1 : w1.cell? ⟨w.heap.size + 1, 1, none⟩ = some (.int .i64 1) := (hbel.cell (p := ⟨w.heap.size + 1, 1, none⟩) (by simp)).trans (by rw [World.cell?_alloc_at _ _ _ _ (by simp)]; rfl)
  have d2 : w1.cell? ⟨w.heap.size + 1, 2, none⟩ = some (.slice (some ⟨w.heap.size, 0, none⟩) 1 1) := (hbel.cell (p := ⟨w.heap.size + 1, 2, none⟩) (by simp)).trans (by rw [World.cell?_alloc_at _ _ _ _ (by simp)]; rfl)
  have K3 := Lib.hid (K2.out.below hbel)
  have B3 := Lib.hid (B2.out.trans (hbel.mono B2.out.size))
  clear hbel hww B2 K2
  go_upto_region 4 with (go_at_call 15; refine (row_wake _ 1 _ K3.out).mono ?_; rintro e w2 ⟨g, rfl, hi, hbel⟩)
  have B4 := Lib.hid (B3.out.trans (hbel.mono B3.out.size))
  have HI := Lib.hid hi
  clear hbel hi d0 d1 d2 B3 K3
  go_upto_region 5 with (go_at_call 10; refine (size_wake _).mono ?_; rintro e w3 ⟨rfl, hbel⟩)
  have B5 := Lib.hid (B4.out.trans (hbel.mono B4.out.size))
  have HI5 := Lib.hid (HI.out.below hbel)
  clear hbel B4 HI
  have hnew : IsInts (w3.alloc (.cells #[.int .i64 0, .int .i64 1] 3)) (some ⟨w3.heap.size, 0, none⟩) 2 (fun i => (i : Int)) := by
    refine Or.inr ⟨w3.heap.size, 0, rfl, by simp, fun i hi => ?_⟩
    rw [World.cell?_alloc_at _ _ _ _ rfl]
    match i, hi with
    | 0, _ => rfl
    | 1, _ => rfl
  have HN := Lib.hid hnew
  have HI6 := Lib.hid (HI5.out.below ((Below.refl w3.heap.size w3).alloc (Nat.le_refl _) (.cells #[.int .i64 0, .int .i64 1] 3)))
  clear hnew
  go_wp2_with (go_at_call 30; refine (eqints0 _ 2 2 _ _ 2 2 _ true _ HI6.out HN.out (by simp) (by decide)).mono ?_; rintro e w4 ⟨rfl, q, rfl⟩)
  go_ret
  exact ⟨rfl, below_drewN (B5.out.alloc B5.out.size _) _⟩
end Go.Proofs.Ytknhgenhknjkoaa
