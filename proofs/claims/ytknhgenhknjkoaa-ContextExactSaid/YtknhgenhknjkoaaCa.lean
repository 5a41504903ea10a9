/- Package context: the templates' places (spans) and how many contexts they have (Size). Conditions: the bounds that each theorem names. -/
import Derived.Test.YtknhgenhknjkoaaBh
namespace Go.Bm
/-- how many rows a template has -/
def spn (t : Nat) : Nat := if t = 3 then 2 else 3
/-- row k of template t: down, from, to -/
def spd : Nat → Nat → Int
  | 3, 0 => -1
  | 3, _ => 0
  | _, 0 => -2
  | _, 1 => -1
  | _, _ => 0
def spf : Nat → Nat → Int
  | 0, 0 => -2
  | 0, 1 => -3
  | 0, _ => -4
  | 1, 0 => -1
  | 1, 1 => -2
  | 1, _ => -3
  | 2, 0 => -1
  | 2, 1 => -2
  | 2, _ => -2
  | _, 0 => -3
  | _, _ => -4
def spt : Nat → Nat → Int
  | 0, 0 => 2
  | 0, 1 => 3
  | 0, _ => -1
  | 1, 0 => 2
  | 1, 1 => 3
  | 1, _ => -1
  | 2, 0 => 1
  | 2, 1 => 2
  | 2, _ => -1
  | _, 0 => 2
  | _, _ => -1
/-- how many places rows 0 to k - 1 have -/
def spw (t k : Nat) : Nat := ((List.range k).map fun j => (spt t j - spf t j + 1).toNat).sum
theorem spw_succ (t k : Nat) : spw t (k + 1) = spw t k + (spt t k - spf t k + 1).toNat := by
  unfold spw; rw [List.range_succ, List.map_append, List.sum_append]; simp
theorem sp_bd : ∀ t, t < 4 → ∀ k, k < spn t → -2 ≤ spd t k ∧ spd t k ≤ 0 ∧ -4 ≤ spf t k ∧ spf t k ≤ -1 ∧ -1 ≤ spt t k ∧ spt t k ≤ 3 ∧ spw t k ≤ 12 := by decide
theorem spn_bd (t : Nat) : 2 ≤ spn t ∧ spn t ≤ 3 := by unfold spn; split <;> omega
/-- how many contexts -/
def csize (t : Nat) : Nat := 2 ^ spw t (spn t)
theorem csize_le : ∀ t, t < 4 → spw t (spn t) ≤ 16 := by decide
theorem wrap_pow : ∀ n, n ≤ 16 → Go.RowKit.wrap64 (2 ^ n) = ((2 ^ n : Nat) : Int) := by
  intro n hn
  have h1 : 2 ^ n ≤ 2 ^ 16 := Nat.pow_le_pow_right (by decide) hn
  have h2 : (2 : Int) ^ n = ((2 ^ n : Nat) : Int) := by simp
  have h3 : 2 ^ 16 = 65536 := by decide
  rw [h2]
  unfold Go.RowKit.wrap64
  generalize 2 ^ n = q at *
  omega
def spanCells (t : Nat) : Array Value :=
  if t = 3 then #[.int .i64 (-1), .int .i64 (-3), .int .i64 2, .int .i64 0, .int .i64 (-4), .int .i64 (-1)]
  else if t = 0 then #[.int .i64 (-2), .int .i64 (-2), .int .i64 2, .int .i64 (-1), .int .i64 (-3), .int .i64 3, .int .i64 0, .int .i64 (-4), .int .i64 (-1)]
  else if t = 1 then #[.int .i64 (-2), .int .i64 (-1), .int .i64 2, .int .i64 (-1), .int .i64 (-2), .int .i64 3, .int .i64 0, .int .i64 (-3), .int .i64 (-1)]
  else #[.int .i64 (-2), .int .i64 (-1), .int .i64 1, .int .i64 (-1), .int .i64 (-2), .int .i64 2, .int .i64 0, .int .i64 (-2), .int .i64 (-1)]
theorem spanCells_at : ∀ t, t < 4 → ∀ k, k < spn t → (spanCells t)[k * 3]? = some (.int .i64 (spd t k)) ∧ (spanCells t)[k * 3 + 1]? = some (.int .i64 (spf t k)) ∧ (spanCells t)[k * 3 + 2]? = some (.int .i64 (spt t k)) := by
  intro t ht k hk
  match t, ht with
  | 0, _ => match k, hk with
    | 0, _ => exact ⟨rfl, rfl, rfl⟩
    | 1, _ => exact ⟨rfl, rfl, rfl⟩
    | 2, _ => exact ⟨rfl, rfl, rfl⟩
  | 1, _ => match k, hk with
    | 0, _ => exact ⟨rfl, rfl, rfl⟩
    | 1, _ => exact ⟨rfl, rfl, rfl⟩
    | 2, _ => exact ⟨rfl, rfl, rfl⟩
  | 2, _ => match k, hk with
    | 0, _ => exact ⟨rfl, rfl, rfl⟩
    | 1, _ => exact ⟨rfl, rfl, rfl⟩
    | 2, _ => exact ⟨rfl, rfl, rfl⟩
  | 3, _ => match k, hk with
    | 0, _ => exact ⟨rfl, rfl, rfl⟩
    | 1, _ => exact ⟨rfl, rfl, rfl⟩
end Go.Bm
namespace Go.Proofs.Ytknhgenhknjkoaa
open Go.RowKit Go.Bm

/-- rows of a template in memory -/
def IsSpans (w : World) (v : Value) (t : Nat) : Prop :=
  ∃ g, v = .slice (some ⟨g, 0, none⟩) (spn t) (spn t) ∧ g < w.heap.size ∧ ∀ k, k < spn t →
    w.cell? ⟨g, k * 3, none⟩ = some (.int .i64 (spd t k)) ∧ w.cell? ⟨g, k * 3 + 1, none⟩ = some (.int .i64 (spf t k)) ∧ w.cell? ⟨g, k * 3 + 2, none⟩ = some (.int .i64 (spt t k))
theorem IsSpans.below {w w' : World} {v : Value} {t : Nat} (h : IsSpans w v t) (hb : Below w.heap.size w w') : IsSpans w' v t := by
  obtain ⟨g, h1, h2, h3⟩ := h
  exact ⟨g, h1, Nat.lt_of_lt_of_le h2 hb.size, fun k hk => ⟨(hb.cell (p := ⟨g, k * 3, none⟩) h2).trans (h3 k hk).1, (hb.cell (p := ⟨g, k * 3 + 1, none⟩) h2).trans (h3 k hk).2.1, (hb.cell (p := ⟨g, k * 3 + 2, none⟩) h2).trans (h3 k hk).2.2⟩⟩
theorem isSpans_new (w : World) (t : Nat) (ht : t < 4) : IsSpans (w.alloc (.cells (spanCells t) 59)) (.slice (some ⟨w.heap.size, 0, none⟩) (spn t) (spn t)) t := by
  refine ⟨_, rfl, by simp, fun k hk => ?_⟩
  obtain ⟨h1, h2, h3⟩ := spanCells_at t ht k hk
  exact ⟨by rw [World.cell?_alloc_at _ _ _ _ rfl]; exact h1, by rw [World.cell?_alloc_at _ _ _ _ rfl]; exact h2, by rw [World.cell?_alloc_at _ _ _ _ rfl]; exact h3⟩

set_option maxHeartbeats 1000000 in
theorem spans_lit (t : Nat) (ht : t < 4) (w : World) : Calls Try.prog 31 #[.int .i64 (t : Int)] w fun e w' => e = .returned (.slice (some ⟨w.heap.size, 0, none⟩) (spn t) (spn t)) ∧ w.alloc (.cells (spanCells t) 59) = w' := by
  match t, ht with
  | 0, _ =>
    go_enter Try.func31, Try.ntmps31
    go_wp2
    go_ret
    exact ⟨rfl, rfl⟩
  | 1, _ =>
    go_enter Try.func31, Try.ntmps31
    go_wp2
    go_ret
    exact ⟨rfl, rfl⟩
  | 2, _ =>
    go_enter Try.func31, Try.ntmps31
    go_wp2
    go_ret
    exact ⟨rfl, rfl⟩
  | 3, _ =>
    go_enter Try.func31, Try.ntmps31
    go_wp2
    go_ret
    exact ⟨rfl, rfl⟩
/-- a template's rows -/
theorem spans_ok (t : Nat) (ht : t < 4) (w : World) : Calls Try.prog 31 #[.int .i64 (t : Int)] w fun e w' => ∃ a, e = .returned (.slice (some a) (spn t) (spn t)) ∧ IsSpans w' (.slice (some a) (spn t) (spn t)) t ∧ Below w.heap.size w w' :=
  (spans_lit t ht w).mono fun e w' ⟨he, hw⟩ => ⟨_, he, by rw [← hw]; exact isSpans_new w t ht, by rw [← hw]; exact (Below.refl _ _).alloc (Nat.le_refl _) _⟩

set_option maxHeartbeats 1000000 in
theorem spans_no (t : Int) (ht : ¬ (0 ≤ t ∧ t < 4)) (w : World) : Calls Try.prog 31 #[.int .i64 t] w fun e w' => e = .returned (.slice none 0 0) ∧ w = w' := by
  have h0 : (t == 0) = false := by simp; omega
  have h1 : (t == 1) = false := by simp; omega
  have h2 : (t == 2) = false := by simp; omega
  have h3 : (t == 3) = false := by simp; omega
  clear ht
  go_enter Try.func31, Try.ntmps31
  go_wp2
  go_ret
  exact ⟨rfl, rfl⟩

set_option maxHeartbeats 1000000 in
theorem size_no (t : Int) (ht : ¬ (0 ≤ t ∧ t < 4)) (w : World) : Calls Try.prog 10 #[.int .i64 t] w fun e w' => e = .returned (.tuple #[.int .i64 0, .int .i64 60]) ∧ w = w' := by
  have hn : ∀ w, (binOp BinOp.eql 56 (.slice none 0 0) (.slice none 0 0)).run Try.prog w = .ok (.bool true) w := fun w => (Lib.run_eql_slice_nil w _ _ _ _ _ _ _ Try.underlying56)
  have HT := Lib.hid ht
  clear ht
  go_enter Try.func10, Try.ntmps10
  go_wp2_with (go_at_call 31; refine (spans_no t HT.out _).mono ?_; rintro e w' ⟨rfl, rfl⟩)
  go_ret2
  exact ⟨rfl, rfl⟩

set_option maxHeartbeats 2000000 in
/-- how many contexts a template has -/
theorem size_ok (t : Nat) (ht : t < 4) (w : World) : Calls Try.prog 10 #[.int .i64 (t : Int)] w fun e w' => e = .returned (.tuple #[.int .i64 (csize t : Nat), .int .i64 0]) ∧ Below w.heap.size w w' := by
  have hn : ∀ w a n c, (binOp BinOp.eql 56 (.slice (some a) n c) (.slice none 0 0)).run Try.prog w = .ok (.bool false) w := fun w a n c => (Lib.run_eql_slice_nil w _ _ _ _ _ _ _ Try.underlying56)
  have hb3 := spn_bd t
  go_enter Try.func10, Try.ntmps10
  go_wp2_with (go_at_call 31; refine (spans_ok t ht _).mono ?_; rintro e w1 ⟨a, rfl, hsp, hbel⟩)
  obtain ⟨g, hg1, hg2, hg3⟩ := hsp
  cases hg1
  have H3 := Lib.hid hg3
  have HB := Lib.hid hbel
  clear hg3 hbel
  go_loopw [5, 14] (fun n i wr => ∃ k : Nat, k ≤ spn t ∧ i = .int .i64 k ∧ n = .int .i64 (spw t k : Nat) ∧ Below w1.heap.size w1 wr) (fun _ i _ => spn t - (intOf i).toNat)
  case atStart => exact ⟨0, Nat.zero_le _, rfl, rfl, Below.refl _ _⟩
  case round =>
    obtain ⟨k, hk, rfl, rfl, hbr⟩ := hrel
    by_cases hlt : k < spn t
    · obtain ⟨c0, c1, c2⟩ := H3.out k hlt
      have c0 := (hbr.cell (p := ⟨g, k * 3, none⟩) hg2).trans c0
      have c1 := (hbr.cell (p := ⟨g, k * 3 + 1, none⟩) hg2).trans c1
      have c2 := (hbr.cell (p := ⟨g, k * 3 + 2, none⟩) hg2).trans c2
      obtain ⟨q1, q2, q3, q4, q5, q6, q7⟩ := sp_bd t ht k hlt
      have HS := Lib.hid (spw_succ t k)
      have HR := Lib.hid hbr
      clear hbr
      generalize spf t k = f at *
      generalize spt t k = u at *
      generalize spd t k = d at *
      go_wp2
      go_roundw
      case rel => exact ⟨k + 1, by omega, by go_num, by rw [HS.out]; congr 1; omega, (HR.out.alloc HR.out.size _)⟩
      case measure => simp [intOf]; omega
    · obtain rfl : k = spn t := by omega
      have hle := csize_le t ht
      have HR := Lib.hid hbr
      clear hbr
      go_wp2
      go_ret2
      refine ⟨?_, (HB.out.trans (HR.out.mono HB.out.size))⟩
      have e := wrap_pow _ hle
      show Ending.returned (.tuple #[.int .i64 (wrap64 (2 ^ spw t (spn t))), .int .i64 0]) = _
      rw [e]; rfl
end Go.Proofs.Ytknhgenhknjkoaa
