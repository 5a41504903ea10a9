/- Package context: a pixel's context (At). Conditions: the bounds that each theorem names. -/
import Derived.Test.YtknhgenhknjkoaaCa
import Derived.Laws.BitsLemmas
namespace Go.Bm
/-- j places of a row of a template are gathered behind n -/
def rowF (P : Int → Int → Nat) (x y f d : Int) (n : Nat) : Nat → Nat
  | 0 => n
  | j + 1 => 2 * rowF P x y f d n j + P (x + (f + j)) (y + d)
/-- a context out of k rows of template t -/
def ctxK (t : Nat) (P : Int → Int → Nat) (x y : Int) : Nat → Nat
  | 0 => 0
  | k + 1 => rowF P x y (spf t k) (spd t k) (ctxK t P x y k) (spt t k - spf t k + 1).toNat
/-- a pixel's context -/
def ctx (t : Nat) (P : Int → Int → Nat) (x y : Int) : Nat := ctxK t P x y (spn t)
theorem rowF_lt {P : Int → Int → Nat} (hP : ∀ x y, P x y ≤ 1) {x y f d : Int} {n m : Nat} (hn : n < 2 ^ m) (j : Nat) : rowF P x y f d n j < 2 ^ (m + j) := by
  induction j with
  | zero => exact hn
  | succ j ih =>
    have h1 := hP (x + (f + j)) (y + d)
    rw [rowF, ← Nat.add_assoc, Nat.pow_succ]
    omega
theorem ctxK_lt {P : Int → Int → Nat} (hP : ∀ x y, P x y ≤ 1) (t : Nat) (x y : Int) (k : Nat) : ctxK t P x y k < 2 ^ spw t k := by
  induction k with
  | zero => simp [ctxK, spw]
  | succ k ih => rw [ctxK, spw_succ]; exact rowF_lt hP ih _
theorem rowF_zero {P : Int → Int → Nat} {x y f d : Int} (h : ∀ j : Nat, P (x + (f + j)) (y + d) = 0) (j : Nat) : rowF P x y f d 0 j = 0 := by
  induction j with
  | zero => rfl
  | succ j ih => rw [rowF, ih, h]
theorem rowF_off (P : Int → Int → Nat) (x y f d : Int) (n : Nat) (j : Nat) : rowF P x y f d n j = n * 2 ^ j + rowF P x y f d 0 j := by
  induction j with
  | zero => simp [rowF]
  | succ j ih =>
    rw [rowF, rowF, ih, Nat.pow_succ]
    have : n * (2 ^ j * 2) = 2 * (n * 2 ^ j) := by rw [← Nat.mul_assoc, Nat.mul_comm]
    omega
theorem or_bit (n b : Nat) (hn : n < 4611686018427387904) (hb : b ≤ 1) : bits .or .i64 ((n : Int) * 2) (b : Int) = ((2 * n + b : Nat) : Int) := by
  have := bits_join .i64 63 (by decide) (fun n h0 h1 => by rw [IntKind.wrap_i64]; omega) 1 ((n : Int) * 2) (b : Int) (by omega) (by omega) (by omega) (by omega) (by omega) (by omega)
  rw [this]; omega
theorem rowF_eq0 {P : Int → Int → Nat} {x y f d : Int} (m : Nat) (h : ∀ j : Nat, j < m → P (x + (f + j)) (y + d) = 0) : ∀ j, j ≤ m → rowF P x y f d 0 j = 0
  | 0, _ => rfl
  | j + 1, hj => by rw [rowF, rowF_eq0 m h j (by omega), h j (by omega)]
theorem ctx_zero {t : Nat} (ht : t < 4) {P : Int → Int → Nat} {x y : Int} (h : ∀ dx dy, -4 ≤ dx → dx ≤ 3 → -2 ≤ dy → dy ≤ 0 → P (x + dx) (y + dy) = 0) : ctx t P x y = 0 := by
  have : ∀ k, k ≤ spn t → ctxK t P x y k = 0 := by
    intro k
    induction k with
    | zero => intro _; rfl
    | succ k ih =>
      intro hk
      obtain ⟨q1, q2, q3, q4, q5, q6, q7⟩ := sp_bd t ht k (by omega)
      rw [ctxK, ih (by omega)]
      exact rowF_eq0 _ (fun j hj => h _ _ (by omega) (by omega) (by omega) (by omega)) _ (Nat.le_refl _)
  exact this _ (Nat.le_refl _)
theorem px_far {W H : Nat} {B : Nat → Nat} {x y : Int} (h : ¬ (0 ≤ x ∧ x < W ∧ 0 ≤ y ∧ y < H)) : px W H B x y = 0 := by unfold px; exact if_neg h
theorem ctx_far {t : Nat} (ht : t < 4) {W H : Nat} {B : Nat → Nat} {x y : Int} (h : x < -3 ∨ W + 4 ≤ x ∨ y < 0 ∨ H + 2 ≤ y) : ctx t (px W H B) x y = 0 :=
  ctx_zero ht fun dx dy h1 h2 h3 h4 => px_far (by omega)
end Go.Bm
namespace Go.Proofs.Ytknhgenhknjkoaa
open Go.RowKit Go.Bm

theorem IsMap.below {w w' : World} {v : Value} {W H : Nat} {B : Nat → Nat} (h : IsMap w v W H B) (hb : Below w.heap.size w w') : IsMap w' v W H B := by
  obtain ⟨g, a, cap, h1, h2, h3, h4, h5, h6, h7⟩ := h
  exact ⟨g, a, cap, h1, Nat.lt_of_lt_of_le h2 hb.size, (hb.cell (p := ⟨g, 0, none⟩) h2).trans h3, (hb.cell (p := ⟨g, 1, none⟩) h2).trans h4, (hb.cell (p := ⟨g, 2, none⟩) h2).trans h5, (hb.cell (p := ⟨g, 3, none⟩) h2).trans h6, h7.below hb⟩

/-- places that are not added to -/
def inR (x : Int) : Prop := -4611686018427387904 ≤ x ∧ x ≤ 4611686018427387903

set_option maxHeartbeats 4000000 in
theorem at_near (W H : Nat) (a : Option Addr) (n cap : Nat) (B : Nat → Nat) (t : Nat) (x y : Int) (w : World) (hB : IsWords w a n cap B) (hb : okB W H n B) (ht : t < 4) (hx : inR x) (hy : inR y) :
    Calls Try.prog 14 #[.agg #[.int .i64 (W : Int), .int .i64 (H : Int), .slice a n cap], .int .i64 (t : Int), .int .i64 x, .int .i64 y] w
      fun e w' => e = .returned (.tuple #[.int .i64 (ctx t (px W H B) x y : Nat), .int .i64 0]) ∧ Below w.heap.size w w' := by
  have hn : ∀ w a n c, (binOp BinOp.eql 56 (.slice (some a) n c) (.slice none 0 0)).run Try.prog w = .ok (.bool false) w := fun w a n c => (Lib.run_eql_slice_nil w _ _ _ _ _ _ _ Try.underlying56)
  obtain ⟨hx1, hx2⟩ := hx
  obtain ⟨hy1, hy2⟩ := hy
  have hw1 : W ≤ 1048576 := by have := (okS_le hb.1).1; omega
  have hw2 : H ≤ 1048576 := by have := (okS_le hb.1).2; omega
  have hb3 := spn_bd t
  have HB := Lib.hid hB
  have HO := Lib.hid hb
  have hbel := (Below.refl w.heap.size w).alloc (Nat.le_refl _) (.cells #[.int .i64 (W : Int), .int .i64 (H : Int), .slice a n cap] 24)
  have HL := Lib.hid hbel
  clear hB hb hbel
  go_enter Try.func14, Try.ntmps14
  go_upto_region 4 with (go_at_call 31; refine (spans_ok t ht _).mono ?_; rintro e w1 ⟨g0, rfl, hsp, hbel⟩)
  have c0 : w1.cell? ⟨w.heap.size, 0, none⟩ = some (.int .i64 (W : Int)) := (hbel.cell (p := ⟨w.heap.size, 0, none⟩) (by simp)).trans (by rw [World.cell?_alloc_at _ _ _ _ rfl]; rfl)
  have c1 : w1.cell? ⟨w.heap.size, 1, none⟩ = some (.int .i64 (H : Int)) := (hbel.cell (p := ⟨w.heap.size, 1, none⟩) (by simp)).trans (by rw [World.cell?_alloc_at _ _ _ _ rfl]; rfl)
  have c2 : w1.cell? ⟨w.heap.size, 2, none⟩ = some (.slice a n cap) := (hbel.cell (p := ⟨w.heap.size, 2, none⟩) (by simp)).trans (by rw [World.cell?_alloc_at _ _ _ _ rfl]; rfl)
  have HB1 := Lib.hid (HL.out.trans (hbel.mono (by simp)))
  have HW := Lib.hid (HB.out.below HB1.out)
  have HS := Lib.hid hsp
  clear hsp hbel HL HB
  go_upto_region 9 with (go_at_call 32; refine (from_ok W H a n cap B _ HW.out HO.out).mono ?_; rintro e w2 ⟨v, rfl, hM, hbel⟩)
  have HM := Lib.hid hM
  have HB2 := Lib.hid (HB1.out.trans (hbel.mono HB1.out.size))
  have HS2 := Lib.hid (HS.out.below hbel)
  clear hbel hM HB1 HW HS c0 c1 c2
  obtain ⟨g, hg1, hg2, hg3⟩ := HS2.out
  cases hg1
  have H3 := Lib.hid hg3
  clear hg3 HS2
  go_wp2_with fail
  go_loopw [13, 44] (fun n i wr => ∃ k : Nat, k ≤ spn t ∧ i = .int .i64 k ∧ n = .int .i64 (ctxK t (px W H B) x y k : Nat) ∧ Below w2.heap.size w2 wr) (fun _ i _ => spn t - (intOf i).toNat)
  case atStart => exact ⟨0, Nat.zero_le _, rfl, rfl, Below.refl _ _⟩
  case round =>
    obtain ⟨k, hk, rfl, rfl, hbr⟩ := hrel
    by_cases hlt : k < spn t
    · obtain ⟨c0, c1, c2⟩ := H3.out k hlt
      have c0 := (hbr.cell (p := ⟨g, k * 3, none⟩) hg2).trans c0
      have c1 := (hbr.cell (p := ⟨g, k * 3 + 1, none⟩) hg2).trans c1
      have c2 := (hbr.cell (p := ⟨g, k * 3 + 2, none⟩) hg2).trans c2
      obtain ⟨q1, q2, q3, q4, q5, q6, q7⟩ := sp_bd t ht k hlt
      have hlk := ctxK_lt (px_le W H B) t x y k
      have hck : Hid (ctxK t (px W H B) x y (k + 1) = rowF (px W H B) x y (spf t k) (spd t k) (ctxK t (px W H B) x y k) (spt t k - spf t k + 1).toNat) := rfl
      have hlk2 := Nat.lt_of_lt_of_le hlk (Nat.pow_le_pow_right (by decide : 0 < 2) q7)
      have HR := Lib.hid hbr
      have HF := fun j => Lib.hid (rowF_lt (P := px W H B) (px_le W H B) (x := x) (y := y) (f := spf t k) (d := spd t k) hlk2 j)
      clear hbr hlk
      generalize spf t k = f at *
      generalize spt t k = u at *
      generalize spd t k = d at *
      generalize ctxK t (px W H B) x y k = n0 at *
      go_wp2_with fail
      have e0 : (wr.alloc (.cells #[.int .i64 d, .int .i64 f, .int .i64 u] 59)).cell? ⟨wr.heap.size, 0, none⟩ = some (.int .i64 d) := by rw [World.cell?_alloc_at _ _ _ _ rfl]; rfl
      have e2 : (wr.alloc (.cells #[.int .i64 d, .int .i64 f, .int .i64 u] 59)).cell? ⟨wr.heap.size, 2, none⟩ = some (.int .i64 u) := by rw [World.cell?_alloc_at _ _ _ _ rfl]; rfl
      have HX := Lib.hid (HR.out.alloc HR.out.size (.cells #[.int .i64 d, .int .i64 f, .int .i64 u] 59))
      obtain ⟨gs, hgs⟩ : ∃ gs, wr.heap.size = gs := ⟨_, rfl⟩
      rw [hgs] at e0 e2 ⊢
      clear c0 c1 c2 HR hgs
      generalize wr.alloc (.cells #[.int .i64 d, .int .i64 f, .int .i64 u] 59) = w3 at *
      go_loopw [13, 16] (fun n i wx => ∃ j : Nat, j ≤ (u - f + 1).toNat ∧ i = .int .i64 (f + j) ∧ n = .int .i64 (rowF (px W H B) x y f d n0 j : Nat) ∧ ∃ m, wx = w3.drewN m) (fun _ i _ => (u + 1 - intOf i).toNat)
      case atStart => exact ⟨0, Nat.zero_le _, by simp, rfl, 0, rfl⟩
      case round =>
        obtain ⟨j, hj, rfl, rfl, m, rfl⟩ := hrel
        by_cases hju : j < (u - f + 1).toNat
        · have hfj : f + (j : Int) ≤ u := by omega
          have hlt2 : rowF (px W H B) x y f d n0 j < 2 ^ 24 := Nat.lt_of_lt_of_le (HF j).out (Nat.pow_le_pow_right (by decide) (by omega))
          have hsc : Hid (rowF (px W H B) x y f d n0 (j + 1) = 2 * rowF (px W H B) x y f d n0 j + px W H B (x + (f + j)) (y + d)) := rfl
          have hpl := px_le W H B (x + (f + j)) (y + d)
          generalize rowF (px W H B) x y f d n0 j = r at *
          go_wp2_with (go_at_call 33; refine (mget0 v W H B (x + (f + j)) (y + d) _ hw1 hw2 ((HM.out.below HX.out).below (below_drewN (Below.refl _ _) _))).mono ?_; rintro e w' ⟨rfl, m2, rfl⟩)
          go_roundw
          case rel => exact ⟨j + 1, by omega, by congr 1; omega, by rw [or_bit _ _ (by omega) hpl, hsc.out], _, rfl⟩
          case measure => simp [intOf]; omega
        · obtain rfl : j = (u - f + 1).toNat := by omega
          have hfj : u < f + ((u - f + 1).toNat : Int) := by omega
          have hfj2 : decide (f + ((u - f + 1).toNat : Int) ≤ u) = false := by simp; omega
          go_wp2
          go_roundw
          case rel => exact ⟨k + 1, by omega, by go_num, by rw [hck.out], below_drewN HX.out _⟩
          case measure => simp [intOf]; omega
    · obtain rfl : k = spn t := by omega
      have HR := Lib.hid hbr
      clear hbr
      go_wp2
      go_ret2
      exact ⟨rfl, (HB2.out.trans (HR.out.mono HB2.out.size))⟩

set_option maxHeartbeats 1000000 in
theorem at_no1 (t x y : Int) (ht : ¬ (0 ≤ t ∧ t < 4)) (w : World) (W H : Int) (a : Option Addr) (n cap : Nat) :
    Calls Try.prog 14 #[.agg #[.int .i64 W, .int .i64 H, .slice a n cap], .int .i64 t, .int .i64 x, .int .i64 y] w fun e w' => e = .returned (.tuple #[.int .i64 0, .int .i64 60]) ∧ Below w.heap.size w w' := by
  have hn : ∀ w, (binOp BinOp.eql 56 (.slice none 0 0) (.slice none 0 0)).run Try.prog w = .ok (.bool true) w := fun w => (Lib.run_eql_slice_nil w _ _ _ _ _ _ _ Try.underlying56)
  have HT := Lib.hid ht
  clear ht
  go_enter Try.func14, Try.ntmps14
  go_wp2_with (go_at_call 31; refine (spans_no t HT.out _).mono ?_; rintro e w' ⟨rfl, rfl⟩)
  go_ret2
  exact ⟨rfl, (Below.refl _ _).alloc (Nat.le_refl _) _⟩

theorem box_cells (w : World) (W H : Int) (a : Option Addr) (n cap : Nat) {w1 : World} (hbel : Below (w.alloc (.cells #[.int .i64 W, .int .i64 H, .slice a n cap] 24)).heap.size (w.alloc (.cells #[.int .i64 W, .int .i64 H, .slice a n cap] 24)) w1) :
    w1.cell? ⟨w.heap.size, 0, none⟩ = some (.int .i64 W) ∧ w1.cell? ⟨w.heap.size, 1, none⟩ = some (.int .i64 H) ∧ w1.cell? ⟨w.heap.size, 2, none⟩ = some (.slice a n cap) :=
  ⟨(hbel.cell (p := ⟨w.heap.size, 0, none⟩) (by simp)).trans (by rw [World.cell?_alloc_at _ _ _ _ rfl]; rfl), (hbel.cell (p := ⟨w.heap.size, 1, none⟩) (by simp)).trans (by rw [World.cell?_alloc_at _ _ _ _ rfl]; rfl),
    (hbel.cell (p := ⟨w.heap.size, 2, none⟩) (by simp)).trans (by rw [World.cell?_alloc_at _ _ _ _ rfl]; rfl)⟩

set_option maxHeartbeats 1000000 in
theorem at_no2 (W H : Int) (a : Option Addr) (n cap : Nat) (B : Nat → Nat) (t : Nat) (x y : Int) (w : World) (hB : IsWords w a n cap B) (hb : ¬ okB W H n B) (ht : t < 4) :
    Calls Try.prog 14 #[.agg #[.int .i64 W, .int .i64 H, .slice a n cap], .int .i64 (t : Int), .int .i64 x, .int .i64 y] w
      fun e w' => e = .returned (.tuple #[.int .i64 0, .int .i64 62]) ∧ Below w.heap.size w w' := by
  have hn : ∀ w a n c, (binOp BinOp.eql 56 (.slice (some a) n c) (.slice none 0 0)).run Try.prog w = .ok (.bool false) w := fun w a n c => (Lib.run_eql_slice_nil w _ _ _ _ _ _ _ Try.underlying56)
  have HB := Lib.hid hB
  have HO := Lib.hid hb
  have hbel := (Below.refl w.heap.size w).alloc (Nat.le_refl _) (.cells #[.int .i64 W, .int .i64 H, .slice a n cap] 24)
  have HL := Lib.hid hbel
  clear hB hb hbel
  go_enter Try.func14, Try.ntmps14
  go_upto_region 4 with (go_at_call 31; refine (spans_ok t ht _).mono ?_; rintro e w1 ⟨g0, rfl, hsp, hbel⟩)
  obtain ⟨c0, c1, c2⟩ := box_cells w W H a n cap hbel
  have HB1 := Lib.hid (HL.out.trans (hbel.mono (by simp)))
  have HW := Lib.hid (HB.out.below HB1.out)
  clear hsp hbel HL HB
  go_wp2_with (go_at_call 32; refine (from_no W H a n cap B _ HW.out HO.out).mono ?_; rintro e w2 ⟨rfl, hbel⟩)
  go_ret2
  exact ⟨rfl, HB1.out.trans (hbel.mono HB1.out.size)⟩

set_option maxHeartbeats 2000000 in
theorem at_far (W H : Nat) (a : Option Addr) (n cap : Nat) (B : Nat → Nat) (t : Nat) (x y : Int) (w : World) (hB : IsWords w a n cap B) (hb : okB W H n B) (ht : t < 4) (hxy : ¬ (inR x ∧ inR y)) :
    Calls Try.prog 14 #[.agg #[.int .i64 (W : Int), .int .i64 (H : Int), .slice a n cap], .int .i64 (t : Int), .int .i64 x, .int .i64 y] w
      fun e w' => e = .returned (.tuple #[.int .i64 0, .int .i64 0]) ∧ Below w.heap.size w w' := by
  have hn : ∀ w a n c, (binOp BinOp.eql 56 (.slice (some a) n c) (.slice none 0 0)).run Try.prog w = .ok (.bool false) w := fun w a n c => (Lib.run_eql_slice_nil w _ _ _ _ _ _ _ Try.underlying56)
  have HB := Lib.hid hB
  have HO := Lib.hid hb
  have hbel := (Below.refl w.heap.size w).alloc (Nat.le_refl _) (.cells #[.int .i64 (W : Int), .int .i64 (H : Int), .slice a n cap] 24)
  have HL := Lib.hid hbel
  clear hB hb hbel
  unfold inR at hxy
  have HXY := Lib.hid hxy
  clear hxy
  go_enter Try.func14, Try.ntmps14
  go_upto_region 4 with (go_at_call 31; refine (spans_ok t ht _).mono ?_; rintro e w1 ⟨g0, rfl, hsp, hbel⟩)
  obtain ⟨c0, c1, c2⟩ := box_cells w W H a n cap hbel
  have HB1 := Lib.hid (HL.out.trans (hbel.mono (by simp)))
  have HW := Lib.hid (HB.out.below HB1.out)
  clear hsp hbel HL HB
  go_upto_region 7 with (go_at_call 32; refine (from_ok W H a n cap B _ HW.out HO.out).mono ?_; rintro e w2 ⟨v, rfl, hM, hbel⟩)
  have HB2 := Lib.hid (HB1.out.trans (hbel.mono HB1.out.size))
  clear hbel hM HB1 HW c0 c1 c2
  by_cases h1 : x < -4611686018427387904
  · go_wp2
    go_ret2
    exact ⟨rfl, HB2.out⟩
  · by_cases h2 : 4611686018427387903 < x
    · go_wp2
      go_ret2
      exact ⟨rfl, HB2.out⟩
    · by_cases h3 : y < -4611686018427387904
      · go_wp2
        go_ret2
        exact ⟨rfl, HB2.out⟩
      · have h4 : 4611686018427387903 < y := by have := HXY.out; omega
        go_wp2
        go_ret2
        exact ⟨rfl, HB2.out⟩

/-- At -/
theorem at_ok (W H : Nat) (a : Option Addr) (n cap : Nat) (B : Nat → Nat) (t : Nat) (x y : Int) (w : World) (hB : IsWords w a n cap B) (hb : okB W H n B) (ht : t < 4) :
    Calls Try.prog 14 #[.agg #[.int .i64 (W : Int), .int .i64 (H : Int), .slice a n cap], .int .i64 (t : Int), .int .i64 x, .int .i64 y] w
      fun e w' => e = .returned (.tuple #[.int .i64 (ctx t (px W H B) x y : Nat), .int .i64 0]) ∧ Below w.heap.size w w' := by
  by_cases h : inR x ∧ inR y
  · exact at_near W H a n cap B t x y w hB hb ht h.1 h.2
  · have h1 := (okS_le hb.1).1
    have h2 := (okS_le hb.1).2
    have e : ctx t (px W H B) x y = 0 := ctx_far ht (by unfold inR at h; omega)
    rw [e]
    exact at_far W H a n cap B t x y w hB hb ht h
end Go.Proofs.Ytknhgenhknjkoaa
