/- The document's own answer for contexts: Places, May, Size, At, and 'row' of the statement. Conditions: the bounds that each theorem names. -/
import Derived.Test.YtknhgenhknjkoaaCn
namespace Go.Bm
/-- a template's places, to the right and down in turns -/
def plA : Nat → List Int
  | 0 => [-2, -2, -1, -2, 0, -2, 1, -2, 2, -2, -3, -1, -2, -1, -1, -1, 0, -1, 1, -1, 2, -1, 3, -1, -4, 0, -3, 0, -2, 0, -1, 0]
  | 1 => [-1, -2, 0, -2, 1, -2, 2, -2, -2, -1, -1, -1, 0, -1, 1, -1, 2, -1, 3, -1, -3, 0, -2, 0, -1, 0]
  | 2 => [-1, -2, 0, -2, 1, -2, -2, -1, -1, -1, 0, -1, 1, -1, 2, -1, -2, 0, -1, 0]
  | _ => [-3, -1, -2, -1, -1, -1, 0, -1, 1, -1, 2, -1, -4, 0, -3, 0, -2, 0, -1, 0]
def plV (t i : Nat) : Int := (plA t).getD i 0
/-- k places gathered -/
def pf (t : Nat) (P : Int → Int → Nat) (x y : Int) : Nat → Nat
  | 0 => 0
  | k + 1 => 2 * pf t P x y k + P (x + plV t (2 * k)) (y + plV t (2 * k + 1))
theorem pf_ctx {t : Nat} (ht : t < 4) (P : Int → Int → Nat) (x y : Int) : pf t P x y (spw t (spn t)) = ctx t P x y := by
  match t, ht with
  | 0, _ => rfl
  | 1, _ => rfl
  | 2, _ => rfl
  | 3, _ => rfl
theorem pl_len : ∀ t, t < 4 → (plA t).length = 2 * spw t (spn t) := by decide
theorem pf_lt {P : Int → Int → Nat} (hP : ∀ x y, P x y ≤ 1) (t : Nat) (x y : Int) (k : Nat) : pf t P x y k < 2 ^ k := by
  induction k with
  | zero => simp [pf]
  | succ k ih =>
    have h1 := hP (x + plV t (2 * k)) (y + plV t (2 * k + 1))
    rw [pf, Nat.pow_succ]
    omega
theorem plV_bd : ∀ t, t < 4 → ∀ i, i < 32 → -4 ≤ plV t i ∧ plV t i ≤ 3 := by decide
end Go.Bm
namespace Go.Proofs.Ytknhgenhknjkoaa
open Go.RowKit Go.Bm

theorem may6_ok (t : Nat) (ht : t < 4) (w : World) : Calls Try.prog 11 #[.int .i64 (t : Int)] w fun e w' => e = .returned (.bool true) ∧ w = w' := by
  have h1 : (t : Int) ≤ 3 := by omega
  go_enter Try.func11, Try.ntmps11
  go_wp2
  go_ret
  exact ⟨rfl, rfl⟩
theorem may6_no (t : Int) (ht : ¬ (0 ≤ t ∧ t < 4)) (w : World) : Calls Try.prog 11 #[.int .i64 t] w fun e w' => e = .returned (.bool false) ∧ w = w' := by
  by_cases h1 : t < 0
  · clear ht
    go_enter Try.func11, Try.ntmps11
    go_wp2
    go_ret
    exact ⟨rfl, rfl⟩
  · have h2 : 3 < t := by omega
    have h3 : decide (t ≤ 3) = false := by simp; omega
    clear ht
    go_enter Try.func11, Try.ntmps11
    go_wp2
    go_ret
    exact ⟨rfl, rfl⟩

theorem ints_list (w : World) (l : List Int) : IsInts (w.alloc (.cells (l.map (Value.int .i64)).toArray 3)) (some ⟨w.heap.size, 0, none⟩) l.length (fun i => l.getD i 0) := by
  refine Or.inr ⟨w.heap.size, 0, rfl, by simp, fun i hi => ?_⟩
  rw [Nat.zero_add, World.cell?_alloc_at _ _ _ _ rfl, List.getElem?_toArray, List.getElem?_map, List.getElem?_eq_getElem hi]
  simp [List.getD, List.getElem?_eq_getElem hi]

set_option maxHeartbeats 1000000 in
theorem places_ok (t : Nat) (ht : t < 4) (w : World) : Calls Try.prog 17 #[.int .i64 (t : Int)] w fun e w' => e = .returned (.slice (some ⟨w.heap.size, 0, none⟩) (plA t).length (plA t).length) ∧ w.alloc (.cells ((plA t).map (Value.int .i64)).toArray 3) = w' := by
  match t, ht with
  | 0, _ =>
    go_enter Try.func17, Try.ntmps17
    go_wp2
    go_ret
    exact ⟨rfl, rfl⟩
  | 1, _ =>
    go_enter Try.func17, Try.ntmps17
    go_wp2
    go_ret
    exact ⟨rfl, rfl⟩
  | 2, _ =>
    go_enter Try.func17, Try.ntmps17
    go_wp2
    go_ret
    exact ⟨rfl, rfl⟩
  | 3, _ =>
    go_enter Try.func17, Try.ntmps17
    go_wp2
    go_ret
    exact ⟨rfl, rfl⟩
theorem places0 (t : Nat) (ht : t < 4) (w : World) : Calls Try.prog 17 #[.int .i64 (t : Int)] w fun e w' => ∃ g, e = .returned (.slice (some ⟨g, 0, none⟩) (2 * spw t (spn t)) (2 * spw t (spn t))) ∧ IsInts w' (some ⟨g, 0, none⟩) (2 * spw t (spn t)) (plV t) ∧ Below w.heap.size w w' :=
  (places_ok t ht w).mono fun e w' ⟨he, hw⟩ => by
    have hl := pl_len t ht
    refine ⟨w.heap.size, by rw [he, hl], ?_, by rw [← hw]; exact (Below.refl _ _).alloc (Nat.le_refl _) _⟩
    have := ints_list w (plA t)
    rw [hl] at this
    rw [← hw]
    exact this

theorem places1 (t k : Nat) (ht : t < 4) (hk : spw t (spn t) = k) (w : World) : Calls Try.prog 17 #[.int .i64 (t : Int)] w fun e w' => ∃ g, e = .returned (.slice (some ⟨g, 0, none⟩) (2 * k) (2 * k)) ∧ IsInts w' (some ⟨g, 0, none⟩) (2 * k) (plV t) ∧ Below w.heap.size w w' := by
  subst hk
  exact places0 t ht w
set_option maxHeartbeats 1000000 in
theorem size6 (t : Nat) (ht : t < 4) (w : World) : Calls Try.prog 12 #[.int .i64 (t : Int)] w fun e w' => e = .returned (.int .i64 (csize t : Nat)) ∧ Below w.heap.size w w' := by
  have hz := csize_le t ht
  have h2 := wrap_pow _ hz
  have hq : 2 * spw t (spn t) / 2 = spw t (spn t) := by omega
  have H2 : Hid (Go.RowKit.wrap64 (2 ^ spw t (spn t)) = ((csize t : Nat) : Int)) := h2
  clear h2
  generalize hk : spw t (spn t) = k at *
  have HK := Lib.hid hk
  clear hk
  go_enter Try.func12, Try.ntmps12
  go_wp2_with (go_at_call 17; refine (places1 t k ht HK.out _).mono ?_; rintro e w1 ⟨g, rfl, _, hbel⟩)
  go_ret
  exact ⟨by show Ending.returned (.int .i64 (wrap64 (2 ^ k))) = _; rw [H2.out], hbel⟩

set_option maxRecDepth 100000 in
set_option maxHeartbeats 4000000 in
theorem at6_near (W H : Nat) (a : Option Addr) (n cap : Nat) (B : Nat → Nat) (t K g0 cp : Nat) (x y : Int) (w : World) (hB : IsWords w a n cap B) (hb : okB W H n B) (ht : t < 4) (hK : spw t (spn t) = K) (N : Nat) (hN : N = 2 * K) (hP : IsInts w (some ⟨g0, 0, none⟩) N (plV t))
    (hx1 : -10 ≤ x) (hx2 : x ≤ W + 10) (hy1 : -10 ≤ y) (hy2 : y ≤ H + 10) :
    Calls Try.prog 18 #[.agg #[.int .i64 (W : Int), .int .i64 (H : Int), .slice a n cap], .slice (some ⟨g0, 0, none⟩) N cp, .int .i64 x, .int .i64 y] w
      fun e w' => e = .returned (.int .i64 (pf t (px W H B) x y K : Nat)) ∧ Below w.heap.size w w' := by
  have hw1 : W ≤ 1048576 := by have := (okS_le hb.1).1; omega
  have hw2 : H ≤ 1048576 := by have := (okS_le hb.1).2; omega
  have hn0 : n = H * wd W := by have := hb.2.1; simpa using this
  have hK16 : K ≤ 16 := by rw [← hK]; exact csize_le t ht
  have HN0 := Lib.hid hn0
  have hi := BInv.new (W := W) (H := H) hB
  have HI := Lib.hid hi
  have HP := Lib.hid (hP.below ((Below.refl w.heap.size w).alloc (Nat.le_refl _) (.cells #[.int .i64 (W : Int), .int .i64 (H : Int), .slice a n cap] 24)))
  have HNN := Lib.hid hN
  have hd1 : decide (x < -10) = false := by simp; omega
  have hd2 : decide (y < -10) = false := by simp; omega
  have hd3 : decide ((W : Int) + 10 < x) = false := by simp; omega
  have hd4 : decide ((H : Int) + 10 < y) = false := by simp; omega
  clear hB hb hi hP hn0 hK hN
  go_enter Try.func18, Try.ntmps18
  go_upto_region 1 with fail
  obtain ⟨W0, hW0⟩ : ∃ W0, w.heap.size = W0 := ⟨_, rfl⟩
  have HI := Lib.hid (hW0 ▸ HI.out)
  rw [hW0]
  have HW0 := Lib.hid hW0
  clear hW0
  generalize w.alloc (.cells #[.int .i64 (W : Int), .int .i64 (H : Int), .slice a n cap] 24) = w0 at *
  have c0 := HI.out.c0
  have c1 := HI.out.c1
  go_wp2_with fail
  clear c0 c1
  go_loopw [9, 10] (fun s v wr => ∃ k : Nat, k ≤ K ∧ v = .int .i64 (2 * k : Nat) ∧ s = .int .i64 (pf t (px W H B) x y k : Nat) ∧ Hid (Below w0.heap.size w0 wr)) (fun _ v _ => N - (intOf v).toNat)
  case atStart => exact ⟨0, Nat.zero_le _, rfl, rfl, Below.refl _ _⟩
  case round =>
    obtain ⟨k, hk, rfl, rfl, hbr⟩ := hrel
    have hi := Lib.hid (HI.out.step hbr.out)
    have hp := Lib.hid (HP.out.below hbr.out)
    by_cases hlt : k < K
    · have c0 := hi.out.c0
      have c1 := hi.out.c1
      have c2 := hi.out.c2
      rcases hp.out with h0 | ⟨_, _, h1, hpl, hcell⟩
      · have := HNN.out; omega
      · cases h1
        have p0 := hcell (2 * k) (by have := HNN.out; omega)
        have p1 := hcell (2 * k + 1) (by have := HNN.out; omega)
        rw [Nat.zero_add] at p0 p1
        have hsc : Hid (pf t (px W H B) x y (k + 1) = 2 * pf t (px W H B) x y k + px W H B (x + plV t (2 * k)) (y + plV t (2 * k + 1))) := rfl
        have hb0 := plV_bd t ht (2 * k) (by omega)
        have hb1 := plV_bd t ht (2 * k + 1) (by omega)
        have hpx := px_le W H B (x + plV t (2 * k)) (y + plV t (2 * k + 1))
        have hpl2 := Nat.lt_of_lt_of_le (pf_lt (px_le W H B) t x y k) (Nat.pow_le_pow_right (by decide : 0 < 2) (show k ≤ 16 by omega))
        obtain ⟨i, hik⟩ : ∃ i, 2 * k = i := ⟨_, rfl⟩
        have hiK : i + 1 < N := by have := HNN.out; omega
        have hN32 : N ≤ 32 := by have := HNN.out; omega
        rw [hik] at p0 p1 hsc hb0 hb1 hpx ⊢
        have HIK := Lib.hid hik
        have HPL : g0 < wr.heap.size := hpl
        clear hcell hik hpl
        generalize plV t i = q0 at *
        generalize plV t (i + 1) = q1 at *
        generalize pf t (px W H B) x y k = s at *
        have z1 : (0 : Int) ≤ (i : Int) := by omega
        have z2 : (i : Int) < (N : Int) := by omega
        have z3 : (0 : Int) ≤ (i : Int) + 1 := by omega
        have z4 : (i : Int) + 1 < (N : Int) := by omega
        have z5 : ((i : Int) + 1).toNat = i + 1 := by omega
        have z6 : IntKind.i64.wrap ((i : Int) + 1) = (i : Int) + 1 := IntWalk.i64_in _ (by omega)
        have z7 : IntKind.i64.wrap (x + q0) = x + q0 := IntWalk.i64_in _ (by omega)
        have z8 : IntKind.i64.wrap (y + q1) = y + q1 := IntWalk.i64_in _ (by omega)
        have z9 : IntKind.i64.wrap (2 * (s : Int)) = 2 * (s : Int) := IntWalk.i64_in _ (by omega)
        have z10 : IntKind.i64.wrap (2 * (s : Int) + (px W H B (x + q0) (y + q1) : Int)) = ((2 * s + px W H B (x + q0) (y + q1) : Nat) : Int) := by rw [IntWalk.i64_in _ (by omega)]; omega
        have iltK : decide (i < N) = true := by simp; omega
        go_upto_region 7 with fail
        go_region_held3 (fun w' => w'.cell? ⟨W0, 0, none⟩ = some (.int .i64 (W : Int)) ∧ w'.cell? ⟨W0, 1, none⟩ = some (.int .i64 (H : Int)) ∧ w'.cell? ⟨W0, 2, none⟩ = some (.slice a n cap) ∧ w'.cell? ⟨g0, i, none⟩ = some (.int .i64 q0) ∧ w'.cell? ⟨g0, i + 1, none⟩ = some (.int .i64 q1)) (go_keep)
          ((go_at_call 25; refine (get_any W H a n cap B (x + q0) (y + q1) _ hw1 hw2 HN0.out ?_).mono ?_; exact hi.out.k; rintro e w3 ⟨rfl, hb3⟩; have hb3 : Below wr.heap.size wr w3 := Below.trans (Below.drew (Below.refl _ wr)) hb3; have bel3 := Lib.hid (hbr.out.trans (hb3.mono hbr.out.size)); have i3 := Lib.hid (HI.out.step bel3.out); have c0 := i3.out.c0; have c1 := i3.out.c1; have c2 := i3.out.c2; have p0 := (hb3.cell (p := ⟨g0, i, none⟩) HPL).trans p0; have p1 := (hb3.cell (p := ⟨g0, i + 1, none⟩) HPL).trans p1; clear hb3))
        clear c0 c1 c2 p0 p1 z5 z6 z7 z8 z9 z10 iltK
        go_wp2_with fail
        go_roundw
        case rel => exact ⟨k + 1, by omega, by have := HIK.out; congr 1; omega, by rw [hsc.out]; congr 1, bel3⟩
        case measure => simp [intOf]; omega
    · obtain rfl : k = K := by omega
      have hz : decide (2 * k < N) = false := by have := HNN.out; simp; omega
      have hz2 : ¬ ((2 * k : Nat) : Int) < (N : Int) := by have := HNN.out; omega
      obtain ⟨i, hik⟩ : ∃ i, 2 * k = i := ⟨_, rfl⟩
      rw [hik] at hz hz2 ⊢
      clear hik
      go_wp2_with fail
      go_ret
      exact ⟨rfl, by rw [HW0.out]; exact HI.out.bel.trans (hbr.out.mono (Nat.le_of_lt HI.out.lt))⟩

set_option maxHeartbeats 2000000 in
theorem at6_far (W H : Nat) (a : Option Addr) (n cap : Nat) (v : Value) (x y : Int) (w : World) (hW : W ≤ 1048576) (hH : H ≤ 1048576) (h : ¬ (-10 ≤ x ∧ x ≤ W + 10 ∧ -10 ≤ y ∧ y ≤ H + 10)) :
    Calls Try.prog 18 #[.agg #[.int .i64 (W : Int), .int .i64 (H : Int), .slice a n cap], v, .int .i64 x, .int .i64 y] w
      fun e w' => e = .returned (.int .i64 0) ∧ Below w.heap.size w w' := by
  have hbel := (Below.refl w.heap.size w).alloc (Nat.le_refl _) (.cells #[.int .i64 (W : Int), .int .i64 (H : Int), .slice a n cap] 24)
  have HB := Lib.hid hbel
  have HH := Lib.hid h
  clear hbel h
  by_cases h1 : x < -10
  · go_enter Try.func18, Try.ntmps18
    go_wp2
    go_ret
    exact ⟨rfl, HB.out⟩
  · by_cases h2 : y < -10
    · go_enter Try.func18, Try.ntmps18
      go_wp2
      go_ret
      exact ⟨rfl, HB.out⟩
    · by_cases h3 : (W : Int) + 10 < x
      · go_enter Try.func18, Try.ntmps18
        go_wp2
        go_ret
        exact ⟨rfl, HB.out⟩
      · have h4 : (H : Int) + 10 < y := by have := HH.out; omega
        go_enter Try.func18, Try.ntmps18
        go_wp2
        go_ret
        exact ⟨rfl, HB.out⟩

/-- At of the reference -/
theorem at6 (W H : Nat) (a : Option Addr) (n cap : Nat) (B : Nat → Nat) (t g0 cp N : Nat) (x y : Int) (w : World) (hB : IsWords w a n cap B) (hb : okB W H n B) (ht : t < 4) (hN : N = 2 * spw t (spn t)) (hP : IsInts w (some ⟨g0, 0, none⟩) N (plV t)) :
    Calls Try.prog 18 #[.agg #[.int .i64 (W : Int), .int .i64 (H : Int), .slice a n cap], .slice (some ⟨g0, 0, none⟩) N cp, .int .i64 x, .int .i64 y] w
      fun e w' => e = .returned (.int .i64 (ctx t (px W H B) x y : Nat)) ∧ Below w.heap.size w w' := by
  have h1 := (okS_le hb.1).1
  have h2 := (okS_le hb.1).2
  by_cases h : -10 ≤ x ∧ x ≤ W + 10 ∧ -10 ≤ y ∧ y ≤ H + 10
  · have := at6_near W H a n cap B t _ g0 cp x y w hB hb ht rfl N hN hP h.1 h.2.1 h.2.2.1 h.2.2.2
    rw [pf_ctx ht] at this
    exact this
  · have e : ctx t (px W H B) x y = 0 := ctx_far ht (by omega)
    rw [e]
    exact at6_far W H a n cap _ x y w (by omega) (by omega) h
end Go.Proofs.Ytknhgenhknjkoaa
