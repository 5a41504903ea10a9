/- Bitmaps: pixels and the contracts of the reference's words, Size, Get. Conditions: the bounds that each theorem names. -/
import Derived.Test.YtfniekdohidbiaaRows
import Derived.Outline
import Derived.Lib.Hide
import Derived.BigQuiet
import Derived.StillTailTactics
import Derived.WalkLawsBesides
import Derived.Deep.RegionHeld3
import Derived.Below
import Derived.WalkSmall
namespace Go.Bm
/-- words of a row -/
def wd (W : Nat) : Nat := (W + 63) / 64
/-- a pixel -/
def px (W H : Nat) (B : Nat → Nat) (x y : Int) : Nat :=
  if 0 ≤ x ∧ x < W ∧ 0 ≤ y ∧ y < H then B (y.toNat * wd W + x.toNat / 64) / 2 ^ (63 - x.toNat % 64) % 2 else 0
theorem px_le (W H : Nat) (B : Nat → Nat) (x y : Int) : px W H B x y ≤ 1 := by unfold px; split <;> omega
/-- a size that may be -/
def okS (W H : Int) : Prop := 1 ≤ W ∧ 1 ≤ H ∧ W * H ≤ 1048576
instance (W H : Int) : Decidable (okS W H) := by unfold okS; infer_instance
theorem okS_le {W H : Int} (h : okS W H) : W ≤ 1048576 ∧ H ≤ 1048576 := by
  obtain ⟨h1, h2, h3⟩ := h
  constructor
  · have := Int.mul_le_mul_of_nonneg_left h2 (show 0 ≤ W by omega); omega
  · have := Int.mul_le_mul_of_nonneg_right h1 (show 0 ≤ H by omega); omega
theorem at_lt {W H x y : Nat} (hx : x < W) (hy : y < H) : y * wd W + x / 64 < H * wd W := by
  have h1 : x / 64 < wd W := by unfold wd; omega
  have h2 : (y + 1) * wd W ≤ H * wd W := Nat.mul_le_mul_right _ hy
  rw [Nat.add_mul] at h2
  omega
/-- the pixels of a row's last word -/
def lastW (W : Nat) : Nat := 18446744073709551615 * 2 ^ ((64 - W % 64) % 64) % 18446744073709551616
theorem wd_le {W : Nat} (h : W ≤ 1048576) : wd W ≤ 16384 := by unfold wd; omega
end Go.Bm
namespace Go.Proofs.Ytfniekdohidbiaa
open Go.RowKit Go.Bm

/-- a slice of words that came in or was made -/
def IsWords (w : World) (a : Option Addr) (len cap : Nat) (L : Nat → Nat) : Prop :=
  len = 0 ∨ ∃ b off, a = some ⟨b, off, none⟩ ∧ len ≤ cap ∧ cap ≤ 9223372036854775807 ∧ b < w.heap.size ∧
    ∀ i, i < len → (w.cell? ⟨b, off + i, none⟩ = some (.int .u64 (L i : Nat)) ∧ L i < 2 ^ 64)

theorem quiet0 {f : FuncId} {args : Array Value} {w : World} {n : Nat} {v : Value}
    (h : Calls Try.prog f args (w.drewN n) fun e w' => e = .returned v ∧ w.drewN n = w') :
    Calls Try.prog f args (w.drewN n) fun e w'' => e = .returned v ∧ ∃ m, w'' = w.drewN m :=
  h.mono fun _ _ ⟨he, hm⟩ => ⟨he, n, hm.symm⟩

theorem quietL {f : FuncId} {args : Array Value} {w : World} {a n : Nat} {v : Value}
    (h : Calls Try.prog f args (w.drewN (a + n)) fun e w' => e = .returned v ∧ w.drewN (a + n) = w') :
    Calls Try.prog f args (w.drewN (a + n)) fun e w'' => e = .returned v ∧ ∃ m, w'' = (w.drewN a).drewN m :=
  h.mono fun _ _ ⟨he, hm⟩ => ⟨he, n, by rw [← hm, World.drewN_drewN]⟩
theorem quietM {f : FuncId} {args : Array Value} {w : World} {a n : Nat} {v : Value}
    (h : Calls Try.prog f args (w.drewN (a + n)) fun e w' => e = .returned v ∧ w.drewN (a + n) = w') :
    Calls Try.prog f args (w.drewN (a + n)) fun e w'' => e = .returned v ∧ ∃ m, w'' = w.drewN (a + m) :=
  h.mono fun _ _ ⟨he, hm⟩ => ⟨he, n, by rw [← hm]⟩

theorem words0 (W : Nat) (w : World) (h : W ≤ 1048576) : Calls Try.prog 43 #[.int .i64 (W : Int)] w fun e w' => e = .returned (.int .i64 (wd W : Nat)) ∧ w = w' := by
  go_enter Try.func43, Try.ntmps43
  go_wp2
  go_ret
  exact ⟨by unfold wd; simp, rfl⟩

theorem wrap64_bit (v : Nat) : wrap64 ((v % 2 : Nat) : Int) = ((v % 2 : Nat) : Int) := by unfold wrap64; omega
set_option maxHeartbeats 1000000 in
theorem get_in (W H : Nat) (a : Option Addr) (n cap : Nat) (B : Nat → Nat) (x y : Nat) (w : World) (hW : W ≤ 1048576) (hH : H ≤ 1048576) (hn : n = H * wd W) (hB : IsWords w a n cap B) (hx : x < W) (hy : y < H) :
    Calls Try.prog 46 #[.agg #[.int .i64 (W : Int), .int .i64 (H : Int), .slice a n cap], .int .i64 (x : Int), .int .i64 (y : Int)] w
      fun e w' => e = .returned (.int .i64 ((B (y * wd W + x / 64) / 2 ^ (63 - x % 64) % 2 : Nat) : Int)) ∧ Below w.heap.size w w' := by
  subst hn
  have hlt := at_lt hx hy
  rcases hB with h0 | ⟨b, off, rfl, hnc, hcap, hbs, hcell⟩
  · omega
  · obtain ⟨c1, b1⟩ := hcell _ hlt
    have hww := wd_le hW
    have hyw : y * wd W ≤ 1048576 * 16384 := Nat.mul_le_mul (by omega) hww
    have hbel : Below w.heap.size w (w.alloc (.cells #[.int .i64 (W : Int), .int .i64 (H : Int), .slice (some ⟨b, off, none⟩) (H * wd W) cap] 48)) := (Below.refl _ _).alloc (Nat.le_refl _) _
    clear hcell
    go_enter Try.func46, Try.ntmps46
    go_wp2
    have hyw2 : (y : Int) * (wd W : Int) ≤ 17179869184 := by have : ((y * wd W : Nat) : Int) ≤ 17179869184 := by omega
                                                             rwa [Int.natCast_mul] at this
    have hyw3 : 0 ≤ (y : Int) * (wd W : Int) := Int.mul_nonneg (by omega) (by omega)
    have hwr : IntKind.i64.wrap ((y : Int) * (wd W : Int)) = (y : Int) * (wd W : Int) := IntWalk.i64_in _ (by omega)
    have hix : (y : Int) * (wd W : Int) + (x : Int) / 64 < ((H * wd W : Nat) : Int) := by
      have : ((y * wd W + x / 64 : Nat) : Int) < ((H * wd W : Nat) : Int) := by omega
      rwa [Int.natCast_add, Int.natCast_mul, Int.natCast_ediv] at this
    go_quiet ((go_at_call 43; exact quiet0 (words0 _ _ hW)))
    have hand : bits BinOp.and IntKind.u64 (((B (y * wd W + x / 64) : Nat) : Int) / 2 ^ (63 - x % 64)) 1 = ((B (y * wd W + x / 64) / 2 ^ (63 - x % 64) % 2 : Nat) : Int) := by
      have e : ((B (y * wd W + x / 64) : Nat) : Int) / 2 ^ (63 - x % 64) = ((B (y * wd W + x / 64) / 2 ^ (63 - x % 64) : Nat) : Int) := by rw [Int.natCast_ediv]; simp
      have l := Nat.div_le_self (B (y * wd W + x / 64)) (2 ^ (63 - x % 64))
      rw [e]
      generalize B (y * wd W + x / 64) / 2 ^ (63 - x % 64) = v at *
      rw [and_one_u64 _ (by omega) (by omega)]
      omega
    rw [hand, wrap64_bit _]
    have HB := Lib.hid hbel
    clear hand hbel c1 hwr hix
    go_wp2
    go_ret
    exact ⟨rfl, below_drewN HB.out _⟩

set_option maxHeartbeats 1000000 in
theorem get_out (W H : Int) (a : Option Addr) (n cap : Nat) (x y : Int) (w : World) (h : ¬ (0 ≤ x ∧ x < W ∧ 0 ≤ y ∧ y < H)) :
    Calls Try.prog 46 #[.agg #[.int .i64 W, .int .i64 H, .slice a n cap], .int .i64 x, .int .i64 y] w
      fun e w' => e = .returned (.int .i64 0) ∧ Below w.heap.size w w' := by
  have hbel : Below w.heap.size w (w.alloc (.cells #[.int .i64 W, .int .i64 H, .slice a n cap] 48)) := (Below.refl _ _).alloc (Nat.le_refl _) _
  have HB := Lib.hid hbel
  clear hbel
  by_cases h1 : x < 0
  · clear h
    go_enter Try.func46, Try.ntmps46
    go_wp2
    go_ret
    exact ⟨rfl, HB.out⟩
  · by_cases h2 : y < 0
    · clear h
      go_enter Try.func46, Try.ntmps46
      go_wp2
      go_ret
      exact ⟨rfl, HB.out⟩
    · by_cases h3 : W ≤ x
      · clear h
        go_enter Try.func46, Try.ntmps46
        go_wp2
        go_ret
        exact ⟨rfl, HB.out⟩
      · have h4 : H ≤ y := by omega
        clear h
        go_enter Try.func46, Try.ntmps46
        go_wp2
        go_ret
        exact ⟨rfl, HB.out⟩

/-- Get of the reference -/
theorem get_any (W H : Nat) (a : Option Addr) (n cap : Nat) (B : Nat → Nat) (x y : Int) (w : World) (hW : W ≤ 1048576) (hH : H ≤ 1048576) (hn : n = H * wd W) (hB : IsWords w a n cap B) :
    Calls Try.prog 46 #[.agg #[.int .i64 (W : Int), .int .i64 (H : Int), .slice a n cap], .int .i64 x, .int .i64 y] w
      fun e w' => e = .returned (.int .i64 (px W H B x y : Nat)) ∧ Below w.heap.size w w' := by
  by_cases h : 0 ≤ x ∧ x < W ∧ 0 ≤ y ∧ y < H
  · obtain ⟨i, rfl⟩ : ∃ i : Nat, x = i := ⟨x.toNat, by omega⟩
    obtain ⟨j, rfl⟩ : ∃ j : Nat, y = j := ⟨y.toNat, by omega⟩
    refine (get_in W H a n cap B i j w hW hH hn hB (by omega) (by omega)).mono fun e w' ⟨he, hb⟩ => ⟨?_, hb⟩
    rw [he]; unfold px; rw [if_pos h]; rfl
  · refine (get_out W H a n cap x y w h).mono fun e w' ⟨he, hb⟩ => ⟨?_, hb⟩
    rw [he]; unfold px; rw [if_neg h]; rfl

set_option maxHeartbeats 1000000 in
theorem zsize (W H : Int) (b : Bool) (hb : b = decide (okS W H)) (w : World) : Calls Try.prog 44 #[.int .i64 W, .int .i64 H] w fun e w' => e = .returned (.bool b) ∧ w = w' := by
  by_cases h1 : 1 ≤ W
  · by_cases h2 : 1 ≤ H
    · by_cases h3 : W ≤ 1048576
      · by_cases h4 : W * H ≤ 1048576
        · rw [decide_eq_true (show okS W H from ⟨h1, h2, h4⟩)] at hb
          subst hb
          have h5 : H ≤ 1048576 / W := (Int.le_ediv_iff_mul_le (by omega)).2 (by rw [Int.mul_comm]; exact h4)
          have h6 : (1048576 : Int).tdiv W = 1048576 / W := Int.tdiv_eq_ediv_of_nonneg (by omega)
          have h7 : (W == 0) = false := by simp; omega
          have h8 : wrap64 (1048576 / W) = 1048576 / W := by
            have a1 : (1048576 : Int) / W ≤ 1048576 := Int.ediv_le_self _ (by omega)
            have a2 : 0 ≤ (1048576 : Int) / W := Int.ediv_nonneg (by omega) (by omega)
            unfold wrap64; omega
          have H5 := Lib.hid h5
          have H8 := Lib.hid h8
          clear h4 h5 h8
          go_enter Try.func44, Try.ntmps44
          go_wp2
          go_ret
          exact ⟨by show Ending.returned (.bool (decide (H ≤ wrap64 (1048576 / W)))) = _; rw [H8.out, decide_eq_true H5.out], rfl⟩
        · rw [decide_eq_false (fun h : okS W H => h4 h.2.2)] at hb
          subst hb
          have h5 : ¬ H ≤ 1048576 / W := fun h => h4 (by rw [Int.mul_comm]; exact (Int.le_ediv_iff_mul_le (by omega)).1 h)
          have h6 : (1048576 : Int).tdiv W = 1048576 / W := Int.tdiv_eq_ediv_of_nonneg (by omega)
          have h7 : (W == 0) = false := by simp; omega
          have h8 : wrap64 (1048576 / W) = 1048576 / W := by
            have a1 : (1048576 : Int) / W ≤ 1048576 := Int.ediv_le_self _ (by omega)
            have a2 : 0 ≤ (1048576 : Int) / W := Int.ediv_nonneg (by omega) (by omega)
            unfold wrap64; omega
          have H5 := Lib.hid h5
          have H8 := Lib.hid h8
          clear h4 h5 h8
          go_enter Try.func44, Try.ntmps44
          go_wp2
          go_ret
          exact ⟨by show Ending.returned (.bool (decide (H ≤ wrap64 (1048576 / W)))) = _; rw [H8.out, decide_eq_false (by have := H5.out; omega)], rfl⟩
      · rw [decide_eq_false (fun h : okS W H => h3 (okS_le h).1)] at hb
        subst hb
        go_enter Try.func44, Try.ntmps44
        go_wp2
        go_ret
        exact ⟨rfl, rfl⟩
    · rw [decide_eq_false (fun h : okS W H => h2 h.2.1)] at hb
      subst hb
      go_enter Try.func44, Try.ntmps44
      go_wp2
      go_ret
      exact ⟨rfl, rfl⟩
  · rw [decide_eq_false (fun h : okS W H => h1 h.1)] at hb
    subst hb
    go_enter Try.func44, Try.ntmps44
    go_wp2
    go_ret
    exact ⟨rfl, rfl⟩

set_option maxHeartbeats 1000000 in
theorem sized0 (W H : Int) (b : Bool) (hb : b = decide (okS W H)) (w : World) : Calls Try.prog 48 #[.int .i64 W, .int .i64 H] w fun e w' => e = .returned (.bool b) ∧ w = w' := by
  by_cases h1 : 1 ≤ W
  · by_cases h2 : 1 ≤ H
    · by_cases h3 : W ≤ 1048576
      · by_cases h8 : H ≤ 1048576
        · have h9 : 0 ≤ W * H := Int.mul_nonneg (by omega) (by omega)
          have h10 : W * H ≤ 1048576 * 1048576 := Int.mul_le_mul h3 h8 (by omega) (by omega)
          have h11 : IntKind.i64.wrap (W * H) = W * H := IntWalk.i64_in _ (by omega)
          by_cases h4 : W * H ≤ 1048576
          · rw [decide_eq_true (show okS W H from ⟨h1, h2, h4⟩)] at hb
            subst hb
            go_enter Try.func48, Try.ntmps48
            go_wp2
            go_ret
            exact ⟨rfl, rfl⟩
          · rw [decide_eq_false (fun h : okS W H => h4 h.2.2)] at hb
            subst hb
            go_enter Try.func48, Try.ntmps48
            go_wp2
            go_ret
            exact ⟨rfl, rfl⟩
        · rw [decide_eq_false (fun h : okS W H => h8 (okS_le h).2)] at hb
          subst hb
          go_enter Try.func48, Try.ntmps48
          go_wp2
          go_ret
          exact ⟨rfl, rfl⟩
      · rw [decide_eq_false (fun h : okS W H => h3 (okS_le h).1)] at hb
        subst hb
        go_enter Try.func48, Try.ntmps48
        go_wp2
        go_ret
        exact ⟨rfl, rfl⟩
    · rw [decide_eq_false (fun h : okS W H => h2 h.2.1)] at hb
      subst hb
      go_enter Try.func48, Try.ntmps48
      go_wp2
      go_ret
      exact ⟨rfl, rfl⟩
  · rw [decide_eq_false (fun h : okS W H => h1 h.1)] at hb
    subst hb
    go_enter Try.func48, Try.ntmps48
    go_wp2
    go_ret
    exact ⟨rfl, rfl⟩

theorem last0 (W : Nat) (w : World) (h : W ≤ 1048576) : Calls Try.prog 49 #[.int .i64 (W : Int)] w fun e w' => e = .returned (.int .u64 (lastW W : Nat)) ∧ w = w' := by
  go_enter Try.func49, Try.ntmps49
  go_wp2
  go_ret
  refine ⟨?_, rfl⟩
  have he : (-((W : Int) % 64) % 64).toNat = (64 - W % 64) % 64 := by omega
  show Ending.returned (.int .u64 (IntKind.u64.wrap (18446744073709551615 * 2 ^ (-((W : Int) % 64) % 64).toNat))) = _
  rw [he, lastW]
  generalize (64 - W % 64) % 64 = e
  have : IntKind.u64.wrap (18446744073709551615 * 2 ^ e) = ((18446744073709551615 * 2 ^ e % 18446744073709551616 : Nat) : Int) := by
    have hs : IntKind.u64.signed = false := rfl
    have hb : IntKind.u64.bits = 64 := rfl
    unfold IntKind.wrap
    simp [hs, hb]
  rw [this]
end Go.Proofs.Ytfniekdohidbiaa
