/- Package context: the closures of Row; how a row's contexts go from pixel to pixel. Conditions: the bounds that each theorem names. -/
import Derived.Test.YtknhgenhknjkoaaCb
import Derived.Deep.AppendLies
import Derived.Deep.OwnRows
namespace Go.Bm
/-- numbers as values -/
def ivals (O : Nat → Nat) (n : Nat) : Array Value := ((List.range n).map fun i => Value.int .i64 (O i : Nat)).toArray
theorem ivals_size (O : Nat → Nat) (n : Nat) : (ivals O n).size = n := by unfold ivals; simp
theorem ivals_get (O : Nat → Nat) (n : Nat) {i : Nat} (h : i < n) : (ivals O n)[i]? = some (.int .i64 (O i : Nat)) := by
  unfold ivals
  rw [List.getElem?_toArray, List.getElem?_map, List.getElem?_range h]; rfl
theorem ivals_set (O : Nat → Nat) (n k v : Nat) (hk : k < n) : (ivals O n).setIfInBounds k (.int .i64 (v : Nat)) = ivals (fun i => if i = k then v else O i) n := by
  apply Array.ext_getElem?
  intro j
  rw [Array.getElem?_setIfInBounds, ivals_size]
  by_cases hj : j < n
  · by_cases e : k = j
    · subst e; rw [if_pos rfl, if_pos hk, ivals_get _ _ hk, if_pos rfl]
    · rw [if_neg e, ivals_get _ _ hj, ivals_get _ _ hj, if_neg (Ne.symm e)]
  · rw [if_neg (by omega), Array.getElem?_eq_none (by rw [ivals_size]; omega), Array.getElem?_eq_none (by rw [ivals_size]; omega)]
theorem ivals_ext {O N : Nat → Nat} {n : Nat} (h : ∀ i, i < n → O i = N i) : ivals O n = ivals N n := by
  unfold ivals
  congr 1
  apply List.map_congr_left
  intro i hi
  rw [h i (by simpa using hi)]
theorem rowF_head (P : Int → Int → Nat) (x y f d : Int) (m : Nat) : rowF P x y f d 0 (m + 1) = P (x + f) (y + d) * 2 ^ m + rowF P (x + 1) y f d 0 m := by
  induction m with
  | zero => simp [rowF]
  | succ m ih =>
    rw [rowF, ih, rowF, Nat.pow_succ]
    have e : x + (f + ((m + 1 : Nat) : Int)) = x + 1 + (f + (m : Int)) := by omega
    rw [e, Nat.mul_add, ← Nat.mul_assoc, Nat.mul_comm 2 (P _ _), Nat.mul_assoc, Nat.mul_comm 2 (2 ^ m)]
    omega
theorem rowF_lt0 {P : Int → Int → Nat} (hP : ∀ x y, P x y ≤ 1) (x y f d : Int) (j : Nat) : rowF P x y f d 0 j < 2 ^ j := by
  have := rowF_lt hP (x := x) (y := y) (f := f) (d := d) (n := 0) (m := 0) (by decide) j
  rwa [Nat.zero_add] at this
/-- the window goes on by a pixel -/
theorem window_step {P : Int → Int → Nat} (hP : ∀ x y, P x y ≤ 1) (x y f d : Int) (m wn : Nat) (h : wn % 2 ^ m = rowF P x y f d 0 m) :
    (2 * wn + P (x + (f + m)) (y + d)) % 2 ^ (m + 1) = rowF P x y f d 0 (m + 1) ∧ rowF P x y f d 0 (m + 1) % 2 ^ m = rowF P (x + 1) y f d 0 m := by
  constructor
  · rw [rowF, ← h]
    have hd := Nat.div_add_mod wn (2 ^ m)
    have hl := Nat.mod_lt wn (Nat.two_pow_pos m)
    have hb := hP (x + (f + m)) (y + d)
    generalize P (x + (f + m)) (y + d) = b at *
    generalize wn % 2 ^ m = r at *
    generalize wn / 2 ^ m = q at *
    have e : 2 * wn + b = (2 * r + b) + 2 ^ (m + 1) * q := by
      rw [← hd, Nat.pow_succ, Nat.mul_add, Nat.mul_comm (2 ^ m) 2, Nat.mul_assoc]; omega
    rw [e, Nat.add_mul_mod_self_left, Nat.mod_eq_of_lt (by rw [Nat.pow_succ]; omega)]
  · rw [rowF_head, Nat.mul_comm, Nat.mul_add_mod, Nat.mod_eq_of_lt (rowF_lt0 hP _ _ _ _ _)]
theorem win_val (v b m : Nat) (hv : v < 2 ^ 8) (hb : b ≤ 1) (hm : m + 1 ≤ 8) :
    bits .and .i64 (bits .or .i64 ((v : Int) * 2) (b : Int)) (Go.RowKit.wrap64 (Go.RowKit.wrap64 (2 ^ (m + 1)) - 1)) = (((2 * v + b) % 2 ^ (m + 1) : Nat) : Int) := by
  have h1 : 2 ^ (m + 1) ≤ 2 ^ 8 := Nat.pow_le_pow_right (by decide) hm
  have h2 : 1 ≤ 2 ^ (m + 1) := Nat.one_le_two_pow
  rw [or_bit _ _ (by omega) hb, wrap_pow _ (by omega)]
  have h3 : Go.RowKit.wrap64 (((2 ^ (m + 1) : Nat) : Int) - 1) = 2 ^ (m + 1) - 1 := by
    rw [Go.IntWalk.wrap64_in _ ⟨by omega, by omega⟩]; simp
  rw [h3, bits_mask .i64 63 (by decide) (fun n h0 h1 => by rw [IntKind.wrap_i64]; omega) (m + 1) (by omega) _ (by omega) (by omega)]
  simp
theorem out_val (o nv m : Nat) (ho : o < 2 ^ 12) (hv : nv < 2 ^ (m + 1)) (hm : m + 1 ≤ 8) :
    bits .or .i64 (Go.RowKit.wrap64 ((o : Int) * 2 ^ (m + 1))) (nv : Int) = ((o * 2 ^ (m + 1) + nv : Nat) : Int) := by
  have h1 : 2 ^ (m + 1) ≤ 2 ^ 8 := Nat.pow_le_pow_right (by decide) hm
  have h2 : o * 2 ^ (m + 1) ≤ 2 ^ 12 * 2 ^ 8 := Nat.mul_le_mul (by omega) h1
  have h4 : ((o : Int) * 2 ^ (m + 1)) = ((o * 2 ^ (m + 1) : Nat) : Int) := by simp
  have h3 : Go.RowKit.wrap64 ((o : Int) * 2 ^ (m + 1)) = ((o * 2 ^ (m + 1) : Nat) : Int) := by
    rw [h4]; exact Go.IntWalk.wrap64_in _ ⟨by omega, by omega⟩
  rw [h3, bits_join .i64 63 (by decide) (fun n h0 h1 => by rw [IntKind.wrap_i64]; omega) (m + 1) _ _ (by omega) (by exact_mod_cast Nat.mul_mod_left _ _) (by omega) (by omega) (by exact_mod_cast hv) (by omega)]
  simp
end Go.Bm
namespace Go.Proofs.Ytknhgenhknjkoaa
open Go.RowKit Go.Bm

theorem bit35 (x : Int) (w : World) : Calls Try.prog 35 #[.int .i64 x] w fun e w' => e = .returned (.int .i64 (0 : Nat)) ∧ w = w' := by
  go_enter Try.func35, Try.ntmps35
  go_wp2
  go_ret
  exact ⟨rfl, rfl⟩

set_option maxHeartbeats 1000000 in
theorem bit36 (W H : Nat) (B : Nat → Nat) (x : Int) (r : Nat) (gb gl bb o : Nat) (w : World) (hW : W ≤ 1048576) (hr : r < H) (c0 : w.cell? ⟨gb, 0, none⟩ = some (.int .i64 (W : Int)))
    (c1 : w.cell? ⟨gl, 0, none⟩ = some (.slice (some ⟨bb, o, none⟩) (wd W) (wd W))) (hl : ∀ i, i < wd W → w.cell? ⟨bb, o + i, none⟩ = some (.int .u64 (B (r * wd W + i) : Nat)) ∧ B (r * wd W + i) < 2 ^ 64) :
    Calls Try.prog 36 #[.int .i64 x, .pointer (some ⟨gb, 0, none⟩), .pointer (some ⟨gl, 0, none⟩)] w fun e w' => e = .returned (.int .i64 (px W H B x r : Nat)) ∧ w = w' := by
  by_cases h1 : x < 0
  · have e : px W H B x r = 0 := px_far (by omega)
    rw [e]
    clear e hl
    go_enter Try.func36, Try.ntmps36
    go_wp2
    go_ret
    exact ⟨rfl, rfl⟩
  · by_cases h2 : (W : Int) ≤ x
    · have e : px W H B x r = 0 := px_far (by omega)
      rw [e]
      clear e hl
      go_enter Try.func36, Try.ntmps36
      go_wp2
      go_ret
      exact ⟨rfl, rfl⟩
    · obtain ⟨x, rfl⟩ : ∃ i : Nat, x = i := ⟨x.toNat, by omega⟩
      have hx : x / 64 < wd W := by unfold wd; omega
      obtain ⟨c2, b2⟩ := hl (x / 64) hx
      have e : px W H B x r = B (r * wd W + x / 64) / 2 ^ (63 - x % 64) % 2 := by
        unfold px; rw [if_pos (by omega)]; simp
      have hx2 : (x : Int) / 64 < (wd W : Int) := by omega
      have hwl := wd_le hW
      rw [e]
      clear e hl
      have hab := and_bit _ (63 - x % 64) b2
      generalize B (r * wd W + x / 64) = v at *
      go_enter Try.func36, Try.ntmps36
      go_wp2
      go_ret
      exact ⟨by simp, rfl⟩

theorem grown_refl (w : World) (row : Option Nat) : w.grownBy w row := ⟨rfl, rfl, rfl, Nat.le_refl _, fun _ _ _ => rfl⟩
theorem grown_drewN (w : World) (n : Nat) (row : Option Nat) : w.grownBy (w.drewN n) row := ⟨rfl, rfl, rfl, Nat.le_refl _, fun _ _ _ => rfl⟩
theorem grown_setCell (w : World) (a : Addr) (u : Value) : w.grownBy (w.setCell a u) (some a.block) :=
  ⟨rfl, rfl, rfl, by simp, fun k _ hk => Below.heap_setCell w a u k (fun e => hk (by rw [e]))⟩
end Go.Proofs.Ytknhgenhknjkoaa
