/- Bitmaps: package bitmap's Map: inside, Get; EqWords of the reference. Conditions: the bounds that each theorem names. -/
import Derived.Test.YtgpjpmadbepblaaDoorBk
namespace Go.Proofs.YtgpjpmadbepblaaDoor
open Go.RowKit Go.Bm

/-- a map in memory -/
def IsMap (w : World) (v : Value) (W H : Nat) (B : Nat → Nat) : Prop :=
  ∃ g a cap, v = .pointer (some ⟨g, 0, none⟩) ∧ g < w.heap.size ∧ w.cell? ⟨g, 0, none⟩ = some (.int .i64 (W : Int)) ∧ w.cell? ⟨g, 1, none⟩ = some (.int .i64 (H : Int)) ∧
    w.cell? ⟨g, 2, none⟩ = some (.int .i64 (wd W : Int)) ∧ w.cell? ⟨g, 3, none⟩ = some (.slice a (H * wd W) cap) ∧ IsWords w a (H * wd W) cap B

def inB (W H : Nat) (x y : Int) : Prop := 0 ≤ x ∧ x < W ∧ 0 ≤ y ∧ y < H

set_option maxHeartbeats 1000000 in
theorem inside0 (v : Value) (W H : Nat) (B : Nat → Nat) (x y : Int) (b : Bool) (w : World) (hM : IsMap w v W H B) (hb : b = true ↔ inB W H x y) :
    Calls Tryd.prog 56 #[v, .int .i64 x, .int .i64 y] w fun e w' => e = .returned (.bool b) ∧ w = w' := by
  obtain ⟨g, a, cap, rfl, hg, c0, c1, c2, c3, hB⟩ := hM
  clear hB c2 c3
  by_cases h1 : 0 ≤ x
  · by_cases h2 : x < W
    · by_cases h3 : 0 ≤ y
      · by_cases h4 : y < H
        · obtain rfl : b = true := hb.2 ⟨h1, h2, h3, h4⟩
          clear hb
          go_enter Tryd.func56, Tryd.ntmps56
          go_wp2
          go_ret
          exact ⟨rfl, rfl⟩
        · obtain rfl : b = false := by cases b with | false => rfl | true => exact absurd (hb.1 rfl).2.2.2 h4
          clear hb
          go_enter Tryd.func56, Tryd.ntmps56
          go_wp2
          go_ret
          exact ⟨rfl, rfl⟩
      · obtain rfl : b = false := by cases b with | false => rfl | true => exact absurd (hb.1 rfl).2.2.1 h3
        clear hb
        go_enter Tryd.func56, Tryd.ntmps56
        go_wp2
        go_ret
        exact ⟨rfl, rfl⟩
    · obtain rfl : b = false := by cases b with | false => rfl | true => exact absurd (hb.1 rfl).2.1 h2
      clear hb
      go_enter Tryd.func56, Tryd.ntmps56
      go_wp2
      go_ret
      exact ⟨rfl, rfl⟩
  · obtain rfl : b = false := by cases b with | false => rfl | true => exact absurd (hb.1 rfl).1 h1
    clear hb
    go_enter Tryd.func56, Tryd.ntmps56
    go_wp2
    go_ret
    exact ⟨rfl, rfl⟩

theorem and_bit (v e : Nat) (hv : v < 2 ^ 64) : bits BinOp.and IntKind.u64 ((v : Int) / 2 ^ e) 1 = ((v / 2 ^ e % 2 : Nat) : Int) := by
  have h : (v : Int) / 2 ^ e = ((v / 2 ^ e : Nat) : Int) := by rw [Int.natCast_ediv]; simp
  have l := Nat.div_le_self v (2 ^ e)
  rw [h]
  generalize v / 2 ^ e = u at *
  rw [and_one_u64 _ (by omega) (by omega)]
  omega

set_option maxHeartbeats 1000000 in
/-- Get of package bitmap -/
theorem mget0 (v : Value) (W H : Nat) (B : Nat → Nat) (x y : Int) (w : World) (hW : W ≤ 1048576) (hH : H ≤ 1048576) (hM : IsMap w v W H B) :
    Calls Tryd.prog 43 #[v, .int .i64 x, .int .i64 y] w fun e w' => e = .returned (.int .i64 (px W H B x y : Nat)) ∧ ∃ k, w.drewN k = w' := by
  by_cases h : inB W H x y
  · have hin := fun w' (hM' : IsMap w' v W H B) => inside0 v W H B x y true w' hM' (by simp [h])
    have HI := Lib.hid (hin w hM)
    have hp : px W H B x y = B (y.toNat * wd W + x.toNat / 64) / 2 ^ (63 - x.toNat % 64) % 2 := by unfold px; exact if_pos h
    rw [hp]
    clear hp hin
    obtain ⟨h1, h2, h3, h4⟩ := h
    obtain ⟨x, rfl⟩ : ∃ i : Nat, x = i := ⟨x.toNat, by omega⟩
    obtain ⟨y, rfl⟩ : ∃ j : Nat, y = j := ⟨y.toNat, by omega⟩
    simp only [Int.toNat_natCast]
    have hlt := at_lt (W := W) (H := H) (x := x) (y := y) (by omega) (by omega)
    obtain ⟨g, a, cap, rfl, hg, c0, c1, c2, c3, hB⟩ := hM
    rcases hB with h0 | ⟨b, off, rfl, hnc, hcap, hbs, hcell⟩
    · omega
    · obtain ⟨d1, b1⟩ := hcell _ hlt
      have hww := wd_le hW
      have hyw : y * wd W ≤ 1048576 * 16384 := Nat.mul_le_mul (by omega) hww
      clear hcell
      go_enter Tryd.func43, Tryd.ntmps43
      go_wp2_with (go_at_call 56; refine HI.out.mono ?_; rintro e w' ⟨rfl, rfl⟩)
      have hyw2 : (y : Int) * (wd W : Int) ≤ 17179869184 := by have : ((y * wd W : Nat) : Int) ≤ 17179869184 := by omega
                                                               rwa [Int.natCast_mul] at this
      have hyw3 : 0 ≤ (y : Int) * (wd W : Int) := Int.mul_nonneg (by omega) (by omega)
      have hwr : IntKind.i64.wrap ((y : Int) * (wd W : Int)) = (y : Int) * (wd W : Int) := IntWalk.i64_in _ (by omega)
      have hix : (y : Int) * (wd W : Int) + (x : Int) / 64 < ((H * wd W : Nat) : Int) := by
        have : ((y * wd W + x / 64 : Nat) : Int) < ((H * wd W : Nat) : Int) := by omega
        rwa [Int.natCast_add, Int.natCast_mul, Int.natCast_ediv] at this
      go_quiet (fail)
      rw [and_bit _ _ b1, wrap64_bit _]
      clear c1 hwr hix
      go_wp2
      go_ret
      exact ⟨rfl, _, rfl⟩
  · have hin := inside0 v W H B x y false w hM (by simp [h])
    have HI := Lib.hid hin
    have hp : px W H B x y = 0 := by unfold px; exact if_neg h
    rw [hp]
    clear hin hp h hM
    go_enter Tryd.func43, Tryd.ntmps43
    go_wp2_with (go_at_call 56; refine HI.out.mono ?_; rintro e w' ⟨rfl, rfl⟩)
    go_ret
    exact ⟨rfl, 0, rfl⟩

/-- equal lists -/
def eqL (n m : Nat) (A B : Nat → Nat) : Prop := n = m ∧ ∀ i, i < n → A i = B i

set_option maxHeartbeats 1000000 in
theorem eqwords0 (a : Option Addr) (n cap : Nat) (A : Nat → Nat) (c : Option Addr) (m cap2 : Nat) (B : Nat → Nat) (b : Bool) (w : World) (hA : IsWords w a n cap A) (hB : IsWords w c m cap2 B) (hb : b = true ↔ eqL n m A B)
    (hn : n ≤ 9223372036854775807) :
    Calls Tryd.prog 38 #[.slice a n cap, .slice c m cap2] w fun e w' => e = .returned (.bool b) ∧ ∃ k, w.drewN k = w' := by
  by_cases hnm : n = m
  · subst hnm
    go_enter Tryd.func38, Tryd.ntmps38
    go_wp2
    go_loopw [5] (fun i wr => ∃ k : Nat, k ≤ n ∧ i = .int .i64 k ∧ (∀ j, j < k → A j = B j) ∧ ∃ q, wr = w.drewN q) (fun i _ => n - (intOf i).toNat)
    case atStart => exact ⟨0, Nat.zero_le _, rfl, fun j hj => by omega, 0, rfl⟩
    case round =>
      obtain ⟨k, hk, rfl, hcl, q, rfl⟩ := hrel
      have HCl := Lib.hid hcl
      have HB := Lib.hid hb
      clear hcl hb
      by_cases hlt : k < n
      · rcases hA with h0 | ⟨b1, o1, rfl, l1, l2, l3, hc1⟩
        · omega
        · rcases hB with h0 | ⟨b2, o2, rfl, m1, m2, m3, hc2⟩
          · omega
          · obtain ⟨d1, e1⟩ := hc1 k hlt
            obtain ⟨d2, e2⟩ := hc2 k hlt
            clear hc1 hc2
            by_cases hc : A k = B k
            · have hq : ((A k : Int) != (B k : Int)) = false := by rw [hc]; simp
              have HD := Lib.hid hc
              clear hc
              go_wp2
              go_quiet (fail)
              go_wp2
              go_roundw
              case rel => exact ⟨k + 1, by omega, by go_num, fun j hj => by
                by_cases e : j = k
                · subst e; exact HD.out
                · exact HCl.out j (by omega), _, rfl⟩
              case measure => simp [intOf]; omega
            · have hq : ((A k : Int) != (B k : Int)) = true := by simp; omega
              obtain rfl : b = false := by cases b with | false => rfl | true => exact absurd ((HB.out.1 rfl).2 k hlt) hc
              clear hc
              go_wp2
              go_quiet (fail)
              go_wp2
              go_ret
              exact ⟨rfl, _, by rw [World.drewN_drewN]⟩
      · obtain rfl : k = n := by omega
        obtain rfl : b = true := HB.out.2 ⟨rfl, HCl.out⟩
        clear hA hB
        go_wp2
        go_ret
        exact ⟨rfl, _, rfl⟩
  · obtain rfl : b = false := by cases b with | false => rfl | true => exact absurd (hb.1 rfl).1 hnm
    clear hA hB hb
    go_enter Tryd.func38, Tryd.ntmps38
    go_wp2
    go_ret
    exact ⟨rfl, 0, rfl⟩

theorem IsWords.below {w w' : World} {a : Option Addr} {n cap : Nat} {L : Nat → Nat} (h : IsWords w a n cap L) (hb : Below w.heap.size w w') : IsWords w' a n cap L := by
  rcases h with h | ⟨b, off, h1, h2, h3, h4, h5⟩
  · exact Or.inl h
  · exact Or.inr ⟨b, off, h1, h2, h3, Nat.lt_of_lt_of_le h4 hb.size, fun i hi => ⟨(hb.cell (p := ⟨b, off + i, none⟩) h4).trans (h5 i hi).1, (h5 i hi).2⟩⟩

set_option maxHeartbeats 1000000 in
theorem eqbitmap0 (W H : Int) (a : Option Addr) (n cap : Nat) (A : Nat → Nat) (W2 H2 : Int) (c : Option Addr) (m cap2 : Nat) (B : Nat → Nat) (b : Bool) (w : World) (hA : IsWords w a n cap A) (hB : IsWords w c m cap2 B)
    (hb : b = true ↔ W = W2 ∧ H = H2 ∧ eqL n m A B) (hn : n ≤ 9223372036854775807) :
    Calls Tryd.prog 17 #[.agg #[.int .i64 W, .int .i64 H, .slice a n cap], .agg #[.int .i64 W2, .int .i64 H2, .slice c m cap2]] w fun e w' => e = .returned (.bool b) ∧ Below w.heap.size w w' := by
  have two : ∀ (v u : Array Value) (s t : TypeId), Below w.heap.size w ((w.alloc (.cells v s)).alloc (.cells u t)) := fun v u s t => ((Below.refl _ _).alloc (Nat.le_refl _) _).alloc (by simp) _
  by_cases h1 : W = W2
  · by_cases h2 : H = H2
    · subst h1; subst h2
      have hb' : b = true ↔ eqL n m A B := by rw [hb]; simp
      have hc := fun w' (hbel : Below w.heap.size w w') => eqwords0 a n cap A c m cap2 B b w' (hA.below hbel) (hB.below hbel) hb' hn
      have HC := Lib.hid hc
      have HT := Lib.hid two
      clear hc hA hB hb hb' two
      go_enter Tryd.func17, Tryd.ntmps17
      go_wp2_with (go_at_call 38; refine (HC.out _ (HT.out _ _ _ _)).mono ?_; rintro e w' ⟨rfl, q, rfl⟩)
      cases b <;>
      · go_wp2
        go_ret
        exact ⟨rfl, below_drewN (HT.out _ _ _ _) _⟩
    · obtain rfl : b = false := by cases b with | false => rfl | true => exact absurd (hb.1 rfl).2.1 h2
      have hq : (H == H2) = false := by simpa using h2
      have HT := Lib.hid two
      clear hA hB hb two h2
      subst h1
      go_enter Tryd.func17, Tryd.ntmps17
      go_wp2
      go_ret
      exact ⟨rfl, HT.out _ _ _ _⟩
  · obtain rfl : b = false := by cases b with | false => rfl | true => exact absurd (hb.1 rfl).1 h1
    have hq : (W == W2) = false := by simpa using h1
    have HT := Lib.hid two
    clear hA hB hb two h1
    go_enter Tryd.func17, Tryd.ntmps17
    go_wp2
    go_ret
    exact ⟨rfl, HT.out _ _ _ _⟩
end Go.Proofs.YtgpjpmadbepblaaDoor
