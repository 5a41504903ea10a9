/- may, walked. Conditions: the bounds that each theorem names. -/
import Derived.Test.YtfniekdohidbiaaXc
namespace Go.Proofs.Ytfniekdohidbiaa
open Go.RowKit Go.Bm
theorem Bmp.ok_le {f : Bmp} (h : f.ok) : f.n ≤ 17179869184 := by
  obtain ⟨h1, h3, _⟩ := h
  obtain ⟨hw, hh⟩ := okS_le h1
  rw [h3]
  have := Nat.mul_le_mul (show f.H.toNat ≤ 1048576 by omega) (wd_le (show f.W.toNat ≤ 1048576 by omega))
  omega
def MayB (F : Nat → Bmp) (n : Nat) : Prop := (∀ i, i < n → (F i).ok) ∧ n ≤ 40 ∧ sumB F n ≤ 384000
theorem MayB.small {F : Nat → Bmp} {n : Nat} (h : MayB F n) : ∀ i, i < n → (F i).n ≤ 6000 := by
  intro i hi
  have h1 := h.2.2
  have h2 := sumB_each F n i hi
  omega
set_option maxHeartbeats 1000000 in
set_option maxRecDepth 100000 in
theorem may23 (a : Option Addr) (n cap : Nat) (F : Nat → Bmp) (w : World) (hA : IsBms w a n cap F) (hn : n ≤ 9223372036854775807) :
    Calls Try.prog 23 #[.slice a n cap] w fun e w' => ∃ b : Bool, e = .returned (.bool b) ∧ Below w.heap.size w w' ∧ (b = true ↔ MayB F n) := by
  have HA := Lib.hid hA
  clear hA
  go_enter Try.func23, Try.ntmps23
  go_wp2_with fail
  go_loopw [3] (fun i wr => ∃ k : Nat, k ≤ n ∧ i = .int .i64 k ∧ Hid (∀ j, j < k → (F j).ok) ∧ Hid (Below w.heap.size w wr)) (fun i _ => n - (intOf i).toNat)
  case atStart => exact ⟨0, Nat.zero_le _, rfl, fun j h => absurd h (Nat.not_lt_zero _), Below.refl _ _⟩
  case round =>
    obtain ⟨k, hk, rfl, hall, hbel⟩ := hrel
    by_cases hlt : k < n
    · rcases HA.out with h0 | ⟨b1, o1, rfl, l1, l2, l3, hc1⟩
      · omega
      · obtain ⟨q0, q1, q2, q3⟩ := hc1 k hlt
        have q0 := (hbel.out.cell (p := ⟨b1, o1 + k * 3, none⟩) l3).trans q0
        have q1 := (hbel.out.cell (p := ⟨b1, o1 + k * 3 + 1, none⟩) l3).trans q1
        have q2 := (hbel.out.cell (p := ⟨b1, o1 + k * 3 + 2, none⟩) l3).trans q2
        have Q3 := Lib.hid (q3.below hbel.out)
        clear hc1 q3
        by_cases hok : (F k).ok
        · have HO := Lib.hid hok
          clear hok
          go_wp2_with (go_at_call 29; refine (Bmp.may (F k) true _ Q3.out (by simpa using HO.out)).mono ?_; rintro e w3 ⟨rfl, hb3⟩)
          go_roundw
          case rel => exact ⟨k + 1, by omega, by go_num, fun j hj => by
            by_cases e : j = k
            · subst e; exact HO.out
            · exact hall.out j (by omega), below_then hbel.out hb3 (Nat.le_refl _)⟩
          case measure => simp [intOf]; omega
        · have HO := Lib.hid hok
          clear hok
          go_wp2_with (go_at_call 29; refine (Bmp.may (F k) false _ Q3.out (by simpa using HO.out)).mono ?_; rintro e w3 ⟨rfl, hb3⟩)
          go_ret
          exact ⟨false, rfl, below_then hbel.out hb3 (Nat.le_refl _), (fun h => by cases h), fun h => absurd (h.1 k hlt) HO.out⟩
    · obtain rfl : n = k := by omega
      have hl := light10 a n cap F wr (HA.out.below hbel.out) hn
      have HLI := Lib.hid hl
      clear hl
      go_wp2_with (go_at_call 10; refine HLI.out.mono ?_; rintro e w3 ⟨b, rfl, ⟨q, rfl⟩, _, hb⟩)
      go_ret
      refine ⟨b, rfl, below_drewN hbel.out q, ?_⟩
      rw [hb fun i hi => Nat.le_trans (Bmp.ok_le (hall.out i hi)) (by omega)]
      exact ⟨fun h => ⟨hall.out, h⟩, fun h => h.2⟩
end Go.Proofs.Ytfniekdohidbiaa
