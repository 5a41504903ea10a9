/- Bitmaps: EqWords, EqBitmap of the reference. Conditions: the bounds that each theorem names. -/
import Derived.Test.YtfniekdohidbiaaBk
namespace Go.Proofs.Ytfniekdohidbiaa
open Go.RowKit Go.Bm
theorem and_bit (v e : Nat) (hv : v < 2 ^ 64) : bits BinOp.and IntKind.u64 ((v : Int) / 2 ^ e) 1 = ((v / 2 ^ e % 2 : Nat) : Int) := by
  have h : (v : Int) / 2 ^ e = ((v / 2 ^ e : Nat) : Int) := by rw [Int.natCast_ediv]; simp
  have l := Nat.div_le_self v (2 ^ e)
  rw [h]
  generalize v / 2 ^ e = u at *
  rw [and_one_u64 _ (by omega) (by omega)]
  omega
def eqL (n m : Nat) (A B : Nat → Nat) : Prop := n = m ∧ ∀ i, i < n → A i = B i

set_option maxHeartbeats 1000000 in
theorem eqwords0 (a : Option Addr) (n cap : Nat) (A : Nat → Nat) (c : Option Addr) (m cap2 : Nat) (B : Nat → Nat) (b : Bool) (w : World) (hA : IsWords w a n cap A) (hB : IsWords w c m cap2 B) (hb : b = true ↔ eqL n m A B)
    (hn : n ≤ 9223372036854775807) :
    Calls Try.prog 39 #[.slice a n cap, .slice c m cap2] w fun e w' => e = .returned (.bool b) ∧ ∃ k, w.drewN k = w' := by
  by_cases hnm : n = m
  · subst hnm
    go_enter Try.func39, Try.ntmps39
    go_wp2
    go_loopw [5] (fun i wr => ∃ k : Nat, k ≤ n ∧ i = .int .i64 k ∧ (∀ j, j < k → A j = B j) ∧ ∃ q, wr = w.drewN q) (fun i _ => n - (intOf i).toNat)
    case atStart => exact ⟨0, Nat.zero_le _, rfl, fun j hj => by omega, 0, rfl⟩
    case round =>
      obtain ⟨k, hk, rfl, hcl, q, rfl⟩ := hrel
      have HCl := Lib.hid hcl
      have HB := Lib.hid hb
      clear hcl hb
      by_cases hlt : k < n
      · rcases hA with h0 | ⟨b1, o1, rfl, l1, l2, l3, hc1⟩
        · omega
        · rcases hB with h0 | ⟨b2, o2, rfl, m1, m2, m3, hc2⟩
          · omega
          · obtain ⟨d1, e1⟩ := hc1 k hlt
            obtain ⟨d2, e2⟩ := hc2 k hlt
            clear hc1 hc2
            by_cases hc : A k = B k
            · have hq : ((A k : Int) != (B k : Int)) = false := by rw [hc]; simp
              have HD := Lib.hid hc
              clear hc
              go_wp2
              go_quiet (fail)
              go_wp2
              go_roundw
              case rel => exact ⟨k + 1, by omega, by go_num, fun j hj => by
                by_cases e : j = k
                · subst e; exact HD.out
                · exact HCl.out j (by omega), _, rfl⟩
              case measure => simp [intOf]; omega
            · have hq : ((A k : Int) != (B k : Int)) = true := by simp; omega
              obtain rfl : b = false := by cases b with | false => rfl | true => exact absurd ((HB.out.1 rfl).2 k hlt) hc
              clear hc
              go_wp2
              go_quiet (fail)
              go_wp2
              go_ret
              exact ⟨rfl, _, by rw [World.drewN_drewN]⟩
      · obtain rfl : k = n := by omega
        obtain rfl : b = true := HB.out.2 ⟨rfl, HCl.out⟩
        clear hA hB
        go_wp2
        go_ret
        exact ⟨rfl, _, rfl⟩
  · obtain rfl : b = false := by cases b with | false => rfl | true => exact absurd (hb.1 rfl).1 hnm
    clear hA hB hb
    go_enter Try.func39, Try.ntmps39
    go_wp2
    go_ret
    exact ⟨rfl, 0, rfl⟩

theorem IsWords.below {w w' : World} {a : Option Addr} {n cap : Nat} {L : Nat → Nat} (h : IsWords w a n cap L) (hb : Below w.heap.size w w') : IsWords w' a n cap L := by
  rcases h with h | ⟨b, off, h1, h2, h3, h4, h5⟩
  · exact Or.inl h
  · exact Or.inr ⟨b, off, h1, h2, h3, Nat.lt_of_lt_of_le h4 hb.size, fun i hi => ⟨(hb.cell (p := ⟨b, off + i, none⟩) h4).trans (h5 i hi).1, (h5 i hi).2⟩⟩

set_option maxHeartbeats 1000000 in
theorem eqbitmap0 (W H : Int) (a : Option Addr) (n cap : Nat) (A : Nat → Nat) (W2 H2 : Int) (c : Option Addr) (m cap2 : Nat) (B : Nat → Nat) (b : Bool) (w : World) (hA : IsWords w a n cap A) (hB : IsWords w c m cap2 B)
    (hb : b = true ↔ W = W2 ∧ H = H2 ∧ eqL n m A B) (hn : n ≤ 9223372036854775807) :
    Calls Try.prog 24 #[.agg #[.int .i64 W, .int .i64 H, .slice a n cap], .agg #[.int .i64 W2, .int .i64 H2, .slice c m cap2]] w fun e w' => e = .returned (.bool b) ∧ Below w.heap.size w w' := by
  have two : ∀ (v u : Array Value) (s t : TypeId), Below w.heap.size w ((w.alloc (.cells v s)).alloc (.cells u t)) := fun v u s t => ((Below.refl _ _).alloc (Nat.le_refl _) _).alloc (by simp) _
  by_cases h1 : W = W2
  · by_cases h2 : H = H2
    · subst h1; subst h2
      have hb' : b = true ↔ eqL n m A B := by rw [hb]; simp
      have hc := fun w' (hbel : Below w.heap.size w w') => eqwords0 a n cap A c m cap2 B b w' (hA.below hbel) (hB.below hbel) hb' hn
      have HC := Lib.hid hc
      have HT := Lib.hid two
      clear hc hA hB hb hb' two
      go_enter Try.func24, Try.ntmps24
      go_wp2_with (go_at_call 39; refine (HC.out _ (HT.out _ _ _ _)).mono ?_; rintro e w' ⟨rfl, q, rfl⟩)
      cases b <;>
      · go_wp2
        go_ret
        exact ⟨rfl, below_drewN (HT.out _ _ _ _) _⟩
    · obtain rfl : b = false := by cases b with | false => rfl | true => exact absurd (hb.1 rfl).2.1 h2
      have hq : (H == H2) = false := by simpa using h2
      have HT := Lib.hid two
      clear hA hB hb two h2
      subst h1
      go_enter Try.func24, Try.ntmps24
      go_wp2
      go_ret
      exact ⟨rfl, HT.out _ _ _ _⟩
  · obtain rfl : b = false := by cases b with | false => rfl | true => exact absurd (hb.1 rfl).1 h1
    have hq : (W == W2) = false := by simpa using h1
    have HT := Lib.hid two
    clear hA hB hb two h1
    go_enter Try.func24, Try.ntmps24
    go_wp2
    go_ret
    exact ⟨rfl, HT.out _ _ _ _⟩
end Go.Proofs.Ytfniekdohidbiaa
