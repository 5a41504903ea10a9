/- MatchOrder, walked. Conditions: the bounds that each theorem names. -/
import Derived.Test.YtfniekdohidbiaaXr
import Derived.Test.YtfniekdohidbiaaVg
import Derived.Test.YtfniekdohidbiaaOa
namespace Go.Proofs.Ytfniekdohidbiaa
open Go.RowKit Go.Bm Go.Sort
theorem first_bad {p : Nat → Prop} (n : Nat) : (∀ i, i < n → p i) ∨ ∃ m, m < n ∧ (∀ i, i < m → p i) ∧ ¬ p m := by
  classical
  induction n with
  | zero => exact Or.inl fun i h => by omega
  | succ n ih =>
    rcases ih with h | ⟨m, h1, h2, h3⟩
    · by_cases hp : p n
      · exact Or.inl fun i hi => by
          by_cases e : i = n
          · subst e; exact hp
          · exact h i (by omega)
      · exact Or.inr ⟨n, Nat.lt_succ_self n, h, hp⟩
    · exact Or.inr ⟨m, by omega, h2, h3⟩
/-- both Orders of one list: one answer, one list of numbers -/
theorem order_both (a : Option Addr) (n cap : Nat) (F : Nat → Bmp) (w : World) (hL : IsBms w a n cap F) (hn : n ≤ 40) :
    ∃ (m : Nat) (L : Nat → Int) (c : Int), m ≤ 40 ∧ (∀ w', Below w.heap.size w w' → Calls Try.prog 20 #[.slice a n cap] w' fun e w2 => ∃ p c', e = .returned (.tuple #[.slice p m c', .int .i64 c]) ∧ IsInts w2 p m c' L ∧ Below w'.heap.size w' w2) ∧
      (∀ w', Below w.heap.size w w' → Calls Try.prog 21 #[.slice a n cap] w' fun e w2 => ∃ p c', e = .returned (.tuple #[.slice p m c', .int .i64 c]) ∧ IsInts w2 p m c' L ∧ Below w'.heap.size w' w2) := by
  by_cases h0 : n = 0
  · subst h0
    refine ⟨0, fun _ => 0, 0, by omega, fun w' _ => (order20_none a cap w').mono ?_, fun w' _ => (order21_none a cap w').mono ?_⟩
    · rintro e w2 ⟨rfl, hb⟩; exact ⟨none, 0, rfl, Or.inl rfl, hb⟩
    · rintro e w2 ⟨rfl, hb⟩; exact ⟨none, 0, rfl, Or.inl rfl, hb⟩
  · obtain ⟨b, off, rfl⟩ : ∃ b off, a = some ⟨b, off, none⟩ := by
      rcases hL with h | ⟨b, off, h, _⟩
      · omega
      · exact ⟨b, off, h⟩
    rcases first_bad (p := fun i => (F i).ok) n with hok | ⟨m, hm, hok, hbad⟩
    · classical
      by_cases hs : ∃ l, Sorted F n l
      · obtain ⟨l, hs⟩ := hs
        refine ⟨n, fun i => (l[i]! : Nat), 0, hn, fun w' hb => (order20 b off n cap F w' (hL.below hb) (by omega) (by omega) hok).mono ?_, fun w' hb => (order21 b off n cap F w' (hL.below hb) (by omega) (by omega) hok).mono ?_⟩
        · rintro e w2 ⟨g, c', l', rfl, hs', hi, hb2⟩
          obtain rfl := hs'.unique hs
          exact ⟨_, c', rfl, hi, hb2⟩
        · rintro e w2 ⟨g, c', l', rfl, hs', hi, hb2⟩
          obtain rfl := hs'.unique hs
          exact ⟨_, c', rfl, hi, hb2⟩
      · refine ⟨0, fun _ => 0, 0, by omega, fun w' hb => (order20 b off n cap F w' (hL.below hb) (by omega) (by omega) hok).mono ?_, fun w' hb => (order21 b off n cap F w' (hL.below hb) (by omega) (by omega) hok).mono ?_⟩
        · rintro e w2 ⟨g, c', l', rfl, hs', hi, hb2⟩
          exact absurd ⟨l', hs'⟩ hs
        · rintro e w2 ⟨g, c', l', rfl, hs', hi, hb2⟩
          exact absurd ⟨l', hs'⟩ hs
    · refine ⟨0, fun _ => 0, 110, by omega, fun w' hb => (order20_bad b off n cap m F w' (hL.below hb) (by omega) (by omega) hm hok hbad).mono ?_, fun w' hb => (order21_bad b off n cap m F w' (hL.below hb) hm hok hbad).mono ?_⟩
      · rintro e w2 ⟨rfl, hb⟩; exact ⟨none, 0, rfl, Or.inl rfl, hb⟩
      · rintro e w2 ⟨rfl, hb⟩; exact ⟨none, 0, rfl, Or.inl rfl, hb⟩
set_option maxHeartbeats 1000000 in
set_option maxRecDepth 100000 in
theorem order_walk (a : Option Addr) (n cap : Nat) (F : Nat → Bmp) (w : World) (hL : IsBms w a n cap F) (hn : n ≤ 9223372036854775807) :
    Calls Try.prog 4 #[.slice a n cap] w fun e w' => e = .returned (.bool true) ∧ Below w.heap.size w w' := by
  have HL := Lib.hid hL
  clear hL
  go_enter Try.func4, Try.ntmps4
  go_upto_region 3 with (first
    | (go_at_call 10; refine (light10 a n cap F w HL.out hn).mono ?_; rintro e w1 ⟨b, rfl, ⟨q, rfl⟩, hb, _⟩)
    | (go_at_call 11; refine (wakes11 _).mono ?_; rintro e w2 ⟨rfl, hb2⟩))
  · go_ret
    exact ⟨rfl, below_then (below_drewN (Below.refl _ _) q) hb2 (Nat.le_refl _)⟩
  · have hb' : b = true := by first | assumption | (simp_all; done)
    obtain ⟨m, L, c, hm, h20, h21⟩ := order_both a n cap F w HL.out (hb hb')
    have H20 := Lib.hid h20
    have H21 := Lib.hid h21
    clear h20 h21 hb hb'
    go_wp2_with (first
      | (go_at_call 20; refine (H20.out _ (below_drewN (Below.refl _ _) q)).mono ?_; rintro e w3 ⟨p3, c3, rfl, hi3, hb3⟩; have HI3 := Lib.hid hi3; have HB3 := Lib.hid (below_then (below_drewN (Below.refl _ _) q) hb3 (Nat.le_refl _)); clear hi3 hb3)
      | (go_at_call 21; refine (H21.out _ HB3.out).mono ?_; rintro e w4 ⟨p4, c4, rfl, hi4, hb4⟩; have HI4 := Lib.hid hi4; have HI34 := Lib.hid (HI3.out.below hb4); have HB4 := Lib.hid (below_then HB3.out hb4 (Nat.le_refl _)); clear hi4 hb4)
      | (go_at_call 22; refine (eqints22 p3 m c3 L p4 m c4 L true w4 HI34.out HI4.out (by simp) (by omega)).mono ?_; rintro e w5 ⟨rfl, q5, rfl⟩)
      | (go_at_call 11; refine (wakes11 _).mono ?_; rintro e w6 ⟨rfl, hb6⟩))
    go_ret
    exact ⟨rfl, below_then (below_drewN HB4.out q5) hb6 (Nat.le_refl _)⟩
end Go.Proofs.Ytfniekdohidbiaa
