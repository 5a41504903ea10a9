/- Both Classes of one list: one answer. Conditions: the bounds that each theorem names. -/
import Derived.Test.YtfniekdohidbiaaXn
import Derived.Test.YtfniekdohidbiaaXp
import Derived.Test.YtfniekdohidbiaaXq
import Derived.Test.YtfniekdohidbiaaXs
namespace Go.Proofs.Ytfniekdohidbiaa
open Go.RowKit Go.Bm Fl Go.FlW
theorem first_not {p : Nat → Prop} (n : Nat) : (∀ i, i < n → p i) ∨ ∃ m, m < n ∧ (∀ i, i < m → p i) ∧ ¬ p m := by
  classical
  induction n with
  | zero => exact Or.inl fun i h => by omega
  | succ n ih =>
    rcases ih with h | ⟨m, h1, h2, h3⟩
    · by_cases hp : p n
      · exact Or.inl fun i hi => by
          by_cases e : i = n
          · subst e; exact hp
          · exact h i (by omega)
      · exact Or.inr ⟨n, Nat.lt_succ_self n, h, hp⟩
    · exact Or.inr ⟨m, by omega, h2, h3⟩
theorem IsBms.some {w : World} {a : Option Addr} {n cap : Nat} {F : Nat → Bmp} (h : IsBms w a n cap F) (h0 : 0 < n) : ∃ b off, a = some ⟨b, off, none⟩ := by
  rcases h with h | ⟨b, off, h, _⟩
  · omega
  · exact ⟨b, off, h⟩
/-- what Classes of package match answers at good bitmaps, wherever they lie -/
theorem classes15_like {n t : Nat} {F : Nat → Bmp} (hn : n ≤ 1048576) (ht : tolOk t = true) (hok : ∀ i, i < n → (F i).ok ∧ (F i).n ≤ 10000) (hroom : ∀ i, i < n → hit F t (clsOf F t i).2 i = none → (clsOf F t i).2.length < 4096)
    (a' : Option Addr) (cap' : Nat) (F' : Nat → Bmp) (w' : World) (hL : IsBms w' a' n cap' F') (hlike : ∀ i, i < n → (F' i).like (F i)) :
    Calls Try.prog 15 #[.slice a' n cap', .float .f64 t] w' fun e w2 => ∃ pc cc pr cr R, e = .returned (.tuple #[.agg #[.slice pc n cc, .slice pr (clsOf F t n).2.length cr], .int .i64 0]) ∧
      w2.ownsRow w'.heap.size 3 1 (.slice pc n cc) n (numsL (clsOf F t n).1) ∧ OwnBms w2 w'.heap.size (.slice pr (clsOf F t n).2.length cr) (clsOf F t n).2.length R ∧ (∀ k, k < (clsOf F t n).2.length → (R k).like (F (clsOf F t n).2[k]!)) ∧ Below w'.heap.size w' w2 := by
  have hc := clsOf_congr (t := t) hlike
  refine (classes15 a' n cap' t F' w' hL hn ht (fun i hi => ⟨(hlike i hi).ok (hok i hi).1, by rw [(hlike i hi).2.2.1]; exact (hok i hi).2⟩) (fun i hi hh => ?_)).mono ?_
  · rw [hc i (by omega)] at hh ⊢
    exact hroom i hi (by rw [← hh]; exact (hit_congr hlike hi (fun k hk => Nat.lt_trans (reps_lt F t i k hk) hi)).symm)
  · rintro e w2 ⟨pc, cc, pr, cr, R, he, h1, h2, h3, h4⟩
    rw [hc n (Nat.le_refl _)] at he h1 h2 h3
    exact ⟨pc, cc, pr, cr, R, he, h1, h2, fun k hk => (h3 k hk).trans (hlike _ (reps_lt F t n k hk)), h4⟩
theorem classes_both (a : Option Addr) (n cap t : Nat) (F : Nat → Bmp) (w : World) (hL : IsBms w a n cap F) (hn : n ≤ 40) (hsm : ∀ i, i < n → (F i).n ≤ 6000) :
    ∃ (cls : List Nat) (m : Nat) (Q : Nat → Bmp) (c : Int), cls.length ≤ 40 ∧ m ≤ 40 ∧ (∀ k, k < m → (Q k).n ≤ 6000) ∧
      (∀ w', Below w.heap.size w w' → Calls Try.prog 14 #[.slice a n cap, .float .f64 t] w' fun e w2 => ∃ pc cc pr cr G, e = .returned (.tuple #[.agg #[.slice pc cls.length cc, .slice pr m cr], .int .i64 c]) ∧
        IsInts w2 pc cls.length cc (fun i => (cls[i]! : Nat)) ∧ IsBms w2 pr m cr G ∧ (∀ k, k < m → (G k).like (Q k)) ∧ Below w'.heap.size w' w2) ∧
      (∀ a' cap' F' w', IsBms w' a' n cap' F' → (∀ i, i < n → (F' i).like (F i)) → Calls Try.prog 15 #[.slice a' n cap', .float .f64 t] w' fun e w2 => ∃ pc cc pr cr R, e = .returned (.tuple #[.agg #[.slice pc cls.length cc, .slice pr m cr], .int .i64 c]) ∧
        w2.ownsRow w'.heap.size 3 1 (.slice pc cls.length cc) cls.length (numsL cls) ∧ OwnBms w2 w'.heap.size (.slice pr m cr) m R ∧ (∀ k, k < m → (R k).like (Q k)) ∧ Below w'.heap.size w' w2) := by
  cases ht : tolOk t with
  | false =>
    refine ⟨[], 0, F, 102, by simp, by omega, fun k h => by omega, fun w' _ => (classes14_tol a n cap t w' ht).mono ?_, fun a' cap' F' w' _ _ => (classes15_tol a' n cap' t w' ht).mono ?_⟩
    · rintro e w2 ⟨rfl, hb⟩
      exact ⟨none, 0, none, 0, F, rfl, Or.inl rfl, Or.inl rfl, fun k h => by omega, hb⟩
    · rintro e w2 ⟨rfl, hb⟩
      exact ⟨none, 0, none, 0, F, rfl, World.ownsRow_nil _ _ _ _, OwnBms.nil _ _ _, fun k h => by omega, hb⟩
  | true =>
    rcases first_not (p := fun i => (F i).ok) n with hok | ⟨m, hm, hok, hbad⟩
    · have hok' : ∀ i, i < n → (F i).ok ∧ (F i).n ≤ 10000 := fun i hi => ⟨hok i hi, Nat.le_trans (hsm i hi) (by omega)⟩
      have hroom : ∀ i, i < n → hit F t (clsOf F t i).2 i = none → (clsOf F t i).2.length < 4096 := fun i hi _ => by have := (clsOf_reps F t i).1; omega
      have hlen := clsOf_len F t n
      refine ⟨(clsOf F t n).1, (clsOf F t n).2.length, fun k => F (clsOf F t n).2[k]!, 0, by omega, by have := (clsOf_reps F t n).1; omega, fun k hk => hsm _ (reps_lt F t n k hk),
        fun w' hb => (classes14 a n cap t F w' (hL.below hb) (by omega) ht hok' hroom).mono ?_, fun a' cap' F' w' hL' hlike => (classes15_like (by omega) ht hok' hroom a' cap' F' w' hL' hlike).mono ?_⟩
      · rintro e w2 ⟨pc, cc, pr, cr, R, he, h1, h2, h3, h4⟩
        obtain ⟨p, c, hv, hi⟩ := isInts_of_owns h1
        simp only [Value.slice.injEq, true_and] at hv
        obtain ⟨rfl, rfl⟩ := hv
        obtain ⟨p, c, hv, hb2⟩ := h2.is
        simp only [Value.slice.injEq, true_and] at hv
        obtain ⟨rfl, rfl⟩ := hv
        refine ⟨pc, cc, pr, cr, R, by rw [he, hlen], by rw [hlen]; exact hi, hb2, h3, h4⟩
      · rintro e w2 ⟨pc, cc, pr, cr, R, he, h1, h2, h3, h4⟩
        exact ⟨pc, cc, pr, cr, R, by rw [he, hlen], by rw [hlen]; exact h1, h2, h3, h4⟩
    · obtain ⟨b, off, rfl⟩ := hL.some (by omega)
      refine ⟨[], 0, F, 110, by simp, by omega, fun k h => by omega, fun w' hb => (classes14_bad b off n cap t m F w' (hL.below hb) ht hm hok hbad).mono ?_, fun a' cap' F' w' hL' hlike => ?_⟩
      · rintro e w2 ⟨rfl, hb⟩
        exact ⟨none, 0, none, 0, F, rfl, Or.inl rfl, Or.inl rfl, fun k h => by omega, hb⟩
      · obtain ⟨b', off', rfl⟩ := hL'.some (by omega)
        refine (classes15_bad b' off' n cap' t m F' w' hL' ht hm (fun i hi => (hlike i (by omega)).ok (hok i hi)) (fun h => hbad ((hlike m hm).symm.ok h))).mono ?_
        rintro e w2 ⟨rfl, hb⟩
        exact ⟨none, 0, none, 0, F, rfl, World.ownsRow_nil _ _ _ _, OwnBms.nil _ _ _, fun k h => by omega, hb⟩
end Go.Proofs.Ytfniekdohidbiaa
