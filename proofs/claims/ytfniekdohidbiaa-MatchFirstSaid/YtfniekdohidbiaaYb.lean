/- The first elements of lists of bitmaps and of numbers. Conditions: the bounds that each theorem names. -/
import Derived.Test.YtfniekdohidbiaaXr
import Derived.Test.YtfniekdohidbiaaXu
import Derived.Test.YtfniekdohidbiaaXt
import Derived.Test.YtfniekdohidbiaaYa
import Derived.Test.YtfniekdohidbiaaOa
namespace Go.Proofs.Ytfniekdohidbiaa
open Go.RowKit Go.Bm Fl Go.FlW
theorem IsBms.cap {w : World} {a : Option Addr} {n cap : Nat} {F : Nat → Bmp} (h : IsBms w a n cap F) : n ≤ cap := by
  rcases h with h | ⟨b, off, h1, h2, h3, h4, h5⟩ <;> omega
theorem IsInts.cap {w : World} {a : Option Addr} {n cap : Nat} {L : Nat → Int} (h : IsInts w a n cap L) : n ≤ cap := by
  rcases h with h | ⟨b, off, h1, h2, h3, h4, h5⟩ <;> omega
theorem IsBms.sub {w : World} {a : Option Addr} {n cap k : Nat} {F : Nat → Bmp} (h : IsBms w a n cap F) (hk : k ≤ n) : IsBms w a k cap F := by
  rcases h with h | ⟨b, off, h1, h2, h3, h4, h5⟩
  · exact Or.inl (by omega)
  · exact Or.inr ⟨b, off, h1, by omega, h3, h4, fun i hi => h5 i (by omega)⟩
theorem IsInts.sub {w : World} {a : Option Addr} {n cap k : Nat} {L : Nat → Int} (h : IsInts w a n cap L) (hk : k ≤ n) : IsInts w a k cap L := by
  rcases h with h | ⟨b, off, h1, h2, h3, h4, h5⟩
  · exact Or.inl (by omega)
  · exact Or.inr ⟨b, off, h1, by omega, h3, h4, fun i hi => h5 i (by omega)⟩
theorem addr0 (b off s : Nat) : (⟨b, off, none⟩ : Addr).add (0 * s) = ⟨b, off, none⟩ := by rw [add_plain]; simp
theorem slice_any (t e z : Nat) (i0 : TypeInfo) (hi : Try.prog.info? e = some i0) (hz1 : Try.prog.cellsOf e = z) (he : Try.prog.elem t = e) (ht : Try.prog.underlying t = some (.slice e)) (a : Option Addr) (n cap k : Nat) (hk : k ≤ cap) :
    ∃ a', (∀ w, (Instr.slice t (.slice a n cap) none (some (.int .i64 (k : Int))) none).run Try.prog w = .ok (.slice a' k cap) w) ∧ ∀ b off, a = some ⟨b, off, none⟩ → a' = a := by
  refine ⟨if cap = 0 then a else a.map (·.add (0 * z)), fun w => ?_, fun b off e => by subst e; simp only [Option.map_some, addr0]; split <;> rfl⟩
  have hz : ∀ w, (sizeOf (Try.prog.elem t)).run Try.prog w = .ok z w := fun w => by
    rw [he, ← hz1]; exact run_sizeOf w hi
  rw [run_slice_h w t a n cap (by rw [he]; exact ht) .i64 (k : Int) (by omega) (by omega), hz w]
  simp [Result.andThen, sliced]
theorem slice22 (a : Option Addr) (n cap k : Nat) (hk : k ≤ cap) : ∃ a', (∀ w, (Instr.slice 22 (.slice a n cap) none (some (.int .i64 (k : Int))) none).run Try.prog w = .ok (.slice a' k cap) w) ∧ ∀ b off, a = some ⟨b, off, none⟩ → a' = a := by
  obtain ⟨i0, hi, hz0, hz1, hz2⟩ := info_parts infoB
  exact slice_any 22 48 3 i0 hi (by kernel_rfl) (by kernel_rfl) Try.underlying22 a n cap k hk
theorem slice31 (a : Option Addr) (n cap k : Nat) (hk : k ≤ cap) : ∃ a', (∀ w, (Instr.slice 31 (.slice a n cap) none (some (.int .i64 (k : Int))) none).run Try.prog w = .ok (.slice a' k cap) w) ∧ ∀ b off, a = some ⟨b, off, none⟩ → a' = a := by
  obtain ⟨i0, hi, hz0, hz1, hz2⟩ := info_parts infoI
  exact slice_any 31 3 1 i0 hi (by kernel_rfl) (by kernel_rfl) Try.underlying31 a n cap k hk
theorem bms_first {w : World} {a a' : Option Addr} {n cap k : Nat} {F : Nat → Bmp} (h : IsBms w a n cap F) (hk : k ≤ n) (ha : ∀ b off, a = some ⟨b, off, none⟩ → a' = a) : IsBms w a' k cap F := by
  rcases h.sub hk with h | ⟨b, off, h1, h2⟩
  · exact Or.inl h
  · rw [ha b off h1]; exact Or.inr ⟨b, off, h1, h2⟩
theorem ints_first {w : World} {a a' : Option Addr} {n cap k : Nat} {F : Nat → Int} (h : IsInts w a n cap F) (hk : k ≤ n) (ha : ∀ b off, a = some ⟨b, off, none⟩ → a' = a) : IsInts w a' k cap F := by
  rcases h.sub hk with h | ⟨b, off, h1, h2⟩
  · exact Or.inl h
  · rw [ha b off h1]; exact Or.inr ⟨b, off, h1, h2⟩
/-- what Classes answers at bitmaps that may be, few and light -/
theorem classes15_may {n t : Nat} {F : Nat → Bmp} (hm : MayB F n) (ht : tolOk t = true) (k : Nat) (hk : k ≤ n) (a' : Option Addr) (cap' : Nat) (w' : World) (hL : IsBms w' a' k cap' F) :
    Calls Try.prog 15 #[.slice a' k cap', .float .f64 t] w' fun e w2 => ∃ pc cc pr cr R, e = .returned (.tuple #[.agg #[.slice pc k cc, .slice pr (clsOf F t k).2.length cr], .int .i64 0]) ∧
      IsInts w2 pc k cc (fun i => ((clsOf F t k).1[i]! : Nat)) ∧ IsBms w2 pr (clsOf F t k).2.length cr R ∧ (∀ j, j < (clsOf F t k).2.length → (R j).like (F (clsOf F t k).2[j]!)) ∧ Below w'.heap.size w' w2 := by
  have h40 := hm.2.1
  refine (classes15 a' k cap' t F w' hL (by omega) ht (fun i hi => ⟨hm.1 i (by omega), Nat.le_trans (hm.small i (by omega)) (by omega)⟩) (fun i hi _ => by have := (clsOf_reps F t i).1; omega)).mono ?_
  rintro e w2 ⟨pc, cc, pr, cr, R, he, h1, h2, h3, h4⟩
  obtain ⟨p, c, hv, hi⟩ := isInts_of_owns h1
  simp only [Value.slice.injEq, true_and] at hv
  obtain ⟨rfl, rfl⟩ := hv
  obtain ⟨p, c, hv, hb2⟩ := h2.is
  simp only [Value.slice.injEq, true_and] at hv
  obtain ⟨rfl, rfl⟩ := hv
  exact ⟨pc, cc, pr, cr, R, he, hi, hb2, h3, h4⟩
theorem may23_is (b : Bool) (a : Option Addr) (n cap : Nat) (F : Nat → Bmp) (w : World) (hA : IsBms w a n cap F) (hb : b = true ↔ MayB F n) :
    Calls Try.prog 23 #[.slice a n cap] w fun e w' => e = .returned (.bool b) ∧ Below w.heap.size w w' := by
  refine (may23 a n cap F w hA hA.len).mono ?_
  rintro e w' ⟨c, rfl, h1, h2⟩
  have : c = b := by
    cases c <;> cases b <;> simp_all
  exact ⟨by rw [this], h1⟩
theorem geq0 (t : Nat) : (FloatKind.f64.format.order t 0 == some .gt || FloatKind.f64.format.order t 0 == some .eq) = tolOk t := by
  rw [ord_ge, nan_zero, key_zero]
  unfold tolOk
  simp
end Go.Proofs.Ytfniekdohidbiaa
