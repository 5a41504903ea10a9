/- Arguments opened: bitmaps, words. No condition. -/
import Derived.Test.YtknhgenhknjkoaaBh
import Derived.ProofKit
import Derived.Deep.SlicePairs
import Derived.OpenShut
import Derived.ChangeOld
import Derived.Lib.SmallJoins
namespace Go.Proofs.Ytknhgenhknjkoaa
open Go.ChangeShapes Go.WideShapes Go.ChangeAt Go.RowKit Go.Bm

theorem own : ownKnob Try.prog.godebug = none := by kernel_rfl
theorem laidOut : laidOutB Try.prog = true := by kernel_rfl
theorem add_plain (b off i : Nat) : (⟨b, off, none⟩ : Addr).add i = ⟨b, off + i, none⟩ := by unfold Addr.add; split <;> simp_all

/-- a slice of words, opened -/
theorem words_of_trod {H : Type} {enc : TypeId × Value → H} {W : World} {v : Value} {x : DataW H × List MemPlace} {n : Nat}
    (h : DataW.trod enc Try.prog W 0 (fun _ => true) true n 22 [v] = some x) : ∃ a len cap L, v = .slice a len cap ∧ IsWords W a len cap L := by
  rcases open_ints Try.underlying22 Try.underlying54 (by kernel_rfl) h with ⟨hcs, _⟩ | ⟨x, l, c, zs, hcs, _, hl, hm, hz, _, hcell, hwz⟩
  · simp at hcs
    exact ⟨_, _, _, fun _ => 0, hcs, Or.inl rfl⟩
  · simp at hcs
    simp at hz
    refine ⟨_, _, _, fun i => (zs.getD i 0).toNat, hcs, ?_⟩
    by_cases h0 : l = 0
    · exact Or.inl h0
    · right
      obtain ⟨b, off, spot⟩ := x
      have hs : spot = none := by
        have := hcell 0 (by omega)
        simpa [Addr.add] using World.cell?_spot this
      subst hs
      refine ⟨b, off, rfl, hl, by unfold maxLen at hm; exact hm, ?_, ?_⟩
      · have := hcell 0 (by omega)
        rw [add_plain] at this
        exact World.block_lt_of_cell? W _ this
      · intro i hi
        have h1 := hcell i (by omega)
        rw [add_plain] at h1
        have h2 := hwz (zs.getD i 0) (by rw [List.getD_eq_getElem?_getD, List.getElem?_eq_getElem (by omega)]; simp)
        have h3 : 0 ≤ zs.getD i 0 ∧ zs.getD i 0 < 18446744073709551616 := by
          generalize zs.getD i 0 = z at *
          simp [Lit.wf, IntKind.min, IntKind.max, IntKind.bits, IntKind.signed] at h2
          omega
        refine ⟨?_, by dsimp only; omega⟩
        rw [h1]
        congr 2
        dsimp only
        omega

/-- a bitmap that came in -/
theorem bitmap_of_arg {H : Type} {enc : TypeId × Value → H} {W : World} {v : Value} {d : DataW H} {p : List MemPlace}
    (hv : Value.okWide Try.prog W .any 0 24 v) (h : DataW.Trod enc Try.prog W 0 (fun _ => true) true 24 v d p) :
    ∃ w h a len cap L, v = .agg #[.int .i64 w, .int .i64 h, .slice a len cap] ∧ IsWords W a len cap L := by
  obtain ⟨c0, c1, c2, y0, y1, y2, m, rfl, _, _, t0, t1, t2⟩ := Joins.open_agg3 Try.underlying24 (by kernel_rfl) (by kernel_rfl) hv h
  obtain ⟨n0, e0, _, _⟩ := DataW.trod_int Try.underlying3 t0
  obtain ⟨n1, e1, _, _⟩ := DataW.trod_int Try.underlying3 t1
  obtain ⟨a, len, cap, L, rfl, hL⟩ := words_of_trod t2
  simp at e0 e1
  subst e0; subst e1
  exact ⟨n0, n1, a, len, cap, L, rfl, hL⟩
end Go.Proofs.Ytknhgenhknjkoaa
