/- MeasureShares: for every list of pairs the law returns true, and the list reads as before. No condition. -/
import Derived.Test.YtokdgppaedklhaaRows
import Derived.Test.YtokdgppaedklhaaL3
import Derived.ProofKit
import Derived.Deep.SlicePairs
import Derived.OpenShut
import Derived.ChangeOld
namespace Go.Proofs.Ytokdgppaedklhaa
open Go.ChangeShapes Go.WideShapes Go.ChangeAt Go.RowKit

theorem own : ownKnob Try.prog.godebug = none := by kernel_rfl
theorem laidOut : laidOutB Try.prog = true := by kernel_rfl

/-- a slice of pairs that came in, opened -/
theorem pairs_of_arg {H : Type} {enc : TypeId × Value → H} {W : World} {v : Value} {d : DataW H} {p : List MemPlace}
    (hv : Value.okWide Try.prog W .any 0 22 v) (h : DataW.Trod enc Try.prog W 0 (fun _ => true) true 22 v d p) :
    ∃ a len cap N M, v = .slice a len cap ∧ IsPairs W a len cap N M := by
  obtain ⟨a0, len0, cap0, rfl⟩ := okWide_slice Try.underlying22 hv
  obtain ⟨fuel, hf⟩ := h
  rcases Deep.open_slice_pairs Try.underlying22 Try.underlying28 (by kernel_rfl) rfl rfl (by kernel_rfl) (by kernel_rfl) hf with ⟨hcs, _⟩ | ⟨x, l, c, m, n, V0, V1, D0, D1, P0, P1, hcs, _, hl, hm, hmm, _, hcell⟩
  · simp [Value.cells] at hcs
    obtain ⟨rfl, rfl, rfl⟩ := hcs
    exact ⟨_, _, _, fun _ => 0, fun _ => 0, rfl, Or.inl rfl⟩
  · simp [Value.cells] at hcs
    obtain ⟨rfl, rfl, rfl⟩ := hcs
    have hm2 : len0 ≤ m := by rw [hmm]; simp; exact hl
    have each : ∀ i, i < len0 → ∃ q : Int × Int, W.cell? (x.add (i * 2)) = some (.int .i64 q.1) ∧ W.cell? (x.add (i * 2 + 1)) = some (.int .i64 q.2) ∧ Lit.wf (.int .i64 q.1) = true ∧ Lit.wf (.int .i64 q.2) = true := by
      intro i hi
      obtain ⟨c0, c1, t0, t1⟩ := hcell i (by omega)
      obtain ⟨n0, e0, _, w0⟩ := DataW.trod_int Try.underlying3 t0
      obtain ⟨n1, e1, _, w1⟩ := DataW.trod_int Try.underlying3 t1
      simp at e0 e1
      exact ⟨(n0, n1), by rw [c0, e0], by rw [c1, e1], w0, w1⟩
    obtain ⟨q, hq⟩ := Deep.choose_lt each
    by_cases h0 : len0 = 0
    · exact ⟨_, _, _, fun _ => 0, fun _ => 0, rfl, Or.inl h0⟩
    · obtain ⟨b, off, spot⟩ := x
      have hs : spot = none := by
        have := (hq 0 (by omega)).1
        simpa [Addr.add] using World.cell?_spot this
      subst hs
      refine ⟨_, _, _, fun i => (q i).1, fun i => (q i).2, rfl, Or.inr ⟨b, off, rfl, hl, by unfold maxLen at hm; exact hm, ?_, ?_⟩⟩
      · have := (hq 0 (by omega)).1
        rw [add_plain] at this
        exact World.block_lt_of_cell? W _ this
      · intro i hi
        have := hq i hi
        rw [add_plain, add_plain] at this
        exact this

set_option maxRecDepth 100000 in
theorem shares_lifted (os : Os) (started : os.Started) (H : Type) (enc : TypeId × Value → H) :
    ReturnsInHanded {} Try.checked os 3 .any (Rows.measureSharesSpec.pre6 enc Try.prog Try.f3 Rows.measureSharesRow.domain false) (Rows.measureSharesSpec.post enc Try.prog Try.f3 false true false false) := by
  refine returnsInHanded_of_change (C := Try.checked) own started (by kernel_rfl) Try.func3
    (ChangeSpec.witness6 (enc := enc) (C := Try.checked) false ⟨#[], #[.slice none 0 0], []⟩ 8 (by kernel_rfl) (by kernel_rfl) (by kernel_rfl) (by kernel_rfl)) ?_
  intro W base args ds gs before hval0 hW hcnd _
  have hval : ∀ (j : Nat) t v, Try.f3.params[j]? = some t → args[j]? = some v → Value.okWide Try.prog W .any base t v := hval0
  have hW' := hW
  obtain ⟨p, q, hA0, hV, rfl, hfz, hnd⟩ := hW
  have hA : DataW.TrodAll enc Try.prog W 0 (fun _ => true) true Try.f3.params.toList args.toList ds p := hA0
  rw [Try.params3] at hA hval
  obtain ⟨v0, vs0, d0, ds0, p0, q0, hargs, rfl, rfl, h0, r0⟩ := trodAll_cons hA
  obtain ⟨rfl, rfl, rfl⟩ := trodAll_nil r0
  obtain rfl : args = #[v0] := by cases args; simp_all
  obtain ⟨rfl, rfl⟩ := trodVars_none hV
  have k0 := h0
  have lt0 : ∀ x ∈ p0, x.block < W.heap.size := by obtain ⟨m, hm⟩ := k0; exact DataW.trod_lt m _ _ _ hm
  obtain ⟨a, len, cap, N, M, rfl, hP⟩ := pairs_of_arg (hval 0 22 v0 rfl rfl) h0
  clear hA0 hval0
  refine (shares_walk a len cap N M W hP).mono fun e W' ⟨he, bel⟩ => ?_
  subst he
  exact ⟨_, rfl, _, _, _, [], _, [], hW', trodAll_mk1 (shut_bool Try.underlying4 _), (trodAll_cons_mk (Below.trod laidOut (by kernel_rfl) (of_decide_eq_true (by kernel_rfl)) k0 bel lt0) trodAll_mk0), rfl, bel.frame _, fun h => by cases h⟩

theorem shares_over : Rows.measureSharesRow.holds Try.pinned (OpenSpec.ofChange Rows.measureSharesSpec) :=
  OpenClaim.holds_of_wide 3 Try.f3 rfl rfl rfl rfl rfl rfl rfl ⟨rfl, rfl, rfl, rfl, rfl⟩ rfl rfl rfl rfl rfl (by kernel_rfl) Try.func3 (by kernel_rfl)
    (of_decide_eq_true (by kernel_rfl)) (by unfold Func.isWrapper; first | (rw [if_pos (by decide +kernel)]; kernel_rfl) | (rw [if_neg (by decide +kernel)]; exact ⟨rfl, rfl⟩))
    (fun os started H enc _ => shares_lifted os started H enc)

theorem MeasureShares_holds : Rows.MeasureSharesSaid := shares_over
#print axioms MeasureShares_holds
end Go.Proofs.Ytokdgppaedklhaa
