/- Arguments opened: a bitmap, a template, places; a list that is nil has no room. No condition. -/
import Derived.Test.YtknhgenhknjkoaaOp
namespace Go.Proofs.Ytknhgenhknjkoaa
open Go.ChangeShapes Go.WideShapes Go.ChangeAt Go.RowKit Go.Bm

/-- a slice of words, opened -/
theorem words_of_trod2 {H : Type} {enc : TypeId × Value → H} {W : World} {v : Value} {x : DataW H × List MemPlace} {n : Nat}
    (h : DataW.trod enc Try.prog W 0 (fun _ => true) true n 22 [v] = some x) : ∃ a len cap L, v = .slice a len cap ∧ IsWords W a len cap L ∧ (a = none → len = 0 ∧ cap = 0) := by
  rcases open_ints Try.underlying22 Try.underlying54 (by kernel_rfl) h with ⟨hcs, _⟩ | ⟨x, l, c, zs, hcs, _, hl, hm, hz, _, hcell, hwz⟩
  · simp at hcs
    exact ⟨_, _, _, fun _ => 0, hcs, Or.inl rfl, fun _ => ⟨rfl, rfl⟩⟩
  · simp at hcs
    simp at hz
    refine ⟨_, _, _, fun i => (zs.getD i 0).toNat, hcs, ?_, fun h => by cases h⟩
    by_cases h0 : l = 0
    · exact Or.inl h0
    · right
      obtain ⟨b, off, spot⟩ := x
      have hs : spot = none := by
        have := hcell 0 (by omega)
        simpa [Addr.add] using World.cell?_spot this
      subst hs
      refine ⟨b, off, rfl, hl, by unfold maxLen at hm; exact hm, ?_, ?_⟩
      · have := hcell 0 (by omega)
        rw [add_plain] at this
        exact World.block_lt_of_cell? W _ this
      · intro i hi
        have h1 := hcell i (by omega)
        rw [add_plain] at h1
        have h2 := hwz (zs.getD i 0) (by rw [List.getD_eq_getElem?_getD, List.getElem?_eq_getElem (by omega)]; simp)
        have h3 : 0 ≤ zs.getD i 0 ∧ zs.getD i 0 < 18446744073709551616 := by
          generalize zs.getD i 0 = z at *
          simp [Lit.wf, IntKind.min, IntKind.max, IntKind.bits, IntKind.signed] at h2
          omega
        refine ⟨?_, by dsimp only; omega⟩
        rw [h1]
        congr 2
        dsimp only
        omega

/-- a bitmap, a template, places that came in -/
theorem ask_of_arg2 {H : Type} {enc : TypeId × Value → H} {W : World} {v : Value} {d : DataW H} {p : List MemPlace}
    (hv : Value.okWide Try.prog W .any 0 27 v) (h : DataW.Trod enc Try.prog W 0 (fun _ => true) true 27 v d p) :
    ∃ w h a len cap L t ax nx cx X ay ny cy Y, v = .agg #[.int .i64 w, .int .i64 h, .slice a len cap, .int .i64 t, .slice ax nx cx, .slice ay ny cy] ∧ IsWords W a len cap L ∧ (a = none → len = 0 ∧ cap = 0) ∧
      (IsInts W ax nx X ∧ nx ≤ cx ∧ cx ≤ 9223372036854775807 ∧ ∀ i, i < nx → -9223372036854775808 ≤ X i ∧ X i ≤ 9223372036854775807) ∧
      (IsInts W ay ny Y ∧ ny ≤ cy ∧ cy ≤ 9223372036854775807 ∧ ∀ i, i < ny → -9223372036854775808 ≤ Y i ∧ Y i ≤ 9223372036854775807) := by
  obtain ⟨cs, rfl, hsz⟩ := okWide_struct Try.underlying27 hv
  obtain ⟨fuel, hf⟩ := h
  have hsz1 : cs.size = 6 := hsz.trans (by kernel_rfl)
  obtain ⟨l⟩ := cs
  match l, hsz1 with
  | [c0, c1, c2, c3, c4, c5], _ =>
    obtain ⟨xs, n, hd, _, _, hxl, hfld⟩ := DataW.trod_struct Try.underlying27 hf
    match xs, hxl with
    | [y0, y1, y2, y3], _ =>
      have k24 : Try.prog.cellsOf 24 = 3 := by kernel_rfl
      have k3 : Try.prog.cellsOf 3 = 1 := by kernel_rfl
      have k25 : Try.prog.cellsOf 25 = 1 := by kernel_rfl
      have g0 := hfld 0 _ rfl
      have g1 := hfld 1 _ rfl
      have g2 := hfld 2 _ rfl
      have g3 := hfld 3 _ rfl
      simp [Value.cells, k24, k3, k25] at g0 g1 g2 g3
      obtain ⟨zs, m, _, _, _, hzl, hfz⟩ := DataW.trod_struct Try.underlying24 g0
      match zs, hzl with
      | [z0, z1, z2], _ =>
        have k22 : Try.prog.cellsOf 22 = 1 := by kernel_rfl
        have b0 := hfz 0 _ rfl
        have b1 := hfz 1 _ rfl
        have b2 := hfz 2 _ rfl
        simp [k3, k22] at b0 b1 b2
        obtain ⟨n0, e0, _, _⟩ := DataW.trod_int Try.underlying3 b0
        obtain ⟨n1, e1, _, _⟩ := DataW.trod_int Try.underlying3 b1
        obtain ⟨n3, e3, _, _⟩ := DataW.trod_int Try.underlying3 g1
        obtain ⟨a, len, cap, L, e2, hL, hno⟩ := words_of_trod2 b2
        obtain ⟨ax, nx, cx, X, e4, hX⟩ := ints_of_trod g2
        obtain ⟨ay, ny, cy, Y, e5, hY⟩ := ints_of_trod g3
        simp at e0 e1 e3
        subst e0; subst e1; subst e2; subst e3; subst e4; subst e5
        exact ⟨n0, n1, a, len, cap, L, n3, ax, nx, cx, X, ay, ny, cy, Y, rfl, hL, hno, hX, hY⟩
end Go.Proofs.Ytknhgenhknjkoaa
