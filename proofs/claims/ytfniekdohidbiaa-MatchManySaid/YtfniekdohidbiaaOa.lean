/- The arguments of the laws of chapter 12, opened: lists of bitmaps, a list beside a word. No condition. -/
import Derived.Test.YtfniekdohidbiaaXj
import Derived.ProofKit
import Derived.Deep.Slices
import Derived.OpenShut
import Derived.ChangeOld
namespace Go.Proofs.Ytfniekdohidbiaa
open Go.ChangeShapes Go.WideShapes Go.ChangeAt Go.RowKit Go.Bm

theorem own : ownKnob Try.prog.godebug = none := by kernel_rfl
theorem laidOut : laidOutB Try.prog = true := by kernel_rfl
theorem add_plain (b off i : Nat) : (⟨b, off, none⟩ : Addr).add i = ⟨b, off + i, none⟩ := by unfold Addr.add; split <;> simp_all
instance : Inhabited Bmp := ⟨⟨0, 0, none, 0, 0, fun _ => 0⟩⟩
/-- a slice of words, opened -/
theorem words_of_trod {H : Type} {enc : TypeId × Value → H} {W : World} {v : Value} {x : DataW H × List MemPlace} {n : Nat}
    (h : DataW.trod enc Try.prog W 0 (fun _ => true) true n 46 [v] = some x) : ∃ a len cap L, v = .slice a len cap ∧ IsWords W a len cap L ∧ (a = none → len = 0 ∧ cap = 0) := by
  rcases open_ints Try.underlying46 Try.underlying23 (by kernel_rfl) h with ⟨hcs, _⟩ | ⟨x, l, c, zs, hcs, _, hl, hm, hz, _, hcell, hwz⟩
  · simp at hcs
    exact ⟨_, _, _, fun _ => 0, hcs, Or.inl rfl, fun _ => ⟨rfl, rfl⟩⟩
  · simp at hcs
    simp at hz
    refine ⟨_, _, _, fun i => (zs.getD i 0).toNat, hcs, ?_, fun h => by cases h⟩
    by_cases h0 : l = 0
    · exact Or.inl h0
    · right
      obtain ⟨b, off, spot⟩ := x
      have hs : spot = none := by
        have := hcell 0 (by omega)
        simpa [Addr.add] using World.cell?_spot this
      subst hs
      refine ⟨b, off, rfl, hl, by unfold maxLen at hm; exact hm, ?_, ?_⟩
      · have := hcell 0 (by omega)
        rw [add_plain] at this
        exact World.block_lt_of_cell? W _ this
      · intro i hi
        have h1 := hcell i (by omega)
        rw [add_plain] at h1
        have h2 := hwz (zs.getD i 0) (by rw [List.getD_eq_getElem?_getD, List.getElem?_eq_getElem (by omega)]; simp)
        have h3 : 0 ≤ zs.getD i 0 ∧ zs.getD i 0 < 18446744073709551616 := by
          generalize zs.getD i 0 = z at *
          simp [Lit.wf, IntKind.min, IntKind.max, IntKind.bits, IntKind.signed] at h2
          omega
        refine ⟨?_, by dsimp only; omega⟩
        rw [h1]
        congr 2
        dsimp only
        omega

/-- a bitmap out of its three cells' reading -/
theorem map_of_cells {H : Type} {enc : TypeId × Value → H} {W : World} {v0 v1 v2 : Value} {x : DataW H × List MemPlace} {n : Nat}
    (h : DataW.trod enc Try.prog W 0 (fun _ => true) true n 48 [v0, v1, v2] = some x) : ∃ m : Bmp, v0 = .int .i64 m.W ∧ v1 = .int .i64 m.H ∧ v2 = .slice m.a m.n m.cap ∧ IsWords W m.a m.n m.cap m.B ∧ (m.a = none → m.n = 0 ∧ m.cap = 0) := by
  obtain ⟨zs, m, _, _, _, hzl, hfz⟩ := DataW.trod_struct Try.underlying48 h
  match zs, hzl with
  | [z0, z1, z2], _ =>
    have k3 : Try.prog.cellsOf 3 = 1 := by kernel_rfl
    have k46 : Try.prog.cellsOf 46 = 1 := by kernel_rfl
    have b0 := hfz 0 _ rfl
    have b1 := hfz 1 _ rfl
    have b2 := hfz 2 _ rfl
    simp [k3, k46] at b0 b1 b2
    obtain ⟨n0, e0, _, _⟩ := DataW.trod_int Try.underlying3 b0
    obtain ⟨n1, e1, _, _⟩ := DataW.trod_int Try.underlying3 b1
    obtain ⟨a, len, cap, L, e2, hL, hno⟩ := words_of_trod b2
    simp at e0 e1
    exact ⟨⟨n0, n1, a, len, cap, L⟩, e0, e1, e2, hL, hno⟩

theorem maps_of_trod {H : Type} {enc : TypeId × Value → H} {W : World} {v : Value} {x : DataW H × List MemPlace} {n : Nat}
    (hf : DataW.trod enc Try.prog W 0 (fun _ => true) true n 22 [v] = some x) :
    ∃ a len cap M, v = .slice a len cap ∧ IsBms W a len cap M := by
  rcases Deep.open_slice Try.underlying22 hf with ⟨hcs, _⟩ | ⟨x, len0, cap0, m, n, D, Pl, hcs, _, hl, hm, hmm, _, hx⟩
  · simp at hcs
    exact ⟨_, _, _, fun _ => ⟨0, 0, none, 0, 0, fun _ => 0⟩, hcs, Or.inl rfl⟩
  · simp at hcs
    have hm2 : len0 ≤ m := by rw [hmm]; simp; exact hl
    have k48 : Try.prog.cellsOf 48 = 3 := by kernel_rfl
    have each : ∀ i, i < len0 → ∃ q : Bmp, W.cell? (x.add (i * 3)) = some (.int .i64 q.W) ∧ W.cell? (x.add (i * 3 + 1)) = some (.int .i64 q.H) ∧ W.cell? (x.add (i * 3 + 2)) = some (.slice q.a q.n q.cap) ∧ IsWords W q.a q.n q.cap q.B ∧ (q.a = none → q.n = 0 ∧ q.cap = 0) := by
      intro i hi
      obtain ⟨cs', h1, h2⟩ := hx i (by omega)
      rw [k48] at h1
      obtain ⟨_, hlen, hcell⟩ := World.cells?_some h1
      match cs', hlen with
      | [v0, v1, v2], _ =>
        obtain ⟨q, e0, e1, e2, hq, hno⟩ := map_of_cells h2
        have g0 := hcell 0 (by omega)
        have g1 := hcell 1 (by omega)
        have g2 := hcell 2 (by omega)
        rw [Deep.add_add] at g0 g1 g2
        exact ⟨q, by simpa [e0] using g0, by simpa [e1] using g1, by simpa [e2] using g2, hq, hno⟩
    obtain ⟨q, hq⟩ := Deep.choose_lt each
    by_cases h0 : len0 = 0
    · exact ⟨_, _, _, q, hcs, Or.inl h0⟩
    · obtain ⟨b, off, spot⟩ := x
      have hs : spot = none := by
        have := (hq 0 (by omega)).1
        simpa [Addr.add] using World.cell?_spot this
      subst hs
      refine ⟨_, _, _, q, hcs, Or.inr ⟨b, off, rfl, hl, by unfold maxLen at hm; exact hm, ?_, ?_⟩⟩
      · have := (hq 0 (by omega)).1
        rw [add_plain] at this
        exact World.block_lt_of_cell? W _ this
      · intro i hi
        obtain ⟨t0, t1, t2, t3, t4⟩ := hq i hi
        rw [add_plain] at t0 t1 t2
        exact ⟨t0, t1, t2, t3⟩
theorem maps_of_arg {H : Type} {enc : TypeId × Value → H} {W : World} {v : Value} {d : DataW H} {p : List MemPlace}
    (hv : Value.okWide Try.prog W .any 0 22 v) (h : DataW.Trod enc Try.prog W 0 (fun _ => true) true 22 v d p) :
    ∃ a len cap M, v = .slice a len cap ∧ IsBms W a len cap M := by
  obtain ⟨a0, len0, cap0, rfl⟩ := okWide_slice Try.underlying22 hv
  obtain ⟨fuel, hf⟩ := h
  obtain ⟨a, len, cap, M, e, hM⟩ := maps_of_trod (v := .slice a0 len0 cap0) (by simpa [Value.cells] using hf)
  exact ⟨a, len, cap, M, e, hM⟩
theorem IsBms.len {w : World} {a : Option Addr} {n cap : Nat} {F : Nat → Bmp} (h : IsBms w a n cap F) : n ≤ 9223372036854775807 := by
  rcases h with h | ⟨b, off, h1, h2, h3, h4, h5⟩ <;> omega
theorem ask_of_arg {H : Type} {enc : TypeId × Value → H} {W : World} {v : Value} {d : DataW H} {p : List MemPlace}
    (hv : Value.okWide Try.prog W .any 0 25 v) (h : DataW.Trod enc Try.prog W 0 (fun _ => true) true 25 v d p) :
    ∃ a len cap M t, v = .agg #[.slice a len cap, .int .u64 ((t : Nat) : Int)] ∧ IsBms W a len cap M ∧ t < 2 ^ 64 := by
  obtain ⟨cs, rfl, hsz⟩ := okWide_struct Try.underlying25 hv
  obtain ⟨fuel, hf⟩ := h
  have hsz1 : cs.size = 2 := hsz.trans (by kernel_rfl)
  obtain ⟨l⟩ := cs
  match l, hsz1 with
  | [c0, c1], _ =>
    obtain ⟨xs, n, hd, _, _, hxl, hfld⟩ := DataW.trod_struct Try.underlying25 hf
    match xs, hxl with
    | [y0, y1], _ =>
      have k22 : Try.prog.cellsOf 22 = 1 := by kernel_rfl
      have k23 : Try.prog.cellsOf 23 = 1 := by kernel_rfl
      have g0 := hfld 0 _ rfl
      have g1 := hfld 1 _ rfl
      simp [Value.cells, k22, k23] at g0 g1
      obtain ⟨n1, e1, _, w1⟩ := DataW.trod_int Try.underlying23 g1
      simp at e1
      subst e1
      obtain ⟨a, len, cap, M, e0, hM⟩ := maps_of_trod g0
      subst e0
      have hw : 0 ≤ n1 ∧ n1 < 18446744073709551616 := by
        simp [Lit.wf, IntKind.min, IntKind.max, IntKind.bits, IntKind.signed] at w1
        omega
      refine ⟨a, len, cap, M, n1.toNat, ?_, hM, by omega⟩
      rw [Int.toNat_of_nonneg hw.1]
end Go.Proofs.Ytfniekdohidbiaa
