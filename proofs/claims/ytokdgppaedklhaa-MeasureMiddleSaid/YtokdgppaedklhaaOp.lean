/- The arguments of the laws of chapter 11, opened: lists of pairs, lists of words, structs of such lists. No condition. -/
import Derived.Test.YtokdgppaedklhaaW5
import Derived.ProofKit
import Derived.Deep.SlicePairs
import Derived.OpenShut
import Derived.ChangeOld
import Derived.Lib.SmallJoins
namespace Go.Proofs.Ytokdgppaedklhaa
open Go.ChangeShapes Go.WideShapes Go.ChangeAt Go.RowKit Fl Go.FlW

theorem own : ownKnob Try.prog.godebug = none := by kernel_rfl
theorem laidOut : laidOutB Try.prog = true := by kernel_rfl

/-- a slice of pairs that came in -/
def IsPairs (w : World) (a : Option Addr) (len cap : Nat) (N M : Nat → Int) : Prop :=
  len = 0 ∨ ∃ b off, a = some ⟨b, off, none⟩ ∧ len ≤ cap ∧ cap ≤ 9223372036854775807 ∧ b < w.heap.size ∧
    ∀ i, i < len → (w.cell? ⟨b, off + i * 2, none⟩ = some (.int .i64 (N i)) ∧ w.cell? ⟨b, off + i * 2 + 1, none⟩ = some (.int .i64 (M i)) ∧ Lit.wf (.int .i64 (N i)) = true ∧ Lit.wf (.int .i64 (M i)) = true)

theorem share_any11 (n d : Int) (w : World) : Calls Try.prog 11 #[.int .i64 n, .int .i64 d] w fun e w' => ∃ r c, e = .returned (.tuple #[.float .f64 r, .int .i64 c]) ∧ ((InR n ∧ InR d ∧ Res (D.div (fi n) (fi d)) r ∧ c = 0) ∨ (¬ (InR n ∧ InR d) ∧ r = 0 ∧ c = 100)) ∧ ∃ k, w.drewN k = w' := by
  by_cases h : InR n ∧ InR d
  · exact (share11_in n d w h.1 h.2).mono fun e w' ⟨r, he, hr, hw⟩ => ⟨r, 0, he, Or.inl ⟨h.1, h.2, hr, rfl⟩, hw⟩
  · exact (share11_out n d w h).mono fun e w' ⟨he, hw⟩ => ⟨0, 100, he, Or.inr ⟨h, rfl, rfl⟩, 0, hw⟩
theorem share_any12 (n d : Int) (w : World) : Calls Try.prog 12 #[.int .i64 n, .int .i64 d] w fun e w' => ∃ r c, e = .returned (.tuple #[.float .f64 r, .int .i64 c]) ∧ ((InR n ∧ InR d ∧ Res (D.div (fi n) (fi d)) r ∧ c = 0) ∨ (¬ (InR n ∧ InR d) ∧ r = 0 ∧ c = 100)) ∧ ∃ k, w.drewN k = w' := by
  by_cases h : InR n ∧ InR d
  · exact (share12_in n d w h.1 h.2).mono fun e w' ⟨r, he, hr, hw⟩ => ⟨r, 0, he, Or.inl ⟨h.1, h.2, hr, rfl⟩, hw⟩
  · exact (share12_out n d w h).mono fun e w' ⟨he, hw⟩ => ⟨0, 100, he, Or.inr ⟨h, rfl, rfl⟩, 0, hw⟩

/-- what a Share of either kind hands back -/
def ShOk (n d : Int) (r : Nat) (c : Int) : Prop := (InR n ∧ InR d ∧ Res (D.div (fi n) (fi d)) r ∧ c = 0) ∨ (¬ (InR n ∧ InR d) ∧ r = 0 ∧ c = 100)

theorem ShOk.agree {n d : Int} {r s : Nat} {c e : Int} (h : ShOk n d r c) (g : ShOk n d s e) : c = e ∧ same r s = true ∧ r < 2 ^ 64 ∧ s < 2 ^ 64 := by
  rcases h with ⟨h1, h2, h3, h4⟩ | ⟨h1, h2, h3⟩
  · rcases g with ⟨_, _, g3, g4⟩ | ⟨g1, _, _⟩
    · exact ⟨by rw [h4, g4], Res_same h3 g3, Res_lt h3 (fun _ h => div_lt h), Res_lt g3 (fun _ h => div_lt h)⟩
    · exact absurd ⟨h1, h2⟩ g1
  · rcases g with ⟨g1, g2, _, _⟩ | ⟨_, g2, g3⟩
    · exact absurd ⟨g1, g2⟩ h1
    · exact ⟨by rw [h3, g3], by rw [h2, g2]; exact same_self, by rw [h2]; decide, by rw [g2]; decide⟩

/-- a slice of pairs that came in, opened -/
theorem pairs_of_arg {H : Type} {enc : TypeId × Value → H} {W : World} {v : Value} {d : DataW H} {p : List MemPlace}
    (hv : Value.okWide Try.prog W .any 0 22 v) (h : DataW.Trod enc Try.prog W 0 (fun _ => true) true 22 v d p) :
    ∃ a len cap N M, v = .slice a len cap ∧ IsPairs W a len cap N M := by
  obtain ⟨a0, len0, cap0, rfl⟩ := okWide_slice Try.underlying22 hv
  obtain ⟨fuel, hf⟩ := h
  rcases Deep.open_slice_pairs Try.underlying22 Try.underlying28 (by kernel_rfl) rfl rfl (by kernel_rfl) (by kernel_rfl) hf with ⟨hcs, _⟩ | ⟨x, l, c, m, n, V0, V1, D0, D1, P0, P1, hcs, _, hl, hm, hmm, _, hcell⟩
  · simp [Value.cells] at hcs
    obtain ⟨rfl, rfl, rfl⟩ := hcs
    exact ⟨_, _, _, fun _ => 0, fun _ => 0, rfl, Or.inl rfl⟩
  · simp [Value.cells] at hcs
    obtain ⟨rfl, rfl, rfl⟩ := hcs
    have hm2 : len0 ≤ m := by rw [hmm]; simp; exact hl
    have each : ∀ i, i < len0 → ∃ q : Int × Int, W.cell? (x.add (i * 2)) = some (.int .i64 q.1) ∧ W.cell? (x.add (i * 2 + 1)) = some (.int .i64 q.2) ∧ Lit.wf (.int .i64 q.1) = true ∧ Lit.wf (.int .i64 q.2) = true := by
      intro i hi
      obtain ⟨c0, c1, t0, t1⟩ := hcell i (by omega)
      obtain ⟨n0, e0, _, w0⟩ := DataW.trod_int Try.underlying3 t0
      obtain ⟨n1, e1, _, w1⟩ := DataW.trod_int Try.underlying3 t1
      simp at e0 e1
      exact ⟨(n0, n1), by rw [c0, e0], by rw [c1, e1], w0, w1⟩
    obtain ⟨q, hq⟩ := Deep.choose_lt each
    by_cases h0 : len0 = 0
    · exact ⟨_, _, _, fun _ => 0, fun _ => 0, rfl, Or.inl h0⟩
    · obtain ⟨b, off, spot⟩ := x
      have hs : spot = none := by
        have := (hq 0 (by omega)).1
        simpa [Addr.add] using World.cell?_spot this
      subst hs
      refine ⟨_, _, _, fun i => (q i).1, fun i => (q i).2, rfl, Or.inr ⟨b, off, rfl, hl, by unfold maxLen at hm; exact hm, ?_, ?_⟩⟩
      · have := (hq 0 (by omega)).1
        rw [add_plain] at this
        exact World.block_lt_of_cell? W _ this
      · intro i hi
        have := hq i hi
        rw [add_plain, add_plain] at this
        exact this

/-- a slice of words that came in -/
def IsWords (w : World) (a : Option Addr) (len cap : Nat) (L : Nat → Nat) : Prop :=
  len = 0 ∨ ∃ b off, a = some ⟨b, off, none⟩ ∧ len ≤ cap ∧ cap ≤ 9223372036854775807 ∧ b < w.heap.size ∧
    ∀ i, i < len → (w.cell? ⟨b, off + i, none⟩ = some (.int .u64 (L i : Nat)) ∧ L i < 2 ^ 64)

theorem float_nat (b : Nat) (w : World) : Calls Try.prog 17 #[.int .u64 b] w fun e w' => e = .returned (.float .f64 b) ∧ w = w' := float_any b w

theorem fits20_of {x : Nat} {b : Bool} (w : World) (h : tolOk x = b) : Calls Try.prog 20 #[.float .f64 x] w fun e w' => e = .returned (.bool b) ∧ w = w' :=
  (fits20 x w).mono fun e w' ⟨he, hw⟩ => ⟨by rw [he, h], hw⟩
theorem same13_self (x : Nat) (w : World) (hx : x < 2 ^ 64) : Calls Try.prog 13 #[.float .f64 x, .float .f64 x] w (BoolN true w) :=
  (same13 x x w hx hx).mono fun e w' ⟨he, hw⟩ => ⟨by rw [he, same_self], hw⟩


/-- a slice of words, opened -/
theorem words_of_trod {H : Type} {enc : TypeId × Value → H} {W : World} {v : Value} {x : DataW H × List MemPlace} {n : Nat}
    (h : DataW.trod enc Try.prog W 0 (fun _ => true) true n 33 [v] = some x) : ∃ a len cap L, v = .slice a len cap ∧ IsWords W a len cap L := by
  rcases open_ints Try.underlying33 Try.underlying38 (by kernel_rfl) h with ⟨hcs, _⟩ | ⟨x, l, c, zs, hcs, _, hl, hm, hz, _, hcell, hwz⟩
  · simp at hcs
    exact ⟨_, _, _, fun _ => 0, hcs, Or.inl rfl⟩
  · simp at hcs
    simp at hz
    refine ⟨_, _, _, fun i => (zs.getD i 0).toNat, hcs, ?_⟩
    by_cases h0 : l = 0
    · exact Or.inl h0
    · right
      obtain ⟨b, off, spot⟩ := x
      have hs : spot = none := by
        have := hcell 0 (by omega)
        simpa [Addr.add] using World.cell?_spot this
      subst hs
      refine ⟨b, off, rfl, hl, by unfold maxLen at hm; exact hm, ?_, ?_⟩
      · have := hcell 0 (by omega)
        rw [add_plain] at this
        exact World.block_lt_of_cell? W _ this
      · intro i hi
        have h1 := hcell i (by omega)
        rw [add_plain] at h1
        have h2 := hwz (zs.getD i 0) (by rw [List.getD_eq_getElem?_getD, List.getElem?_eq_getElem (by omega)]; simp)
        have h3 : 0 ≤ zs.getD i 0 ∧ zs.getD i 0 < 18446744073709551616 := by
          generalize zs.getD i 0 = z at *
          simp [Lit.wf, IntKind.min, IntKind.max, IntKind.bits, IntKind.signed] at h2
          omega
        refine ⟨?_, by dsimp only; omega⟩
        rw [h1]
        congr 2
        dsimp only
        omega

/-- a struct of one list of words -/
theorem floats_of_arg {H : Type} {enc : TypeId × Value → H} {W : World} {v : Value} {d : DataW H} {p : List MemPlace}
    (hv : Value.okWide Try.prog W .any 0 35 v) (h : DataW.Trod enc Try.prog W 0 (fun _ => true) true 35 v d p) :
    ∃ a len cap L, v = .agg #[.slice a len cap] ∧ IsWords W a len cap L := by
  obtain ⟨cs, rfl, hsz⟩ := okWide_struct Try.underlying35 hv
  obtain ⟨fuel, hf⟩ := h
  have hsz1 : cs.size = 1 := hsz.trans (by kernel_rfl)
  obtain ⟨l⟩ := cs
  match l, hsz1 with
  | [c0], _ =>
    obtain ⟨xs, n, _, _, _, hxl, hfld⟩ := DataW.trod_struct Try.underlying35 hf
    match xs, hxl with
    | [y0], _ =>
      have g0 := hfld 0 _ rfl
      have hc : Try.prog.cellsOf 33 = 1 := by kernel_rfl
      simp [Value.cells, hc] at g0
      obtain ⟨a, len, cap, L, rfl, hL⟩ := words_of_trod g0
      exact ⟨a, len, cap, L, rfl, hL⟩

/-- a struct of two lists of words -/
theorem sorted_of_arg {H : Type} {enc : TypeId × Value → H} {W : World} {v : Value} {d : DataW H} {p : List MemPlace}
    (hv : Value.okWide Try.prog W .any 0 46 v) (h : DataW.Trod enc Try.prog W 0 (fun _ => true) true 46 v d p) :
    ∃ a len cap L a' len' cap' L', v = .agg #[.slice a len cap, .slice a' len' cap'] ∧ IsWords W a len cap L ∧ IsWords W a' len' cap' L' := by
  obtain ⟨c0, c1, y0, y1, m, rfl, _, _, t0, t1⟩ := Joins.open_agg2 Try.underlying46 (by kernel_rfl) (by kernel_rfl) hv h
  obtain ⟨a, len, cap, L, rfl, hL⟩ := words_of_trod t0
  obtain ⟨a', len', cap', L', rfl, hL'⟩ := words_of_trod t1
  exact ⟨a, len, cap, L, a', len', cap', L', rfl, hL, hL'⟩
end Go.Proofs.Ytokdgppaedklhaa
