/- What the reach says of an Ask: no bitmap of its list has more than 2^50 words. No condition. -/
import Derived.Test.YtfniekdohidbiaaOa
import Derived.SizedLaws
namespace Go.Proofs.Ytfniekdohidbiaa
open Go.ChangeShapes Go.WideShapes Go.ChangeAt Go.RowKit Go.Bm

theorem bytes23 : Try.prog.bytesOf 23 = 8 := by kernel_rfl
theorem weights_mem_all {H : Type} {P : Program} {e : TypeId} : ∀ {ds : List (DataW H)} {d : DataW H}, d ∈ ds → ∀ n ∈ d.weights P e, n ∈ DataW.weightsAll P e ds
  | d0 :: ds, d, hd, n, hn => by
    simp only [DataW.weightsAll, List.mem_append]
    rcases List.mem_cons.1 hd with rfl | hd
    · exact Or.inl hn
    · exact Or.inr (weights_mem_all hd n hn)
  | [], _, hd, _, _ => by cases hd
theorem words_small {H : Type} {enc : TypeId × Value → H} {W : World} {a : Option Addr} {len cap : Nat} {x : DataW H × List MemPlace} {n : Nat}
    (h : DataW.trod enc Try.prog W 0 (fun _ => true) true n 46 [.slice a len cap] = some x) (hw : ∀ k ∈ x.1.weights Try.prog 46, k ≤ reachBytes) : len ≤ 1125899906842624 := by
  rcases open_ints Try.underlying46 Try.underlying23 (by kernel_rfl) h with ⟨hcs, _⟩ | ⟨x', l, c, zs, hcs, _, hl, hm, hz, rfl, _, _⟩
  · simp at hcs
    omega
  · simp at hcs hz
    obtain ⟨rfl, rfl, rfl⟩ := hcs
    have h1 := hw (((lits (H := H) .u64 (zs.take len)).length + (lits (H := H) .u64 (zs.drop len)).length) * Try.prog.bytesOf 23) (by simp [DataW.weights, Try.underlying46])
    rw [bytes23] at h1
    have h2 := reachBytes_lt
    simp [lits] at h1
    omega
theorem map_small {H : Type} {enc : TypeId × Value → H} {W : World} {v0 v1 : Value} {a : Option Addr} {len cap : Nat} {x : DataW H × List MemPlace} {n : Nat}
    (h : DataW.trod enc Try.prog W 0 (fun _ => true) true n 48 [v0, v1, .slice a len cap] = some x) (hw : ∀ k ∈ x.1.weights Try.prog 48, k ≤ reachBytes) : len ≤ 1125899906842624 := by
  obtain ⟨zs, m, _, rfl, _, hzl, hfz⟩ := DataW.trod_struct Try.underlying48 h
  match zs, hzl with
  | [z0, z1, z2], _ =>
    have k46 : Try.prog.cellsOf 46 = 1 := by kernel_rfl
    have b2 := hfz 2 _ rfl
    simp [k46] at b2
    refine words_small b2 fun k hk => hw k ?_
    simp only [DataW.weights, Try.underlying48]
    refine DataW.weights_mem_each (j := 2) (t := 46) (d := z2.1) rfl rfl k hk
theorem maps_small {H : Type} {enc : TypeId × Value → H} {W : World} {a : Option Addr} {len cap : Nat} {M : Nat → Bmp} {x : DataW H × List MemPlace} {n : Nat}
    (hM : IsBms W a len cap M) (hf : DataW.trod enc Try.prog W 0 (fun _ => true) true n 22 [.slice a len cap] = some x) (hw : ∀ k ∈ x.1.weights Try.prog 22, k ≤ reachBytes) :
    ∀ i, i < len → (M i).n ≤ 1125899906842624 := by
  intro i hi
  rcases hM with h0 | ⟨b, off, rfl, hlc, hcm, hb, hcell⟩
  · omega
  rcases Deep.open_slice Try.underlying22 hf with ⟨hcs, _⟩ | ⟨x', len0, cap0, m, n', D, Pl, hcs, _, hl, hm, hmm, rfl, hx⟩
  · simp at hcs
  · simp at hcs
    obtain ⟨rfl, rfl, rfl⟩ := hcs
    have hm2 : len ≤ m := by rw [hmm]; simp; exact hl
    have k48 : Try.prog.cellsOf 48 = 3 := by kernel_rfl
    obtain ⟨cs', h1, h2⟩ := hx i (by omega)
    rw [k48] at h1
    obtain ⟨_, hlen, hcl⟩ := World.cells?_some h1
    match cs', hlen with
    | [v0, v1, v2], _ =>
      have g2 := hcl 2 (by omega)
      obtain ⟨_, _, t2, _⟩ := hcell i hi
      rw [Deep.add_add, add_plain] at g2
      have e2 : v2 = .slice (M i).a (M i).n (M i).cap := by
        have : off + (i * 3 + 2) = off + i * 3 + 2 := by omega
        simp only [← Nat.add_assoc] at g2 t2
        rw [t2] at g2
        simpa using g2.symm
      subst e2
      refine map_small h2 fun k hk => hw k ?_
      simp only [DataW.weights, Try.underlying22, List.mem_cons, List.mem_append]
      exact Or.inr (Or.inl (weights_mem_all (List.mem_map.2 ⟨i, by simpa using hi, rfl⟩) k hk))
theorem ask_small {H : Type} {enc : TypeId × Value → H} {W : World} {a : Option Addr} {len cap : Nat} {M : Nat → Bmp} {c : Value} {d : DataW H} {p : List MemPlace}
    (h : DataW.Trod enc Try.prog W 0 (fun _ => true) true 25 (.agg #[.slice a len cap, c]) d p) (hM : IsBms W a len cap M)
    (hw : ∀ k ∈ d.weights Try.prog 25, k ≤ reachBytes) : ∀ i, i < len → (M i).n ≤ 1125899906842624 := by
  obtain ⟨fuel, hf⟩ := h
  obtain ⟨xs, n, hd, hx, _, hxl, hfld⟩ := DataW.trod_struct Try.underlying25 hf
  simp only [Prod.mk.injEq] at hx
  obtain ⟨rfl, _⟩ := hx
  match xs, hxl with
  | [y0, y1], _ =>
    have k22 : Try.prog.cellsOf 22 = 1 := by kernel_rfl
    have g0 := hfld 0 _ rfl
    simp [Value.cells, k22] at g0
    refine maps_small hM g0 fun k hk => hw k ?_
    simp only [DataW.weights, Try.underlying25]
    exact DataW.weights_mem_each (j := 0) (t := 22) (d := y0.1) rfl rfl k hk
end Go.Proofs.Ytfniekdohidbiaa
