/- A list of bitmaps, a list of bytes' slices, a bitmap, a bitmap with numbers that came in, opened. No condition but the bounds that each theorem names. -/
import Derived.Test.YtgpjpmadbepblaaDoorSu
import Derived.ProofKit
import Derived.Deep.Slices
import Derived.OpenShut
import Derived.ChangeOld
namespace Go.Proofs.YtgpjpmadbepblaaDoor
open Go.ChangeShapes Go.WideShapes Go.ChangeAt Go.RowKit Go.Bm Go.Pbm

theorem own : ownKnob Tryd.prog.godebug = none := by kernel_rfl
theorem laidOut : laidOutB Tryd.prog = true := by kernel_rfl
theorem add_plain (b off i : Nat) : (⟨b, off, none⟩ : Addr).add i = ⟨b, off + i, none⟩ := by unfold Addr.add; split <;> simp_all

/-- a bitmap's parts -/
structure BM where
  w : Int
  h : Int
  a : Option Addr
  n : Nat
  c : Nat
  L : Nat → Nat
instance : Inhabited BM := ⟨⟨0, 0, none, 0, 0, fun _ => 0⟩⟩
def BM.val (m : BM) : Value := .agg #[.int .i64 m.w, .int .i64 m.h, .slice m.a m.n m.c]
/-- a bitmap in three cells -/
structure MapAt (W : World) (b o : Nat) (m : BM) : Prop where
  e0 : W.cell? ⟨b, o, none⟩ = some (.int .i64 m.w)
  e1 : W.cell? ⟨b, o + 1, none⟩ = some (.int .i64 m.h)
  e2 : W.cell? ⟨b, o + 2, none⟩ = some (.slice m.a m.n m.c)
  k : IsWords W m.a m.n m.c m.L
  no : m.a = none → m.n = 0 ∧ m.c = 0
theorem MapAt.below {W W' : World} {b o : Nat} {m : BM} (h : MapAt W b o m) (hb : Below W.heap.size W W') : MapAt W' b o m :=
  have l : b < W.heap.size := World.block_lt_of_cell? W _ h.e0
  ⟨(hb.cell (p := ⟨b, o, none⟩) l).trans h.e0, (hb.cell (p := ⟨b, o + 1, none⟩) l).trans h.e1, (hb.cell (p := ⟨b, o + 2, none⟩) l).trans h.e2, h.k.below hb, h.no⟩
/-- a list of bitmaps -/
def IsMaps (W : World) (a : Option Addr) (len cap : Nat) (M : Nat → BM) : Prop :=
  len = 0 ∨ ∃ b off, a = some ⟨b, off, none⟩ ∧ len ≤ cap ∧ cap ≤ 9223372036854775807 ∧ ∀ i, i < len → MapAt W b (off + i * 3) (M i)

/-- a slice of words, opened -/
theorem words_of_trod {H : Type} {enc : TypeId × Value → H} {W : World} {v : Value} {x : DataW H × List MemPlace} {n : Nat}
    (h : DataW.trod enc Tryd.prog W 0 (fun _ => true) true n 23 [v] = some x) : ∃ a len cap L, v = .slice a len cap ∧ IsWords W a len cap L ∧ (a = none → len = 0 ∧ cap = 0) := by
  rcases open_ints Tryd.underlying23 Tryd.underlying50 (by kernel_rfl) h with ⟨hcs, _⟩ | ⟨x, l, c, zs, hcs, _, hl, hm, hz, _, hcell, hwz⟩
  · simp at hcs
    exact ⟨_, _, _, fun _ => 0, hcs, Or.inl rfl, fun _ => ⟨rfl, rfl⟩⟩
  · simp at hcs
    simp at hz
    refine ⟨_, _, _, fun i => (zs.getD i 0).toNat, hcs, ?_, fun h => by cases h⟩
    by_cases h0 : l = 0
    · exact Or.inl h0
    · right
      obtain ⟨b, off, spot⟩ := x
      have hs : spot = none := by
        have := hcell 0 (by omega)
        simpa [Addr.add] using World.cell?_spot this
      subst hs
      refine ⟨b, off, rfl, hl, by unfold maxLen at hm; exact hm, ?_, ?_⟩
      · have := hcell 0 (by omega)
        rw [add_plain] at this
        exact World.block_lt_of_cell? W _ this
      · intro i hi
        have h1 := hcell i (by omega)
        rw [add_plain] at h1
        have h2 := hwz (zs.getD i 0) (by rw [List.getD_eq_getElem?_getD, List.getElem?_eq_getElem (by omega)]; simp)
        have h3 : 0 ≤ zs.getD i 0 ∧ zs.getD i 0 < 18446744073709551616 := by
          generalize zs.getD i 0 = z at *
          simp [Lit.wf, IntKind.min, IntKind.max, IntKind.bits, IntKind.signed] at h2
          omega
        refine ⟨?_, by dsimp only; omega⟩
        rw [h1]
        congr 2
        dsimp only
        omega

/-- a bitmap out of its three cells' reading -/
theorem map_of_cells {H : Type} {enc : TypeId × Value → H} {W : World} {v0 v1 v2 : Value} {x : DataW H × List MemPlace} {n : Nat}
    (h : DataW.trod enc Tryd.prog W 0 (fun _ => true) true n 25 [v0, v1, v2] = some x) : ∃ m : BM, v0 = .int .i64 m.w ∧ v1 = .int .i64 m.h ∧ v2 = .slice m.a m.n m.c ∧ IsWords W m.a m.n m.c m.L ∧ (m.a = none → m.n = 0 ∧ m.c = 0) := by
  obtain ⟨zs, m, _, _, _, hzl, hfz⟩ := DataW.trod_struct Tryd.underlying25 h
  match zs, hzl with
  | [z0, z1, z2], _ =>
    have k3 : Tryd.prog.cellsOf 3 = 1 := by kernel_rfl
    have k23 : Tryd.prog.cellsOf 23 = 1 := by kernel_rfl
    have b0 := hfz 0 _ rfl
    have b1 := hfz 1 _ rfl
    have b2 := hfz 2 _ rfl
    simp [k3, k23] at b0 b1 b2
    obtain ⟨n0, e0, _, _⟩ := DataW.trod_int Tryd.underlying3 b0
    obtain ⟨n1, e1, _, _⟩ := DataW.trod_int Tryd.underlying3 b1
    obtain ⟨a, len, cap, L, e2, hL, hno⟩ := words_of_trod b2
    simp at e0 e1
    exact ⟨⟨n0, n1, a, len, cap, L⟩, e0, e1, e2, hL, hno⟩

theorem maps_of_arg {H : Type} {enc : TypeId × Value → H} {W : World} {v : Value} {d : DataW H} {p : List MemPlace}
    (hv : Value.okWide Tryd.prog W .any 0 22 v) (h : DataW.Trod enc Tryd.prog W 0 (fun _ => true) true 22 v d p) :
    ∃ a len cap M, v = .slice a len cap ∧ IsMaps W a len cap M := by
  obtain ⟨a0, len0, cap0, rfl⟩ := okWide_slice Tryd.underlying22 hv
  obtain ⟨fuel, hf⟩ := h
  rcases Deep.open_slice Tryd.underlying22 hf with ⟨hcs, _⟩ | ⟨x, l, c, m, n, D, Pl, hcs, _, hl, hm, hmm, _, hx⟩
  · simp [Value.cells] at hcs
    obtain ⟨rfl, rfl, rfl⟩ := hcs
    exact ⟨_, _, _, fun _ => ⟨0, 0, none, 0, 0, fun _ => 0⟩, rfl, Or.inl rfl⟩
  · simp [Value.cells] at hcs
    obtain ⟨rfl, rfl, rfl⟩ := hcs
    have hm2 : len0 ≤ m := by rw [hmm]; simp; exact hl
    have k25 : Tryd.prog.cellsOf 25 = 3 := by kernel_rfl
    have each : ∀ i, i < len0 → ∃ q : BM, W.cell? (x.add (i * 3)) = some (.int .i64 q.w) ∧ W.cell? (x.add (i * 3 + 1)) = some (.int .i64 q.h) ∧ W.cell? (x.add (i * 3 + 2)) = some (.slice q.a q.n q.c) ∧ IsWords W q.a q.n q.c q.L ∧ (q.a = none → q.n = 0 ∧ q.c = 0) := by
      intro i hi
      obtain ⟨cs', h1, h2⟩ := hx i (by omega)
      rw [k25] at h1
      obtain ⟨_, hlen, hcell⟩ := World.cells?_some h1
      match cs', hlen with
      | [v0, v1, v2], _ =>
        obtain ⟨q, e0, e1, e2, hq, hno⟩ := map_of_cells h2
        have g0 := hcell 0 (by omega)
        have g1 := hcell 1 (by omega)
        have g2 := hcell 2 (by omega)
        rw [Deep.add_add] at g0 g1 g2
        exact ⟨q, by simpa [e0] using g0, by simpa [e1] using g1, by simpa [e2] using g2, hq, hno⟩
    obtain ⟨q, hq⟩ := Deep.choose_lt each
    by_cases h0 : len0 = 0
    · exact ⟨_, _, _, q, rfl, Or.inl h0⟩
    · obtain ⟨b, off, spot⟩ := x
      have hs : spot = none := by
        have := (hq 0 (by omega)).1
        simpa [Addr.add] using World.cell?_spot this
      subst hs
      refine ⟨_, _, _, q, rfl, Or.inr ⟨b, off, rfl, hl, by unfold maxLen at hm; exact hm, ?_⟩⟩
      intro i hi
      obtain ⟨t0, t1, t2, t3, t4⟩ := hq i hi
      rw [add_plain] at t0 t1 t2
      exact ⟨t0, t1, t2, t3, t4⟩

/-- a slice of bytes, opened -/
theorem bytes_of_trod {H : Type} {enc : TypeId × Value → H} {W : World} {v : Value} {x : DataW H × List MemPlace} {n : Nat}
    (h : DataW.trod enc Tryd.prog W 0 (fun _ => true) true n 27 [v] = some x) : ∃ (a : Option Addr) (cap : Nat) (l : List UInt8), v = .slice a l.length cap ∧ IsBytes W a cap l ∧ (a = none → l.length = 0 ∧ cap = 0) := by
  rcases open_ints Tryd.underlying27 Tryd.underlying5 (by kernel_rfl) h with ⟨hcs, _⟩ | ⟨x, l, c, zs, hcs, _, hl, hm, hz, _, hcell, hwz⟩
  · simp at hcs
    exact ⟨_, _, [], hcs, Or.inl rfl, fun _ => ⟨rfl, rfl⟩⟩
  · simp at hcs
    simp at hz
    have hll : ((List.range l).map fun i => UInt8.ofNat (zs.getD i 0).toNat).length = l := by simp
    refine ⟨some x, c, (List.range l).map fun i => UInt8.ofNat (zs.getD i 0).toNat, by rw [hll]; exact hcs, ?_, fun h => by cases h⟩
    by_cases h0 : l = 0
    · subst h0; exact Or.inl rfl
    · right
      obtain ⟨b, off, spot⟩ := x
      have hs : spot = none := by
        have := hcell 0 (by omega)
        simpa [Addr.add] using World.cell?_spot this
      subst hs
      refine ⟨b, off, rfl, by rw [hll]; exact hl, by unfold maxLen at hm; exact hm, ?_, ?_⟩
      · have := hcell 0 (by omega)
        rw [add_plain] at this
        exact World.block_lt_of_cell? W _ this
      · intro i u hu
        have hi : i < l := by have := (List.getElem?_eq_some_iff.1 hu).1; rwa [hll] at this
        have h1 := hcell i (by omega)
        rw [add_plain] at h1
        have h2 := hwz (zs.getD i 0) (by rw [List.getD_eq_getElem?_getD, List.getElem?_eq_getElem (by omega)]; simp)
        have h3 : 0 ≤ zs.getD i 0 ∧ zs.getD i 0 < 256 := by
          generalize zs.getD i 0 = z at *
          simp [Lit.wf, IntKind.min, IntKind.max, IntKind.bits, IntKind.signed] at h2
          omega
        rw [List.getElem?_map, List.getElem?_range hi] at hu
        have hu2 : u = UInt8.ofNat (zs.getD i 0).toNat := (Option.some.inj hu).symm
        rw [h1, hu2]
        congr 2
        rw [UInt8.toNat_ofNat_of_lt' (by show _ < 256; omega)]
        omega

/-- a slice of bytes, its parts -/
structure BL where
  a : Option Addr
  c : Nat
  l : List UInt8
instance : Inhabited BL := ⟨⟨none, 0, []⟩⟩
/-- a slice of bytes in a cell -/
structure BytesAt (W : World) (b o : Nat) (m : BL) : Prop where
  e : W.cell? ⟨b, o, none⟩ = some (.slice m.a m.l.length m.c)
  k : IsBytes W m.a m.c m.l
  no : m.a = none → m.l.length = 0 ∧ m.c = 0
theorem BytesAt.below {W W' : World} {b o : Nat} {m : BL} (h : BytesAt W b o m) (hb : Below W.heap.size W W') : BytesAt W' b o m :=
  ⟨(hb.cell (p := ⟨b, o, none⟩) (World.block_lt_of_cell? W _ h.e)).trans h.e, h.k.below hb, h.no⟩
/-- a list of slices of bytes -/
def IsLists (W : World) (a : Option Addr) (len cap : Nat) (M : Nat → BL) : Prop :=
  len = 0 ∨ ∃ b off, a = some ⟨b, off, none⟩ ∧ len ≤ cap ∧ cap ≤ 9223372036854775807 ∧ ∀ i, i < len → BytesAt W b (off + i) (M i)
theorem lists_of_arg {H : Type} {enc : TypeId × Value → H} {W : World} {v : Value} {d : DataW H} {p : List MemPlace}
    (hv : Value.okWide Tryd.prog W .any 0 35 v) (h : DataW.Trod enc Tryd.prog W 0 (fun _ => true) true 35 v d p) :
    ∃ a len cap M, v = .slice a len cap ∧ IsLists W a len cap M := by
  obtain ⟨a0, len0, cap0, rfl⟩ := okWide_slice Tryd.underlying35 hv
  obtain ⟨fuel, hf⟩ := h
  rcases Deep.open_slice Tryd.underlying35 hf with ⟨hcs, _⟩ | ⟨x, l, c, m, n, D, Pl, hcs, _, hl, hm, hmm, _, hx⟩
  · simp [Value.cells] at hcs
    obtain ⟨rfl, rfl, rfl⟩ := hcs
    exact ⟨_, _, _, fun _ => ⟨none, 0, []⟩, rfl, Or.inl rfl⟩
  · simp [Value.cells] at hcs
    obtain ⟨rfl, rfl, rfl⟩ := hcs
    have hm2 : len0 ≤ m := by rw [hmm]; simp; exact hl
    have k27 : Tryd.prog.cellsOf 27 = 1 := by kernel_rfl
    have each : ∀ i, i < len0 → ∃ q : BL, W.cell? (x.add i) = some (.slice q.a q.l.length q.c) ∧ IsBytes W q.a q.c q.l ∧ (q.a = none → q.l.length = 0 ∧ q.c = 0) := by
      intro i hi
      obtain ⟨cs', h1, h2⟩ := hx i (by omega)
      rw [k27] at h1
      obtain ⟨_, hlen, hcell⟩ := World.cells?_some h1
      match cs', hlen with
      | [v0], _ =>
        obtain ⟨a, cap, l, e0, hq, hno⟩ := bytes_of_trod h2
        have g0 := hcell 0 (by omega)
        rw [Deep.add_add] at g0
        exact ⟨⟨a, cap, l⟩, by simpa [e0] using g0, hq, hno⟩
    obtain ⟨q, hq⟩ := Deep.choose_lt each
    by_cases h0 : len0 = 0
    · exact ⟨_, _, _, q, rfl, Or.inl h0⟩
    · obtain ⟨b, off, spot⟩ := x
      have hs : spot = none := by
        have := (hq 0 (by omega)).1
        simpa [Addr.add] using World.cell?_spot this
      subst hs
      refine ⟨_, _, _, q, rfl, Or.inr ⟨b, off, rfl, hl, by unfold maxLen at hm; exact hm, ?_⟩⟩
      intro i hi
      obtain ⟨t0, t1, t2⟩ := hq i hi
      rw [add_plain] at t0
      exact ⟨t0, t1, t2⟩
/-- a bitmap that came in -/
theorem bm_of_arg {H : Type} {enc : TypeId × Value → H} {W : World} {v : Value} {d : DataW H} {p : List MemPlace}
    (hv : Value.okWide Tryd.prog W .any 0 25 v) (h : DataW.Trod enc Tryd.prog W 0 (fun _ => true) true 25 v d p) :
    ∃ m : BM, v = .agg #[.int .i64 m.w, .int .i64 m.h, .slice m.a m.n m.c] ∧ IsWords W m.a m.n m.c m.L ∧ (m.a = none → m.n = 0 ∧ m.c = 0) := by
  obtain ⟨cs, rfl, hsz⟩ := okWide_struct Tryd.underlying25 hv
  obtain ⟨fuel, hf⟩ := h
  have hsz1 : cs.size = 3 := hsz.trans (by kernel_rfl)
  obtain ⟨l⟩ := cs
  match l, hsz1 with
  | [c0, c1, c2], _ =>
    have hf2 : DataW.trod enc Tryd.prog W 0 (fun _ => true) true fuel 25 [c0, c1, c2] = some (d, p) := hf
    obtain ⟨q, e0, e1, e2, hq, hno⟩ := map_of_cells hf2
    subst e0; subst e1; subst e2
    exact ⟨q, rfl, hq, hno⟩
/-- numbers in memory -/
def IsNums (w : World) (a : Option Addr) (len cap : Nat) (L : Nat → Int) : Prop := len = 0 ∨ ∃ b off, a = some ⟨b, off, none⟩ ∧ len ≤ cap ∧ cap ≤ 9223372036854775807 ∧ b < w.heap.size ∧ ∀ i, i < len → w.cell? ⟨b, off + i, none⟩ = some (.int .i64 (L i))
theorem IsNums.below {w w' : World} {a : Option Addr} {len cap : Nat} {L : Nat → Int} (h : IsNums w a len cap L) (hb : Below w.heap.size w w') : IsNums w' a len cap L := by
  rcases h with h | ⟨b, off, h1, h2, h3, h4, h5⟩
  · exact Or.inl h
  · exact Or.inr ⟨b, off, h1, h2, h3, Nat.lt_of_lt_of_le h4 hb.size, fun i hi => (hb.cell (p := ⟨b, off + i, none⟩) h4).trans (h5 i hi)⟩
theorem nums_of_trod {H : Type} {enc : TypeId × Value → H} {W : World} {v : Value} {x : DataW H × List MemPlace} {n : Nat}
    (h : DataW.trod enc Tryd.prog W 0 (fun _ => true) true n 42 [v] = some x) : ∃ a len cap L, v = .slice a len cap ∧ IsNums W a len cap L ∧ len ≤ 9223372036854775807 := by
  rcases open_ints Tryd.underlying42 Tryd.underlying3 (by kernel_rfl) h with ⟨hcs, _⟩ | ⟨x, l, c, zs, hcs, _, hl, hm, hz, _, hcell, hwz⟩
  · simp at hcs
    exact ⟨_, _, _, fun _ => 0, hcs, Or.inl rfl, by decide⟩
  · simp at hcs
    simp at hz
    refine ⟨_, _, _, fun i => zs.getD i 0, hcs, ?_, by unfold maxLen at hm; omega⟩
    by_cases h0 : l = 0
    · exact Or.inl h0
    · right
      obtain ⟨b, off, spot⟩ := x
      have hs : spot = none := by
        have := hcell 0 (by omega)
        simpa [Addr.add] using World.cell?_spot this
      subst hs
      refine ⟨b, off, rfl, hl, by unfold maxLen at hm; exact hm, ?_, ?_⟩
      · have := hcell 0 (by omega)
        rw [add_plain] at this
        exact World.block_lt_of_cell? W _ this
      · intro i hi
        have h1 := hcell i (by omega)
        rw [add_plain] at h1
        exact h1
/-- a bitmap with numbers that came in -/
theorem spread_of_arg {H : Type} {enc : TypeId × Value → H} {W : World} {v : Value} {d : DataW H} {p : List MemPlace}
    (hv : Value.okWide Tryd.prog W .any 0 44 v) (h : DataW.Trod enc Tryd.prog W 0 (fun _ => true) true 44 v d p) :
    ∃ (m : BM) (a : Option Addr) (len cap : Nat) (L : Nat → Int), v = .agg #[.int .i64 m.w, .int .i64 m.h, .slice m.a m.n m.c, .slice a len cap] ∧ IsWords W m.a m.n m.c m.L ∧ (m.a = none → m.n = 0 ∧ m.c = 0) ∧ IsNums W a len cap L ∧ len ≤ 9223372036854775807 := by
  obtain ⟨cs, rfl, hsz⟩ := okWide_struct Tryd.underlying44 hv
  obtain ⟨fuel, hf⟩ := h
  have hsz1 : cs.size = 4 := hsz.trans (by kernel_rfl)
  obtain ⟨l⟩ := cs
  match l, hsz1 with
  | [c0, c1, c2, c3], _ =>
    obtain ⟨xs, n, hd, _, _, hxl, hfld⟩ := DataW.trod_struct Tryd.underlying44 hf
    match xs, hxl with
    | [y0, y1], _ =>
      have k25 : Tryd.prog.cellsOf 25 = 3 := by kernel_rfl
      have k42 : Tryd.prog.cellsOf 42 = 1 := by kernel_rfl
      have g0 := hfld 0 _ rfl
      have g1 := hfld 1 _ rfl
      simp [Value.cells, k25, k42] at g0 g1
      obtain ⟨q, e0, e1, e2, hq, hno⟩ := map_of_cells g0
      obtain ⟨a, len, cap, L, e3, hL, hlen⟩ := nums_of_trod g1
      subst e0; subst e1; subst e2; subst e3
      exact ⟨q, a, len, cap, L, rfl, hq, hno, hL, hlen⟩
end Go.Proofs.YtgpjpmadbepblaaDoor
