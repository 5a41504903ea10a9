/- Read of package pbm, by cases. Conditions: the bounds that each theorem names. -/
import Derived.Test.YtgpjpmadbepblaaDoorSf
namespace Go.Proofs.YtgpjpmadbepblaaDoor
open Go.RowKit Go.Bm Go.Pbm Go.Sort

theorem resOk {p : Nat} {tmps : Array Value} (h2 : (Act.mk tmps []).eval (.tmp 2) = .pointer (some ⟨p, 0, none⟩)) (h3 : (Act.mk tmps []).eval (.tmp 3) = .pointer (some ⟨p + 1, 0, none⟩)) : ResOk tmps p := by
  intro v0 v1 v2 y W c0 c1 c2 c3
  simp [Act.eval] at h2 h3
  simp [results, Tryd.results14, go_sem, h2, h3, c0, c1, c2, c3]

/-- both results' cells -/
theorem two_new (w : World) : ((w.alloc (.cells #[.int .i64 0, .int .i64 0, .slice none 0 0] 25)).alloc (.cells #[.int .i64 0] 28)).heap[w.heap.size]? = some (.cells #[.int .i64 0, .int .i64 0, .slice none 0 0] 25 (0, 0)) ∧
    ((w.alloc (.cells #[.int .i64 0, .int .i64 0, .slice none 0 0] 25)).alloc (.cells #[.int .i64 0] 28)).heap[w.heap.size + 1]? = some (.cells #[.int .i64 0] 28 (0, 0)) ∧
    Below w.heap.size w ((w.alloc (.cells #[.int .i64 0, .int .i64 0, .slice none 0 0] 25)).alloc (.cells #[.int .i64 0] 28)) ∧
    ((w.alloc (.cells #[.int .i64 0, .int .i64 0, .slice none 0 0] 25)).alloc (.cells #[.int .i64 0] 28)).heap.size = w.heap.size + 2 := by
  refine ⟨(Below.heap_alloc _ _ _ (by simp)).trans (heap_alloc_new w _), ?_, ((Below.refl _ _).alloc (Nat.le_refl _) _).alloc (by simp) _, by simp⟩
  have h := heap_alloc_new (w.alloc (.cells #[.int .i64 0, .int .i64 0, .slice none 0 0] 25)) (.cells #[.int .i64 0] 28)
  simpa using h

theorem number29_none (r : Nat) (a : Option Addr) (cap : Nat) (l : List UInt8) (i : Nat) (w : World) (h : IsRd w r a cap l i) (hl : l.length ≤ 100000000000000) (hs : numS l i = none) :
    Calls Tryd.prog 29 #[.pointer (some ⟨r, 0, none⟩)] w fun e w' => e = .panicked [{ v := .iface 57 (.agg #[.int .i64 30]), recovered := false }] ∧ w.grownBy w' (some r) := by
  unfold numS at hs
  by_cases hp : i < pasAt false l i
  · rcases hd : digL 0 (l.drop (pasAt false l i)) with ⟨v, m⟩
    refine (number29_go r a cap l i _ v m w h hl hp rfl hd).mono fun e w' ⟨h1, h2⟩ => ?_
    by_cases hm : 0 < m
    · rw [if_pos ⟨hp, by rw [hd]; exact hm⟩] at hs; cases hs
    · rw [if_neg hm] at h1; exact ⟨h1, h2⟩
  · exact (number29_no r a cap l i w h hl hp).mono fun e w' ⟨h1, h2⟩ => ⟨h1, h2⟩
theorem number29_some (r : Nat) (a : Option Addr) (cap : Nat) (l : List UInt8) (i v j : Nat) (w : World) (h : IsRd w r a cap l i) (hl : l.length ≤ 100000000000000) (hs : numS l i = some (v, j)) :
    Calls Tryd.prog 29 #[.pointer (some ⟨r, 0, none⟩)] w fun e w' => e = .returned (.int .i64 v) ∧ IsRd w' r a cap l j ∧ w.grownBy w' (some r) := by
  unfold numS at hs
  by_cases hp : i < pasAt false l i
  · rcases hd : digL 0 (l.drop (pasAt false l i)) with ⟨v', m⟩
    rw [hd] at hs
    by_cases hm : 0 < m
    · rw [if_pos ⟨hp, hm⟩] at hs
      obtain ⟨rfl, rfl⟩ := Prod.mk.inj (Option.some.inj hs)
      refine (number29_go r a cap l i _ v' m w h hl hp rfl hd).mono fun e w' ⟨h1, h2⟩ => ?_
      rw [if_pos hm] at h1
      exact ⟨h1.1, h1.2, h2⟩
    · rw [if_neg (fun h => hm h.2)] at hs; cases hs
  · rw [if_neg (fun h => hp h.1)] at hs; cases hs

/-- a reader under way, its results' cells -/
structure RdI (w0 w : World) (p b off cap : Nat) (l : List UInt8) (i : Nat) : Prop where
  hp : p = w0.heap.size
  bel : Below p w0 w
  b0 : w.heap[p]? = some (.cells #[.int .i64 0, .int .i64 0, .slice none 0 0] 25 (0, 0))
  b1 : w.heap[p + 1]? = some (.cells #[.int .i64 0] 28 (0, 0))
  rd : IsRd w (p + 2) (some ⟨b, off, none⟩) cap l i
  lt : b < p
  c1 : ∃ y, l[1]? = some y ∧ w.cell? ⟨b, off + 1, none⟩ = some (.int .u8 (y.toNat : Int))
theorem RdI.step {w0 w w' : World} {p b off cap : Nat} {l : List UInt8} {i j : Nat} (h : RdI w0 w p b off cap l i) (hg : w.grownBy w' (some (p + 2))) (hr : IsRd w' (p + 2) (some ⟨b, off, none⟩) cap l j) : RdI w0 w' p b off cap l j := by
  have l0 := (Array.getElem?_eq_some_iff.1 h.b0).1
  have l1 := (Array.getElem?_eq_some_iff.1 h.b1).1
  obtain ⟨y, hy, hc⟩ := h.c1
  have hlt := h.lt
  refine ⟨h.hp, Below.grown h.bel hg (by rw [h.hp]; exact h.bel.size) (fun z hz => by cases hz; omega), (hg.block p l0 (fun e => by have := Option.some.inj e; omega)).trans h.b0, (hg.block (p + 1) l1 (fun e => by have := Option.some.inj e; omega)).trans h.b1, hr, h.lt, y, hy, hg.cell hc (fun e => by have := Option.some.inj e; simp at this; omega)⟩
theorem isRd_below {w w' : World} {r : Nat} {a : Option Addr} {cap : Nat} {l : List UInt8} {i : Nat} (h : IsRd w r a cap l i) (hb : Below w.heap.size w w') : IsRd w' r a cap l i :=
  ⟨(hb.cell (p := ⟨r, 0, none⟩) h.lt).trans h.c0, (hb.cell (p := ⟨r, 1, none⟩) h.lt).trans h.c1, (hb.frozen (p := ⟨r, 1, none⟩) h.lt).trans h.fz, h.k.below hb, h.ne, h.le⟩
theorem RdI.below {w0 w w' : World} {p b off cap : Nat} {l : List UInt8} {i : Nat} (h : RdI w0 w p b off cap l i) (hb : Below w.heap.size w w') : RdI w0 w' p b off cap l i := by
  have l0 := (Array.getElem?_eq_some_iff.1 h.b0).1
  have l1 := (Array.getElem?_eq_some_iff.1 h.b1).1
  obtain ⟨y, hy, hc⟩ := h.c1
  exact ⟨h.hp, h.bel.trans (hb.mono (Nat.le_of_lt l0)), (hb.block p l0).trans h.b0, (hb.block (p + 1) l1).trans h.b1, isRd_below h.rd hb, h.lt, y, hy, (hb.cell (p := ⟨b, off + 1, none⟩) (World.block_lt_of_cell? w _ hc)).trans hc⟩
theorem RdI.new {w0 w : World} {p b off cap : Nat} {l : List UInt8} (hp : p = w0.heap.size) (hB : Below p w0 w) (b0 : w.heap[p]? = some (.cells #[.int .i64 0, .int .i64 0, .slice none 0 0] 25 (0, 0))) (b1 : w.heap[p + 1]? = some (.cells #[.int .i64 0] 28 (0, 0)))
    (hs : w.heap.size = p + 2) (hk : IsBytes w0 (some ⟨b, off, none⟩) cap l) (hlt : b < p) (h2 : 2 ≤ l.length) {y : UInt8} (hy : l[1]? = some y) (d1 : w0.cell? ⟨b, off + 1, none⟩ = some (.int .u8 (y.toNat : Int))) :
    RdI w0 (w.alloc (.cells #[.slice (some ⟨b, off, none⟩) l.length cap, .int .i64 2] 61)) p b off cap l 2 := by
  have hb := (Below.refl w.heap.size w).alloc (Nat.le_refl _) (.cells #[.slice (some ⟨b, off, none⟩) l.length cap, .int .i64 2] 61)
  have bn := heap_alloc_new w (.cells #[.slice (some ⟨b, off, none⟩) l.length cap, .int .i64 2] 61)
  rw [hs] at bn
  have hbel : Below p w0 (w.alloc (.cells #[.slice (some ⟨b, off, none⟩) l.length cap, .int .i64 2] 61)) := hB.trans (hb.mono (by omega))
  refine ⟨hp, hbel, (hb.block p (by omega)).trans b0, (hb.block (p + 1) (by omega)).trans b1, ⟨Joins.cell_of_block bn 0, Joins.cell_of_block bn 1, Joins.unfrozen_of_block bn 1, hk.below (hp ▸ hbel), ?_, h2⟩, hlt, y, hy, ?_⟩
  · rintro b' off' h
    cases h
    omega
  · rw [hp] at hbel; exact (hbel.cell (p := ⟨b, off + 1, none⟩) (World.block_lt_of_cell? w0 _ d1)).trans d1

set_option maxHeartbeats 1000000 in
set_option maxRecDepth 100000 in
theorem read14_short (a : Option Addr) (n cap : Nat) (w : World) (hn : n < 2) : Calls Tryd.prog 14 #[.slice a n cap] w (RdOut w (.inl 30)) := by
  have hmf : ∀ (fn : Fn) (first cap : Array Value) (w : World), (Instr.makeFunc fn first cap).run Tryd.prog w = .ok (.func fn first cap) w := fun _ _ _ _ => rfl
  have hnI : (n : Int) < 2 := by omega
  go_enter_defers Tryd.func14, Tryd.ntmps14
  go_wp2_with fail
  obtain ⟨h0, h1, hb, -⟩ := two_new w
  exact ends_fault14 (code := 30) (resOk rfl rfl) rfl hb h0 h1
/-- the results' cells behind a number that is none -/
structure RdJ (w0 w : World) (p : Nat) : Prop where
  hp : p = w0.heap.size
  bel : Below p w0 w
  b0 : w.heap[p]? = some (.cells #[.int .i64 0, .int .i64 0, .slice none 0 0] 25 (0, 0))
  b1 : w.heap[p + 1]? = some (.cells #[.int .i64 0] 28 (0, 0))
theorem RdI.step0 {w0 w w' : World} {p b off cap : Nat} {l : List UInt8} {i : Nat} (h : RdI w0 w p b off cap l i) (hg : w.grownBy w' (some (p + 2))) : RdJ w0 w' p := by
  have l0 := (Array.getElem?_eq_some_iff.1 h.b0).1
  have l1 := (Array.getElem?_eq_some_iff.1 h.b1).1
  exact ⟨h.hp, Below.grown h.bel hg (by rw [h.hp]; exact h.bel.size) (fun z hz => by cases hz; omega), (hg.block p l0 (fun e => by have := Option.some.inj e; omega)).trans h.b0, (hg.block (p + 1) l1 (fun e => by have := Option.some.inj e; omega)).trans h.b1⟩
theorem RdI.err {w0 w : World} {p b off cap : Nat} {l : List UInt8} {i : Nat} (h : RdI w0 w p b off cap l i) (v : Value) : Below p w0 (w.setCell ⟨p + 1, 0, none⟩ v) ∧ (w.setCell ⟨p + 1, 0, none⟩ v).heap[p]? = some (.cells #[.int .i64 0, .int .i64 0, .slice none 0 0] 25 (0, 0)) ∧ (w.setCell ⟨p + 1, 0, none⟩ v).heap[p + 1]? = some (.cells #[v] 28 (0, 0)) :=
  ⟨Below.setCell h.bel (p := ⟨p + 1, 0, none⟩) (Nat.le_succ _) _, (Below.heap_setCell w ⟨p + 1, 0, none⟩ v p (fun e => by simp at e)).trans h.b0, Joins.block_setCell h.b1 (i := 0) v⟩
theorem RdI.err0 {w0 w : World} {p b off cap : Nat} {l : List UInt8} {i : Nat} (h : RdI w0 w p b off cap l i) : RdI w0 (w.setCell ⟨p + 1, 0, none⟩ (.int .i64 0)) p b off cap l i := by
  obtain ⟨s0, s1, s2⟩ := h.err (.int .i64 0)
  have hg := grown_setCell w ⟨p + 1, 0, none⟩ (.int .i64 0)
  obtain ⟨y, hy, hc⟩ := h.c1
  have hlt := h.lt
  have hr := h.rd
  refine ⟨h.hp, s0, s1, s2, ⟨hg.cell hr.c0 (fun e => by have := Option.some.inj e; simp at this), hg.cell hr.c1 (fun e => by have := Option.some.inj e; simp at this), (World.frozen?_of_block (a := ⟨p + 2, 1, none⟩) (hg.block (p + 2) hr.lt (fun e => by have := Option.some.inj e; simp at this))).trans hr.fz, hr.k.grown hg (fun b' off' e => by cases e; simp; omega), hr.ne, hr.le⟩, h.lt, y, hy, hg.cell hc (fun e => by have := Option.some.inj e; simp at this; omega)⟩
theorem RdI.three {w0 w : World} {p b off cap : Nat} {l : List UInt8} {i g gw : Nat} (h : RdI w0 w p b off cap l i) (h1 : w.heap.size ≤ g) (h2 : w.heap.size ≤ gw) : p + 3 ≤ g ∧ p + 3 ≤ gw := by
  have := h.rd.lt
  omega
theorem RdI.szle {w0 w : World} {p b off cap : Nat} {l : List UInt8} {i : Nat} (h : RdI w0 w p b off cap l i) : p + 2 ≤ w.heap.size := by
  have := h.rd.lt
  omega
theorem RdI.ab {w0 w : World} {p b off cap : Nat} {l : List UInt8} {i : Nat} (h : RdI w0 w p b off cap l i) : ∀ b' off', (some ⟨b, off, none⟩ : Option Addr) = some ⟨b', off', none⟩ → b' < p + 2 := by
  rintro b' off' e
  have := h.lt
  cases e
  omega
theorem RdI.keep {w0 w w' : World} {p b off cap : Nat} {l : List UInt8} {i : Nat} (h : RdI w0 w p b off cap l i) (hb : Below (p + 2) w w') : RdJ w0 w' p :=
  ⟨h.hp, h.bel.trans (hb.mono (by omega)), (hb.block p (by omega)).trans h.b0, (hb.block (p + 1) (by omega)).trans h.b1⟩
theorem RdJ.sz {w0 w : World} {p : Nat} (h : RdJ w0 w p) : p + 2 ≤ w.heap.size := (Array.getElem?_eq_some_iff.1 h.b1).1
theorem RdJ.below {w0 w w' : World} {p : Nat} (h : RdJ w0 w p) (hb : Below w.heap.size w w') : RdJ w0 w' p :=
  have l1 := h.sz
  ⟨h.hp, h.bel.trans (hb.mono (by omega)), (hb.block p (by omega)).trans h.b0, (hb.block (p + 1) (by omega)).trans h.b1⟩
theorem good_end {w0 w : World} {p W H base cap : Nat} {c : Option Addr} {C : Nat → Nat} (h : RdJ w0 w p) (h1 : w.ownsRow base 50 1 (.slice c (H * wd W) cap) (H * wd W) (wvals C (H * wd W))) (h2 : ∀ i, i < H * wd W → C i < 2 ^ 64) (h3 : p + 2 ≤ base) :
    Below p w0 ((((w.setCell ⟨p, 0, none⟩ (.int .i64 W)).setCell ⟨p, 1, none⟩ (.int .i64 H)).setCell ⟨p, 2, none⟩ (.slice c (H * wd W) cap)).setCell ⟨p + 1, 0, none⟩ (.int .i64 0)) ∧
    ((((w.setCell ⟨p, 0, none⟩ (.int .i64 W)).setCell ⟨p, 1, none⟩ (.int .i64 H)).setCell ⟨p, 2, none⟩ (.slice c (H * wd W) cap)).setCell ⟨p + 1, 0, none⟩ (.int .i64 0)).heap[p]? = some (.cells #[.int .i64 W, .int .i64 H, .slice c (H * wd W) cap] 25 (0, 0)) ∧
    ((((w.setCell ⟨p, 0, none⟩ (.int .i64 W)).setCell ⟨p, 1, none⟩ (.int .i64 H)).setCell ⟨p, 2, none⟩ (.slice c (H * wd W) cap)).setCell ⟨p + 1, 0, none⟩ (.int .i64 0)).heap[p + 1]? = some (.cells #[.int .i64 0] 28 (0, 0)) ∧
    IsWords ((((w.setCell ⟨p, 0, none⟩ (.int .i64 W)).setCell ⟨p, 1, none⟩ (.int .i64 H)).setCell ⟨p, 2, none⟩ (.slice c (H * wd W) cap)).setCell ⟨p + 1, 0, none⟩ (.int .i64 0)) c (H * wd W) cap C ∧ ∀ x, c = some x → p ≤ x.block := by
  have d0 := Joins.block_setCell h.b0 (i := 0) (.int .i64 (W : Int))
  have d1 := Joins.block_setCell d0 (i := 1) (.int .i64 (H : Int))
  have d2 := Joins.block_setCell d1 (i := 2) (.slice c (H * wd W) cap)
  rw [setIf3] at d2
  have far : ∀ (W : World) (o : Nat) (v : Value) (k : Nat) (b : Obj), k ≠ p → W.heap[k]? = some b → (W.setCell ⟨p, o, none⟩ v).heap[k]? = some b := fun W o v k b hk hb => (Below.heap_setCell W _ _ k (fun e => hk e)).trans hb
  have hpq : p + 1 ≠ p := by omega
  have e1 := far _ 2 (.slice c (H * wd W) cap) _ _ hpq (far _ 1 (.int .i64 (H : Int)) _ _ hpq (far _ 0 (.int .i64 (W : Int)) _ _ hpq h.b1))
  have e2 := Joins.block_setCell e1 (i := 0) (.int .i64 0)
  have d3 := (Below.heap_setCell (((w.setCell ⟨p, 0, none⟩ (.int .i64 W)).setCell ⟨p, 1, none⟩ (.int .i64 H)).setCell ⟨p, 2, none⟩ (.slice c (H * wd W) cap)) ⟨p + 1, 0, none⟩ (.int .i64 0) p (fun e => hpq e.symm)).trans d2
  have o1 := ownsRow_setCell_below (a := ⟨p, 0, none⟩) h1 (show p < base by omega) (.int .i64 (W : Int))
  have o2 := ownsRow_setCell_below (a := ⟨p, 1, none⟩) o1 (show p < base by omega) (.int .i64 (H : Int))
  have o3 := ownsRow_setCell_below (a := ⟨p, 2, none⟩) o2 (show p < base by omega) (.slice c (H * wd W) cap)
  have o4 := ownsRow_setCell_below (a := ⟨p + 1, 0, none⟩) o3 (show p + 1 < base by omega) (.int .i64 0)
  have hcb : ∀ x, c = some x → p ≤ x.block := by
    intro x hx
    subst hx
    rcases h1.2 with ⟨h5, _⟩ | ⟨g, cp, cur, h5, h6, _⟩
    · cases h5
    · injection h5 with i1 i2 i3
      injection i1 with i1
      subst i1
      show p ≤ g
      omega
  obtain ⟨c', cap', he, hw⟩ := isWords_of_owns o4 h2
  injection he with i1 i2 i3
  subst i1 i3
  exact ⟨(((h.bel.setCell (p := ⟨p, 0, none⟩) (Nat.le_refl _) _).setCell (p := ⟨p, 1, none⟩) (Nat.le_refl _) _).setCell (p := ⟨p, 2, none⟩) (Nat.le_refl _) _).setCell (p := ⟨p + 1, 0, none⟩) (Nat.le_succ _) _, d3, e2, hw, hcb⟩

set_option maxHeartbeats 1000000 in
set_option maxRecDepth 100000 in
theorem read14_head0 (b off n cap : Nat) (x y : Nat) (w : World) (h2 : 2 ≤ n) (d0 : w.cell? ⟨b, off, none⟩ = some (.int .u8 (x : Int))) (d1 : w.cell? ⟨b, off + 1, none⟩ = some (.int .u8 (y : Int))) (hx : ¬ x = 80) :
    Calls Tryd.prog 14 #[.slice (some ⟨b, off, none⟩) n cap] w (RdOut w (.inl 30)) := by
  have hmf : ∀ (fn : Fn) (first cap : Array Value) (w : World), (Instr.makeFunc fn first cap).run Tryd.prog w = .ok (.func fn first cap) w := fun _ _ _ _ => rfl
  have hnI : ¬ (n : Int) < 2 := by omega
  have hn0 : (0 : Int) < (n : Int) := by omega
  have hn1 : (1 : Int) < (n : Int) := by omega
  have e0 : ((x : Int) != 80) = true := by simp; omega
  clear hx
  go_enter_defers Tryd.func14, Tryd.ntmps14
  go_upto_region 2 with (fail)
  obtain ⟨h0, h1, hb, hs⟩ := two_new w
  have g0 := (hb.cell (p := ⟨b, off, none⟩) (World.block_lt_of_cell? w _ d0)).trans d0
  have g1 := (hb.cell (p := ⟨b, off + 1, none⟩) (World.block_lt_of_cell? w _ d1)).trans d1
  have H := Lib.hid (And.intro h0 (And.intro h1 hb))
  clear h0 h1 hb hs d0 d1
  obtain ⟨p, hp⟩ : ∃ p, w.heap.size = p := ⟨_, rfl⟩
  rw [hp] at H ⊢
  have HP := Lib.hid hp
  clear hp
  generalize (w.alloc (.cells #[.int .i64 0, .int .i64 0, .slice none 0 0] 25)).alloc (.cells #[.int .i64 0] 28) = w2 at *
  go_wp2_with fail
  exact ends_fault14 (code := 30) (resOk rfl rfl) HP.out.symm H.out.2.2 H.out.1 H.out.2.1

set_option maxHeartbeats 1000000 in
set_option maxRecDepth 100000 in
theorem read14_head1 (b off n cap : Nat) (x y : Nat) (w : World) (h2 : 2 ≤ n) (d0 : w.cell? ⟨b, off, none⟩ = some (.int .u8 (x : Int))) (d1 : w.cell? ⟨b, off + 1, none⟩ = some (.int .u8 (y : Int))) (hx : x = 80 ∧ ¬ y = 49 ∧ ¬ y = 52) :
    Calls Tryd.prog 14 #[.slice (some ⟨b, off, none⟩) n cap] w (RdOut w (.inl 30)) := by
  have hmf : ∀ (fn : Fn) (first cap : Array Value) (w : World), (Instr.makeFunc fn first cap).run Tryd.prog w = .ok (.func fn first cap) w := fun _ _ _ _ => rfl
  have hnI : ¬ (n : Int) < 2 := by omega
  have hn0 : (0 : Int) < (n : Int) := by omega
  have hn1 : (1 : Int) < (n : Int) := by omega
  obtain ⟨rfl, hy1, hy2⟩ := hx
  have e1 : ((y : Int) != 49) = true := by simp; omega
  have e2 : ((y : Int) != 52) = true := by simp; omega
  clear hy1 hy2
  go_enter_defers Tryd.func14, Tryd.ntmps14
  go_upto_region 2 with (fail)
  obtain ⟨h0, h1, hb, hs⟩ := two_new w
  have g0 := (hb.cell (p := ⟨b, off, none⟩) (World.block_lt_of_cell? w _ d0)).trans d0
  have g1 := (hb.cell (p := ⟨b, off + 1, none⟩) (World.block_lt_of_cell? w _ d1)).trans d1
  have H := Lib.hid (And.intro h0 (And.intro h1 hb))
  clear h0 h1 hb hs d0 d1
  obtain ⟨p, hp⟩ : ∃ p, w.heap.size = p := ⟨_, rfl⟩
  rw [hp] at H ⊢
  have HP := Lib.hid hp
  clear hp
  generalize (w.alloc (.cells #[.int .i64 0, .int .i64 0, .slice none 0 0] 25)).alloc (.cells #[.int .i64 0] 28) = w2 at *
  go_wp2_with fail
  exact ends_fault14 (code := 30) (resOk rfl rfl) HP.out.symm H.out.2.2 H.out.1 H.out.2.1

set_option maxHeartbeats 4000000 in
set_option maxRecDepth 100000 in
theorem read14_none1_49 (b off cap : Nat) (l : List UInt8) (w : World) (h2 : 2 ≤ l.length) (hl : l.length ≤ 100000000000000) (hk : IsBytes w (some ⟨b, off, none⟩) cap l) (hlt : b < w.heap.size) (yy : UInt8) (hy : l[1]? = some yy) (hyy : yy.toNat = 49)
    (d0 : w.cell? ⟨b, off, none⟩ = some (.int .u8 80)) (d1 : w.cell? ⟨b, off + 1, none⟩ = some (.int .u8 49)) (hs1 : numS l 2 = none) :
    Calls Tryd.prog 14 #[.slice (some ⟨b, off, none⟩) l.length cap] w (RdOut w (.inl 30)) := by
  have hmf : ∀ (fn : Fn) (first cap : Array Value) (w : World), (Instr.makeFunc fn first cap).run Tryd.prog w = .ok (.func fn first cap) w := fun _ _ _ _ => rfl
  obtain ⟨n, hn⟩ : ∃ n, l.length = n := ⟨_, rfl⟩
  have hnI : ¬ (n : Int) < 2 := by omega
  have hn0 : (0 : Int) < (n : Int) := by omega
  have hn1 : (1 : Int) < (n : Int) := by omega
  have HL := Lib.hid hl
  have H2 := Lib.hid h2
  have HK := Lib.hid hk
  have HY : Hid (l[1]? = some yy ∧ yy.toNat = 49) := ⟨hy, hyy⟩
  have HN := Lib.hid hn
  rw [hn]
  clear hl h2 hk hy hyy hn
  go_enter_defers Tryd.func14, Tryd.ntmps14
  go_upto_region 2 with (fail)
  obtain ⟨h0, h1, hb, hs⟩ := two_new w
  have g0 := (hb.cell (p := ⟨b, off, none⟩) (World.block_lt_of_cell? w _ d0)).trans d0
  have g1 := (hb.cell (p := ⟨b, off + 1, none⟩) (World.block_lt_of_cell? w _ d1)).trans d1
  obtain ⟨p, hp⟩ : ∃ p, w.heap.size = p := ⟨_, rfl⟩
  have HR0 := Lib.hid (RdI.new (b := b) (off := off) (cap := cap) (l := l) hp.symm (hp ▸ hb) (hp ▸ h0) (hp ▸ h1) (by rw [hs, hp]) HK.out (by omega) H2.out HY.out.1 (by rw [HY.out.2]; exact d1))
  rw [HN.out] at HR0
  have HP := Lib.hid (show ((w.alloc (.cells #[.int .i64 0, .int .i64 0, .slice none 0 0] 25)).alloc (.cells #[.int .i64 0] 28)).heap.size = p + 2 by rw [hs, hp])
  rw [hp]
  clear h0 h1 hb hs d0 d1 hp hlt
  generalize (w.alloc (.cells #[.int .i64 0, .int .i64 0, .slice none 0 0] 25)).alloc (.cells #[.int .i64 0] 28) = w2 at *
  go_upto_region 5 with (fail)
  rw [HP.out]
  clear g0 g1 HP
  generalize w2.alloc (.cells #[.slice (some ⟨b, off, none⟩) n cap, .int .i64 2] 61) = w3 at *
  go_wp2_with (go_at_call 29; refine (number29_none (p + 2) (some ⟨b, off, none⟩) cap l 2 _ HR0.out.rd HL.out hs1).mono ?_; rintro e w4 ⟨rfl, h1⟩; have HG := Lib.hid h1; clear h1)
  have HQ := HR0.out.step0 HG.out
  exact ends_fault14 (code := 30) (resOk rfl rfl) HQ.hp HQ.bel HQ.b0 HQ.b1

set_option maxHeartbeats 4000000 in
set_option maxRecDepth 100000 in
theorem read14_none2_49 (b off cap : Nat) (l : List UInt8) (w : World) (h2 : 2 ≤ l.length) (hl : l.length ≤ 100000000000000) (hk : IsBytes w (some ⟨b, off, none⟩) cap l) (hlt : b < w.heap.size) (yy : UInt8) (hy : l[1]? = some yy) (hyy : yy.toNat = 49)
    (d0 : w.cell? ⟨b, off, none⟩ = some (.int .u8 80)) (d1 : w.cell? ⟨b, off + 1, none⟩ = some (.int .u8 49)) (W i : Nat) (hs1 : numS l 2 = some (W, i)) (hs2 : numS l i = none) :
    Calls Tryd.prog 14 #[.slice (some ⟨b, off, none⟩) l.length cap] w (RdOut w (.inl 30)) := by
  have hmf : ∀ (fn : Fn) (first cap : Array Value) (w : World), (Instr.makeFunc fn first cap).run Tryd.prog w = .ok (.func fn first cap) w := fun _ _ _ _ => rfl
  obtain ⟨n, hn⟩ : ∃ n, l.length = n := ⟨_, rfl⟩
  have hnI : ¬ (n : Int) < 2 := by omega
  have hn0 : (0 : Int) < (n : Int) := by omega
  have hn1 : (1 : Int) < (n : Int) := by omega
  have HL := Lib.hid hl
  have H2 := Lib.hid h2
  have HK := Lib.hid hk
  have HY : Hid (l[1]? = some yy ∧ yy.toNat = 49) := ⟨hy, hyy⟩
  have HN := Lib.hid hn
  rw [hn]
  clear hl h2 hk hy hyy hn
  go_enter_defers Tryd.func14, Tryd.ntmps14
  go_upto_region 2 with (fail)
  obtain ⟨h0, h1, hb, hs⟩ := two_new w
  have g0 := (hb.cell (p := ⟨b, off, none⟩) (World.block_lt_of_cell? w _ d0)).trans d0
  have g1 := (hb.cell (p := ⟨b, off + 1, none⟩) (World.block_lt_of_cell? w _ d1)).trans d1
  obtain ⟨p, hp⟩ : ∃ p, w.heap.size = p := ⟨_, rfl⟩
  have HR0 := Lib.hid (RdI.new (b := b) (off := off) (cap := cap) (l := l) hp.symm (hp ▸ hb) (hp ▸ h0) (hp ▸ h1) (by rw [hs, hp]) HK.out (by omega) H2.out HY.out.1 (by rw [HY.out.2]; exact d1))
  rw [HN.out] at HR0
  have HP := Lib.hid (show ((w.alloc (.cells #[.int .i64 0, .int .i64 0, .slice none 0 0] 25)).alloc (.cells #[.int .i64 0] 28)).heap.size = p + 2 by rw [hs, hp])
  rw [hp]
  clear h0 h1 hb hs d0 d1 hp hlt
  generalize (w.alloc (.cells #[.int .i64 0, .int .i64 0, .slice none 0 0] 25)).alloc (.cells #[.int .i64 0] 28) = w2 at *
  go_upto_region 5 with (fail)
  rw [HP.out]
  clear g0 g1 HP
  generalize w2.alloc (.cells #[.slice (some ⟨b, off, none⟩) n cap, .int .i64 2] 61) = w3 at *
  go_upto_region 6 with (go_at_call 29; refine (number29_some (p + 2) (some ⟨b, off, none⟩) cap l 2 W i _ HR0.out.rd HL.out hs1).mono ?_; rintro e w4 ⟨rfl, h1, h2⟩; have HR1 := Lib.hid (HR0.out.step h2 h1); clear h1 h2 HR0)
  go_wp2_with (go_at_call 29; refine (number29_none (p + 2) (some ⟨b, off, none⟩) cap l i _ HR1.out.rd HL.out hs2).mono ?_; rintro e w5 ⟨rfl, h1⟩; have HG := Lib.hid h1; clear h1)
  have HQ := HR1.out.step0 HG.out
  exact ends_fault14 (code := 30) (resOk rfl rfl) HQ.hp HQ.bel HQ.b0 HQ.b1

set_option maxHeartbeats 4000000 in
set_option maxRecDepth 100000 in
theorem read14_area_49 (b off cap : Nat) (l : List UInt8) (w : World) (h2 : 2 ≤ l.length) (hl : l.length ≤ 100000000000000) (hk : IsBytes w (some ⟨b, off, none⟩) cap l) (hlt : b < w.heap.size) (yy : UInt8) (hy : l[1]? = some yy) (hyy : yy.toNat = 49)
    (d0 : w.cell? ⟨b, off, none⟩ = some (.int .u8 80)) (d1 : w.cell? ⟨b, off + 1, none⟩ = some (.int .u8 49)) (W i H j : Nat) (hs1 : numS l 2 = some (W, i)) (hs2 : numS l i = some (H, j)) (hS : ¬ okS W H) :
    Calls Tryd.prog 14 #[.slice (some ⟨b, off, none⟩) l.length cap] w (RdOut w (.inl 31)) := by
  have hmf : ∀ (fn : Fn) (first cap : Array Value) (w : World), (Instr.makeFunc fn first cap).run Tryd.prog w = .ok (.func fn first cap) w := fun _ _ _ _ => rfl
  obtain ⟨n, hn⟩ : ∃ n, l.length = n := ⟨_, rfl⟩
  have hnI : ¬ (n : Int) < 2 := by omega
  have hn0 : (0 : Int) < (n : Int) := by omega
  have hn1 : (1 : Int) < (n : Int) := by omega
  have HL := Lib.hid hl
  have H2 := Lib.hid h2
  have HK := Lib.hid hk
  have HY : Hid (l[1]? = some yy ∧ yy.toNat = 49) := ⟨hy, hyy⟩
  have HN := Lib.hid hn
  rw [hn]
  clear hl h2 hk hy hyy hn
  go_enter_defers Tryd.func14, Tryd.ntmps14
  go_upto_region 2 with (fail)
  obtain ⟨h0, h1, hb, hs⟩ := two_new w
  have g0 := (hb.cell (p := ⟨b, off, none⟩) (World.block_lt_of_cell? w _ d0)).trans d0
  have g1 := (hb.cell (p := ⟨b, off + 1, none⟩) (World.block_lt_of_cell? w _ d1)).trans d1
  obtain ⟨p, hp⟩ : ∃ p, w.heap.size = p := ⟨_, rfl⟩
  have HR0 := Lib.hid (RdI.new (b := b) (off := off) (cap := cap) (l := l) hp.symm (hp ▸ hb) (hp ▸ h0) (hp ▸ h1) (by rw [hs, hp]) HK.out (by omega) H2.out HY.out.1 (by rw [HY.out.2]; exact d1))
  rw [HN.out] at HR0
  have HP := Lib.hid (show ((w.alloc (.cells #[.int .i64 0, .int .i64 0, .slice none 0 0] 25)).alloc (.cells #[.int .i64 0] 28)).heap.size = p + 2 by rw [hs, hp])
  rw [hp]
  clear h0 h1 hb hs d0 d1 hp hlt
  generalize (w.alloc (.cells #[.int .i64 0, .int .i64 0, .slice none 0 0] 25)).alloc (.cells #[.int .i64 0] 28) = w2 at *
  go_upto_region 5 with (fail)
  rw [HP.out]
  clear g0 g1 HP
  generalize w2.alloc (.cells #[.slice (some ⟨b, off, none⟩) n cap, .int .i64 2] 61) = w3 at *
  go_upto_region 6 with (go_at_call 29; refine (number29_some (p + 2) (some ⟨b, off, none⟩) cap l 2 W i _ HR0.out.rd HL.out hs1).mono ?_; rintro e w4 ⟨rfl, h1, h2⟩; have HR1 := Lib.hid (HR0.out.step h2 h1); clear h1 h2 HR0)
  go_upto_region 7 with (go_at_call 29; refine (number29_some (p + 2) (some ⟨b, off, none⟩) cap l i H j _ HR1.out.rd HL.out hs2).mono ?_; rintro e w5 ⟨rfl, h1, h2⟩; have HR2 := Lib.hid (HR1.out.step h2 h1); clear h1 h2 HR1)
  have q0 := HR2.out.b1
  have c0 := Joins.cell_of_block q0 0
  have z0 := Joins.unfrozen_of_block q0 0
  clear q0
  go_wp2_with (go_at_call 30; refine (new30_no _ _ _ hS).mono ?_; rintro e w6 ⟨rfl, rfl⟩)
  obtain ⟨s0, s1, s2⟩ := HR2.out.err (.int .i64 20)
  exact ends_fault14 (code := 31) (resOk rfl rfl) HR2.out.hp s0 s1 s2

set_option maxHeartbeats 4000000 in
set_option maxRecDepth 100000 in
theorem read14_none1_52 (b off cap : Nat) (l : List UInt8) (w : World) (h2 : 2 ≤ l.length) (hl : l.length ≤ 100000000000000) (hk : IsBytes w (some ⟨b, off, none⟩) cap l) (hlt : b < w.heap.size) (yy : UInt8) (hy : l[1]? = some yy) (hyy : yy.toNat = 52)
    (d0 : w.cell? ⟨b, off, none⟩ = some (.int .u8 80)) (d1 : w.cell? ⟨b, off + 1, none⟩ = some (.int .u8 52)) (hs1 : numS l 2 = none) :
    Calls Tryd.prog 14 #[.slice (some ⟨b, off, none⟩) l.length cap] w (RdOut w (.inl 30)) := by
  have hmf : ∀ (fn : Fn) (first cap : Array Value) (w : World), (Instr.makeFunc fn first cap).run Tryd.prog w = .ok (.func fn first cap) w := fun _ _ _ _ => rfl
  obtain ⟨n, hn⟩ : ∃ n, l.length = n := ⟨_, rfl⟩
  have hnI : ¬ (n : Int) < 2 := by omega
  have hn0 : (0 : Int) < (n : Int) := by omega
  have hn1 : (1 : Int) < (n : Int) := by omega
  have HL := Lib.hid hl
  have H2 := Lib.hid h2
  have HK := Lib.hid hk
  have HY : Hid (l[1]? = some yy ∧ yy.toNat = 52) := ⟨hy, hyy⟩
  have HN := Lib.hid hn
  rw [hn]
  clear hl h2 hk hy hyy hn
  go_enter_defers Tryd.func14, Tryd.ntmps14
  go_upto_region 2 with (fail)
  obtain ⟨h0, h1, hb, hs⟩ := two_new w
  have g0 := (hb.cell (p := ⟨b, off, none⟩) (World.block_lt_of_cell? w _ d0)).trans d0
  have g1 := (hb.cell (p := ⟨b, off + 1, none⟩) (World.block_lt_of_cell? w _ d1)).trans d1
  obtain ⟨p, hp⟩ : ∃ p, w.heap.size = p := ⟨_, rfl⟩
  have HR0 := Lib.hid (RdI.new (b := b) (off := off) (cap := cap) (l := l) hp.symm (hp ▸ hb) (hp ▸ h0) (hp ▸ h1) (by rw [hs, hp]) HK.out (by omega) H2.out HY.out.1 (by rw [HY.out.2]; exact d1))
  rw [HN.out] at HR0
  have HP := Lib.hid (show ((w.alloc (.cells #[.int .i64 0, .int .i64 0, .slice none 0 0] 25)).alloc (.cells #[.int .i64 0] 28)).heap.size = p + 2 by rw [hs, hp])
  rw [hp]
  clear h0 h1 hb hs d0 d1 hp hlt
  generalize (w.alloc (.cells #[.int .i64 0, .int .i64 0, .slice none 0 0] 25)).alloc (.cells #[.int .i64 0] 28) = w2 at *
  go_upto_region 5 with (fail)
  rw [HP.out]
  clear g0 g1 HP
  generalize w2.alloc (.cells #[.slice (some ⟨b, off, none⟩) n cap, .int .i64 2] 61) = w3 at *
  go_wp2_with (go_at_call 29; refine (number29_none (p + 2) (some ⟨b, off, none⟩) cap l 2 _ HR0.out.rd HL.out hs1).mono ?_; rintro e w4 ⟨rfl, h1⟩; have HG := Lib.hid h1; clear h1)
  have HQ := HR0.out.step0 HG.out
  exact ends_fault14 (code := 30) (resOk rfl rfl) HQ.hp HQ.bel HQ.b0 HQ.b1

set_option maxHeartbeats 4000000 in
set_option maxRecDepth 100000 in
theorem read14_none2_52 (b off cap : Nat) (l : List UInt8) (w : World) (h2 : 2 ≤ l.length) (hl : l.length ≤ 100000000000000) (hk : IsBytes w (some ⟨b, off, none⟩) cap l) (hlt : b < w.heap.size) (yy : UInt8) (hy : l[1]? = some yy) (hyy : yy.toNat = 52)
    (d0 : w.cell? ⟨b, off, none⟩ = some (.int .u8 80)) (d1 : w.cell? ⟨b, off + 1, none⟩ = some (.int .u8 52)) (W i : Nat) (hs1 : numS l 2 = some (W, i)) (hs2 : numS l i = none) :
    Calls Tryd.prog 14 #[.slice (some ⟨b, off, none⟩) l.length cap] w (RdOut w (.inl 30)) := by
  have hmf : ∀ (fn : Fn) (first cap : Array Value) (w : World), (Instr.makeFunc fn first cap).run Tryd.prog w = .ok (.func fn first cap) w := fun _ _ _ _ => rfl
  obtain ⟨n, hn⟩ : ∃ n, l.length = n := ⟨_, rfl⟩
  have hnI : ¬ (n : Int) < 2 := by omega
  have hn0 : (0 : Int) < (n : Int) := by omega
  have hn1 : (1 : Int) < (n : Int) := by omega
  have HL := Lib.hid hl
  have H2 := Lib.hid h2
  have HK := Lib.hid hk
  have HY : Hid (l[1]? = some yy ∧ yy.toNat = 52) := ⟨hy, hyy⟩
  have HN := Lib.hid hn
  rw [hn]
  clear hl h2 hk hy hyy hn
  go_enter_defers Tryd.func14, Tryd.ntmps14
  go_upto_region 2 with (fail)
  obtain ⟨h0, h1, hb, hs⟩ := two_new w
  have g0 := (hb.cell (p := ⟨b, off, none⟩) (World.block_lt_of_cell? w _ d0)).trans d0
  have g1 := (hb.cell (p := ⟨b, off + 1, none⟩) (World.block_lt_of_cell? w _ d1)).trans d1
  obtain ⟨p, hp⟩ : ∃ p, w.heap.size = p := ⟨_, rfl⟩
  have HR0 := Lib.hid (RdI.new (b := b) (off := off) (cap := cap) (l := l) hp.symm (hp ▸ hb) (hp ▸ h0) (hp ▸ h1) (by rw [hs, hp]) HK.out (by omega) H2.out HY.out.1 (by rw [HY.out.2]; exact d1))
  rw [HN.out] at HR0
  have HP := Lib.hid (show ((w.alloc (.cells #[.int .i64 0, .int .i64 0, .slice none 0 0] 25)).alloc (.cells #[.int .i64 0] 28)).heap.size = p + 2 by rw [hs, hp])
  rw [hp]
  clear h0 h1 hb hs d0 d1 hp hlt
  generalize (w.alloc (.cells #[.int .i64 0, .int .i64 0, .slice none 0 0] 25)).alloc (.cells #[.int .i64 0] 28) = w2 at *
  go_upto_region 5 with (fail)
  rw [HP.out]
  clear g0 g1 HP
  generalize w2.alloc (.cells #[.slice (some ⟨b, off, none⟩) n cap, .int .i64 2] 61) = w3 at *
  go_upto_region 6 with (go_at_call 29; refine (number29_some (p + 2) (some ⟨b, off, none⟩) cap l 2 W i _ HR0.out.rd HL.out hs1).mono ?_; rintro e w4 ⟨rfl, h1, h2⟩; have HR1 := Lib.hid (HR0.out.step h2 h1); clear h1 h2 HR0)
  go_wp2_with (go_at_call 29; refine (number29_none (p + 2) (some ⟨b, off, none⟩) cap l i _ HR1.out.rd HL.out hs2).mono ?_; rintro e w5 ⟨rfl, h1⟩; have HG := Lib.hid h1; clear h1)
  have HQ := HR1.out.step0 HG.out
  exact ends_fault14 (code := 30) (resOk rfl rfl) HQ.hp HQ.bel HQ.b0 HQ.b1

set_option maxHeartbeats 4000000 in
set_option maxRecDepth 100000 in
theorem read14_area_52 (b off cap : Nat) (l : List UInt8) (w : World) (h2 : 2 ≤ l.length) (hl : l.length ≤ 100000000000000) (hk : IsBytes w (some ⟨b, off, none⟩) cap l) (hlt : b < w.heap.size) (yy : UInt8) (hy : l[1]? = some yy) (hyy : yy.toNat = 52)
    (d0 : w.cell? ⟨b, off, none⟩ = some (.int .u8 80)) (d1 : w.cell? ⟨b, off + 1, none⟩ = some (.int .u8 52)) (W i H j : Nat) (hs1 : numS l 2 = some (W, i)) (hs2 : numS l i = some (H, j)) (hS : ¬ okS W H) :
    Calls Tryd.prog 14 #[.slice (some ⟨b, off, none⟩) l.length cap] w (RdOut w (.inl 31)) := by
  have hmf : ∀ (fn : Fn) (first cap : Array Value) (w : World), (Instr.makeFunc fn first cap).run Tryd.prog w = .ok (.func fn first cap) w := fun _ _ _ _ => rfl
  obtain ⟨n, hn⟩ : ∃ n, l.length = n := ⟨_, rfl⟩
  have hnI : ¬ (n : Int) < 2 := by omega
  have hn0 : (0 : Int) < (n : Int) := by omega
  have hn1 : (1 : Int) < (n : Int) := by omega
  have HL := Lib.hid hl
  have H2 := Lib.hid h2
  have HK := Lib.hid hk
  have HY : Hid (l[1]? = some yy ∧ yy.toNat = 52) := ⟨hy, hyy⟩
  have HN := Lib.hid hn
  rw [hn]
  clear hl h2 hk hy hyy hn
  go_enter_defers Tryd.func14, Tryd.ntmps14
  go_upto_region 2 with (fail)
  obtain ⟨h0, h1, hb, hs⟩ := two_new w
  have g0 := (hb.cell (p := ⟨b, off, none⟩) (World.block_lt_of_cell? w _ d0)).trans d0
  have g1 := (hb.cell (p := ⟨b, off + 1, none⟩) (World.block_lt_of_cell? w _ d1)).trans d1
  obtain ⟨p, hp⟩ : ∃ p, w.heap.size = p := ⟨_, rfl⟩
  have HR0 := Lib.hid (RdI.new (b := b) (off := off) (cap := cap) (l := l) hp.symm (hp ▸ hb) (hp ▸ h0) (hp ▸ h1) (by rw [hs, hp]) HK.out (by omega) H2.out HY.out.1 (by rw [HY.out.2]; exact d1))
  rw [HN.out] at HR0
  have HP := Lib.hid (show ((w.alloc (.cells #[.int .i64 0, .int .i64 0, .slice none 0 0] 25)).alloc (.cells #[.int .i64 0] 28)).heap.size = p + 2 by rw [hs, hp])
  rw [hp]
  clear h0 h1 hb hs d0 d1 hp hlt
  generalize (w.alloc (.cells #[.int .i64 0, .int .i64 0, .slice none 0 0] 25)).alloc (.cells #[.int .i64 0] 28) = w2 at *
  go_upto_region 5 with (fail)
  rw [HP.out]
  clear g0 g1 HP
  generalize w2.alloc (.cells #[.slice (some ⟨b, off, none⟩) n cap, .int .i64 2] 61) = w3 at *
  go_upto_region 6 with (go_at_call 29; refine (number29_some (p + 2) (some ⟨b, off, none⟩) cap l 2 W i _ HR0.out.rd HL.out hs1).mono ?_; rintro e w4 ⟨rfl, h1, h2⟩; have HR1 := Lib.hid (HR0.out.step h2 h1); clear h1 h2 HR0)
  go_upto_region 7 with (go_at_call 29; refine (number29_some (p + 2) (some ⟨b, off, none⟩) cap l i H j _ HR1.out.rd HL.out hs2).mono ?_; rintro e w5 ⟨rfl, h1, h2⟩; have HR2 := Lib.hid (HR1.out.step h2 h1); clear h1 h2 HR1)
  have q0 := HR2.out.b1
  have c0 := Joins.cell_of_block q0 0
  have z0 := Joins.unfrozen_of_block q0 0
  clear q0
  go_wp2_with (go_at_call 30; refine (new30_no _ _ _ hS).mono ?_; rintro e w6 ⟨rfl, rfl⟩)
  obtain ⟨s0, s1, s2⟩ := HR2.out.err (.int .i64 20)
  exact ends_fault14 (code := 31) (resOk rfl rfl) HR2.out.hp s0 s1 s2

set_option maxHeartbeats 4000000 in
set_option maxRecDepth 100000 in
theorem read14_bbad (b off cap : Nat) (l : List UInt8) (w : World) (h2 : 2 ≤ l.length) (hl : l.length ≤ 100000000000000) (hk : IsBytes w (some ⟨b, off, none⟩) cap l) (hlt : b < w.heap.size) (yy : UInt8) (hy : l[1]? = some yy) (hyy : yy.toNat = 52)
    (d0 : w.cell? ⟨b, off, none⟩ = some (.int .u8 80)) (d1 : w.cell? ⟨b, off + 1, none⟩ = some (.int .u8 52)) (W i H j : Nat) (hs1 : numS l 2 = some (W, i)) (hs2 : numS l i = some (H, j)) (hS : okS W H) (hw1 : isWI (hereV l j) = false) :
    Calls Tryd.prog 14 #[.slice (some ⟨b, off, none⟩) l.length cap] w (RdOut w (.inl 30)) := by
  have hmf : ∀ (fn : Fn) (first cap : Array Value) (w : World), (Instr.makeFunc fn first cap).run Tryd.prog w = .ok (.func fn first cap) w := fun _ _ _ _ => rfl
  obtain ⟨n, hn⟩ : ∃ n, l.length = n := ⟨_, rfl⟩
  have hnI : ¬ (n : Int) < 2 := by omega
  have hn0 : (0 : Int) < (n : Int) := by omega
  have hn1 : (1 : Int) < (n : Int) := by omega
  have HL := Lib.hid hl
  have H2 := Lib.hid h2
  have HK := Lib.hid hk
  have HY : Hid (l[1]? = some yy ∧ yy.toNat = 52) := ⟨hy, hyy⟩
  have HN := Lib.hid hn
  rw [hn]
  clear hl h2 hk hy hyy hn
  go_enter_defers Tryd.func14, Tryd.ntmps14
  go_upto_region 2 with (fail)
  obtain ⟨h0, h1, hb, hs⟩ := two_new w
  have g0 := (hb.cell (p := ⟨b, off, none⟩) (World.block_lt_of_cell? w _ d0)).trans d0
  have g1 := (hb.cell (p := ⟨b, off + 1, none⟩) (World.block_lt_of_cell? w _ d1)).trans d1
  obtain ⟨p, hp⟩ : ∃ p, w.heap.size = p := ⟨_, rfl⟩
  have HR0 := Lib.hid (RdI.new (b := b) (off := off) (cap := cap) (l := l) hp.symm (hp ▸ hb) (hp ▸ h0) (hp ▸ h1) (by rw [hs, hp]) HK.out (by omega) H2.out HY.out.1 (by rw [HY.out.2]; exact d1))
  rw [HN.out] at HR0
  have HP := Lib.hid (show ((w.alloc (.cells #[.int .i64 0, .int .i64 0, .slice none 0 0] 25)).alloc (.cells #[.int .i64 0] 28)).heap.size = p + 2 by rw [hs, hp])
  rw [hp]
  clear h0 h1 hb hs d0 d1 hp hlt
  generalize (w.alloc (.cells #[.int .i64 0, .int .i64 0, .slice none 0 0] 25)).alloc (.cells #[.int .i64 0] 28) = w2 at *
  go_upto_region 5 with (fail)
  rw [HP.out]
  clear g0 g1 HP
  generalize w2.alloc (.cells #[.slice (some ⟨b, off, none⟩) n cap, .int .i64 2] 61) = w3 at *
  go_upto_region 6 with (go_at_call 29; refine (number29_some (p + 2) (some ⟨b, off, none⟩) cap l 2 W i _ HR0.out.rd HL.out hs1).mono ?_; rintro e w4 ⟨rfl, h1, h2⟩; have HR1 := Lib.hid (HR0.out.step h2 h1); clear h1 h2 HR0)
  go_upto_region 7 with (go_at_call 29; refine (number29_some (p + 2) (some ⟨b, off, none⟩) cap l i H j _ HR1.out.rd HL.out hs2).mono ?_; rintro e w5 ⟨rfl, h1, h2⟩; have HR2 := Lib.hid (HR1.out.step h2 h1); clear h1 h2 HR1)
  have q0 := HR2.out.b1
  have c0 := Joins.cell_of_block q0 0
  have z0 := Joins.unfrozen_of_block q0 0
  clear q0
  go_upto_region 8 with (go_at_call 30; refine (new30_ok W H _ hS).mono ?_; rintro e w6 ⟨g, gw, rfl, hM, hg, hgw, hb⟩; have HR3 := Lib.hid (HR2.out.below hb); have HM3 := Lib.hid hM; have HG : Hid (p + 3 ≤ g ∧ p + 3 ≤ gw) := HR2.out.three hg hgw; clear hM hg hgw hb HR2 c0 z0; have q0 := HR3.out.b1; have c0 := Joins.cell_of_block q0 0; have z0 := Joins.unfrozen_of_block q0 0; clear q0)
  have HR4 := Lib.hid HR3.out.err0
  have HM4 : Hid (IsMapO (w6.setCell ⟨p + 1, 0, none⟩ (.int .i64 0)) g gw W H (fun _ => 0)) := HM3.out.grown (grown_setCell w6 ⟨p + 1, 0, none⟩ _) (by have := HG.out.1; intro h; simp at h; omega) (by have := HG.out.2; intro h; simp at h; omega)
  clear HR3 HM3 c0 z0
  generalize w6.setCell ⟨p + 1, 0, none⟩ (.int .i64 0) = w7 at *
  have q0 := HR4.out.b1
  have c0 := Joins.cell_of_block q0 0
  obtain ⟨y0, hy0, c1⟩ := HR4.out.c1
  obtain rfl : y0 = yy := Option.some.inj (hy0.symm.trans HY.out.1)
  rw [HY.out.2] at c1
  clear q0 hy0
  go_wp2_with (go_at_call 32; refine (bytes32_bad (p + 2) g W H (some ⟨b, off, none⟩) cap l j _ HR4.out.rd hw1).mono ?_; rintro e w8 ⟨he, k, rfl⟩; unfold faultE at he; subst he)
  exact ends_fault14 (code := 30) (resOk rfl rfl) HR4.out.hp (below_drewN HR4.out.bel k) HR4.out.b0 HR4.out.b1

set_option maxHeartbeats 4000000 in
set_option maxRecDepth 100000 in
theorem read14_bfew (b off cap : Nat) (l : List UInt8) (w : World) (h2 : 2 ≤ l.length) (hl : l.length ≤ 100000000000000) (hk : IsBytes w (some ⟨b, off, none⟩) cap l) (hlt : b < w.heap.size) (yy : UInt8) (hy : l[1]? = some yy) (hyy : yy.toNat = 52)
    (d0 : w.cell? ⟨b, off, none⟩ = some (.int .u8 80)) (d1 : w.cell? ⟨b, off + 1, none⟩ = some (.int .u8 52)) (W i H j : Nat) (hs1 : numS l 2 = some (W, i)) (hs2 : numS l i = some (H, j)) (hS : okS W H) (hj : j < l.length) (hw1 : isWI (hereV l j) = true) (m : List UInt8) (hm : l.drop (j + 1) = m) (hc1 : m.length < (W + 7) / 8 * H) :
    Calls Tryd.prog 14 #[.slice (some ⟨b, off, none⟩) l.length cap] w (RdOut w (.inl 32)) := by
  have hmf : ∀ (fn : Fn) (first cap : Array Value) (w : World), (Instr.makeFunc fn first cap).run Tryd.prog w = .ok (.func fn first cap) w := fun _ _ _ _ => rfl
  obtain ⟨n, hn⟩ : ∃ n, l.length = n := ⟨_, rfl⟩
  have hnI : ¬ (n : Int) < 2 := by omega
  have hn0 : (0 : Int) < (n : Int) := by omega
  have hn1 : (1 : Int) < (n : Int) := by omega
  have HL := Lib.hid hl
  have H2 := Lib.hid h2
  have HK := Lib.hid hk
  have HY : Hid (l[1]? = some yy ∧ yy.toNat = 52) := ⟨hy, hyy⟩
  have HN := Lib.hid hn
  rw [hn]
  clear hl h2 hk hy hyy hn
  go_enter_defers Tryd.func14, Tryd.ntmps14
  go_upto_region 2 with (fail)
  obtain ⟨h0, h1, hb, hs⟩ := two_new w
  have g0 := (hb.cell (p := ⟨b, off, none⟩) (World.block_lt_of_cell? w _ d0)).trans d0
  have g1 := (hb.cell (p := ⟨b, off + 1, none⟩) (World.block_lt_of_cell? w _ d1)).trans d1
  obtain ⟨p, hp⟩ : ∃ p, w.heap.size = p := ⟨_, rfl⟩
  have HR0 := Lib.hid (RdI.new (b := b) (off := off) (cap := cap) (l := l) hp.symm (hp ▸ hb) (hp ▸ h0) (hp ▸ h1) (by rw [hs, hp]) HK.out (by omega) H2.out HY.out.1 (by rw [HY.out.2]; exact d1))
  rw [HN.out] at HR0
  have HP := Lib.hid (show ((w.alloc (.cells #[.int .i64 0, .int .i64 0, .slice none 0 0] 25)).alloc (.cells #[.int .i64 0] 28)).heap.size = p + 2 by rw [hs, hp])
  rw [hp]
  clear h0 h1 hb hs d0 d1 hp hlt
  generalize (w.alloc (.cells #[.int .i64 0, .int .i64 0, .slice none 0 0] 25)).alloc (.cells #[.int .i64 0] 28) = w2 at *
  go_upto_region 5 with (fail)
  rw [HP.out]
  clear g0 g1 HP
  generalize w2.alloc (.cells #[.slice (some ⟨b, off, none⟩) n cap, .int .i64 2] 61) = w3 at *
  go_upto_region 6 with (go_at_call 29; refine (number29_some (p + 2) (some ⟨b, off, none⟩) cap l 2 W i _ HR0.out.rd HL.out hs1).mono ?_; rintro e w4 ⟨rfl, h1, h2⟩; have HR1 := Lib.hid (HR0.out.step h2 h1); clear h1 h2 HR0)
  go_upto_region 7 with (go_at_call 29; refine (number29_some (p + 2) (some ⟨b, off, none⟩) cap l i H j _ HR1.out.rd HL.out hs2).mono ?_; rintro e w5 ⟨rfl, h1, h2⟩; have HR2 := Lib.hid (HR1.out.step h2 h1); clear h1 h2 HR1)
  have q0 := HR2.out.b1
  have c0 := Joins.cell_of_block q0 0
  have z0 := Joins.unfrozen_of_block q0 0
  clear q0
  go_upto_region 8 with (go_at_call 30; refine (new30_ok W H _ hS).mono ?_; rintro e w6 ⟨g, gw, rfl, hM, hg, hgw, hb⟩; have HR3 := Lib.hid (HR2.out.below hb); have HM3 := Lib.hid hM; have HG : Hid (p + 3 ≤ g ∧ p + 3 ≤ gw) := HR2.out.three hg hgw; clear hM hg hgw hb HR2 c0 z0; have q0 := HR3.out.b1; have c0 := Joins.cell_of_block q0 0; have z0 := Joins.unfrozen_of_block q0 0; clear q0)
  have HR4 := Lib.hid HR3.out.err0
  have HM4 : Hid (IsMapO (w6.setCell ⟨p + 1, 0, none⟩ (.int .i64 0)) g gw W H (fun _ => 0)) := HM3.out.grown (grown_setCell w6 ⟨p + 1, 0, none⟩ _) (by have := HG.out.1; intro h; simp at h; omega) (by have := HG.out.2; intro h; simp at h; omega)
  clear HR3 HM3 c0 z0
  generalize w6.setCell ⟨p + 1, 0, none⟩ (.int .i64 0) = w7 at *
  have q0 := HR4.out.b1
  have c0 := Joins.cell_of_block q0 0
  obtain ⟨y0, hy0, c1⟩ := HR4.out.c1
  obtain rfl : y0 = yy := Option.some.inj (hy0.symm.trans HY.out.1)
  rw [HY.out.2] at c1
  clear q0 hy0
  go_wp2_with (go_at_call 32; refine (bytes32_few (p + 2) (p + 2) g gw W H (some ⟨b, off, none⟩) cap l j _ HR4.out.rd HL.out HM4.out hS HR4.out.szle (by have := HG.out.2; omega) HR4.out.ab hj hw1 m hm hc1).mono ?_; rintro e w8 ⟨he, hb8⟩; change e = .panicked _ at he; subst he; have HJ8 := Lib.hid (HR4.out.keep hb8); clear hb8)
  exact ends_fault14 (code := 32) (resOk rfl rfl) HJ8.out.hp HJ8.out.bel HJ8.out.b0 HJ8.out.b1

set_option maxHeartbeats 4000000 in
set_option maxRecDepth 100000 in
theorem read14_bmany (b off cap : Nat) (l : List UInt8) (w : World) (h2 : 2 ≤ l.length) (hl : l.length ≤ 100000000000000) (hk : IsBytes w (some ⟨b, off, none⟩) cap l) (hlt : b < w.heap.size) (yy : UInt8) (hy : l[1]? = some yy) (hyy : yy.toNat = 52)
    (d0 : w.cell? ⟨b, off, none⟩ = some (.int .u8 80)) (d1 : w.cell? ⟨b, off + 1, none⟩ = some (.int .u8 52)) (W i H j : Nat) (hs1 : numS l 2 = some (W, i)) (hs2 : numS l i = some (H, j)) (hS : okS W H) (hj : j < l.length) (hw1 : isWI (hereV l j) = true) (m : List UInt8) (hm : l.drop (j + 1) = m) (hc1 : (W + 7) / 8 * H < m.length) :
    Calls Tryd.prog 14 #[.slice (some ⟨b, off, none⟩) l.length cap] w (RdOut w (.inl 33)) := by
  have hmf : ∀ (fn : Fn) (first cap : Array Value) (w : World), (Instr.makeFunc fn first cap).run Tryd.prog w = .ok (.func fn first cap) w := fun _ _ _ _ => rfl
  obtain ⟨n, hn⟩ : ∃ n, l.length = n := ⟨_, rfl⟩
  have hnI : ¬ (n : Int) < 2 := by omega
  have hn0 : (0 : Int) < (n : Int) := by omega
  have hn1 : (1 : Int) < (n : Int) := by omega
  have HL := Lib.hid hl
  have H2 := Lib.hid h2
  have HK := Lib.hid hk
  have HY : Hid (l[1]? = some yy ∧ yy.toNat = 52) := ⟨hy, hyy⟩
  have HN := Lib.hid hn
  rw [hn]
  clear hl h2 hk hy hyy hn
  go_enter_defers Tryd.func14, Tryd.ntmps14
  go_upto_region 2 with (fail)
  obtain ⟨h0, h1, hb, hs⟩ := two_new w
  have g0 := (hb.cell (p := ⟨b, off, none⟩) (World.block_lt_of_cell? w _ d0)).trans d0
  have g1 := (hb.cell (p := ⟨b, off + 1, none⟩) (World.block_lt_of_cell? w _ d1)).trans d1
  obtain ⟨p, hp⟩ : ∃ p, w.heap.size = p := ⟨_, rfl⟩
  have HR0 := Lib.hid (RdI.new (b := b) (off := off) (cap := cap) (l := l) hp.symm (hp ▸ hb) (hp ▸ h0) (hp ▸ h1) (by rw [hs, hp]) HK.out (by omega) H2.out HY.out.1 (by rw [HY.out.2]; exact d1))
  rw [HN.out] at HR0
  have HP := Lib.hid (show ((w.alloc (.cells #[.int .i64 0, .int .i64 0, .slice none 0 0] 25)).alloc (.cells #[.int .i64 0] 28)).heap.size = p + 2 by rw [hs, hp])
  rw [hp]
  clear h0 h1 hb hs d0 d1 hp hlt
  generalize (w.alloc (.cells #[.int .i64 0, .int .i64 0, .slice none 0 0] 25)).alloc (.cells #[.int .i64 0] 28) = w2 at *
  go_upto_region 5 with (fail)
  rw [HP.out]
  clear g0 g1 HP
  generalize w2.alloc (.cells #[.slice (some ⟨b, off, none⟩) n cap, .int .i64 2] 61) = w3 at *
  go_upto_region 6 with (go_at_call 29; refine (number29_some (p + 2) (some ⟨b, off, none⟩) cap l 2 W i _ HR0.out.rd HL.out hs1).mono ?_; rintro e w4 ⟨rfl, h1, h2⟩; have HR1 := Lib.hid (HR0.out.step h2 h1); clear h1 h2 HR0)
  go_upto_region 7 with (go_at_call 29; refine (number29_some (p + 2) (some ⟨b, off, none⟩) cap l i H j _ HR1.out.rd HL.out hs2).mono ?_; rintro e w5 ⟨rfl, h1, h2⟩; have HR2 := Lib.hid (HR1.out.step h2 h1); clear h1 h2 HR1)
  have q0 := HR2.out.b1
  have c0 := Joins.cell_of_block q0 0
  have z0 := Joins.unfrozen_of_block q0 0
  clear q0
  go_upto_region 8 with (go_at_call 30; refine (new30_ok W H _ hS).mono ?_; rintro e w6 ⟨g, gw, rfl, hM, hg, hgw, hb⟩; have HR3 := Lib.hid (HR2.out.below hb); have HM3 := Lib.hid hM; have HG : Hid (p + 3 ≤ g ∧ p + 3 ≤ gw) := HR2.out.three hg hgw; clear hM hg hgw hb HR2 c0 z0; have q0 := HR3.out.b1; have c0 := Joins.cell_of_block q0 0; have z0 := Joins.unfrozen_of_block q0 0; clear q0)
  have HR4 := Lib.hid HR3.out.err0
  have HM4 : Hid (IsMapO (w6.setCell ⟨p + 1, 0, none⟩ (.int .i64 0)) g gw W H (fun _ => 0)) := HM3.out.grown (grown_setCell w6 ⟨p + 1, 0, none⟩ _) (by have := HG.out.1; intro h; simp at h; omega) (by have := HG.out.2; intro h; simp at h; omega)
  clear HR3 HM3 c0 z0
  generalize w6.setCell ⟨p + 1, 0, none⟩ (.int .i64 0) = w7 at *
  have q0 := HR4.out.b1
  have c0 := Joins.cell_of_block q0 0
  obtain ⟨y0, hy0, c1⟩ := HR4.out.c1
  obtain rfl : y0 = yy := Option.some.inj (hy0.symm.trans HY.out.1)
  rw [HY.out.2] at c1
  clear q0 hy0
  go_wp2_with (go_at_call 32; refine (bytes32_many (p + 2) (p + 2) g gw W H (some ⟨b, off, none⟩) cap l j _ HR4.out.rd HL.out HM4.out hS HR4.out.szle (by have := HG.out.2; omega) HR4.out.ab hj hw1 m hm hc1).mono ?_; rintro e w8 ⟨he, hb8⟩; change e = .panicked _ at he; subst he; have HJ8 := Lib.hid (HR4.out.keep hb8); clear hb8)
  exact ends_fault14 (code := 33) (resOk rfl rfl) HJ8.out.hp HJ8.out.bel HJ8.out.b0 HJ8.out.b1

set_option maxHeartbeats 4000000 in
set_option maxRecDepth 100000 in
theorem read14_bjust (b off cap : Nat) (l : List UInt8) (w : World) (h2 : 2 ≤ l.length) (hl : l.length ≤ 100000000000000) (hk : IsBytes w (some ⟨b, off, none⟩) cap l) (hlt : b < w.heap.size) (yy : UInt8) (hy : l[1]? = some yy) (hyy : yy.toNat = 52)
    (d0 : w.cell? ⟨b, off, none⟩ = some (.int .u8 80)) (d1 : w.cell? ⟨b, off + 1, none⟩ = some (.int .u8 52)) (W i H j : Nat) (hs1 : numS l 2 = some (W, i)) (hs2 : numS l i = some (H, j)) (hS : okS W H) (hj : j < l.length) (hw1 : isWI (hereV l j) = true) (m : List UInt8) (hm : l.drop (j + 1) = m) (hc1 : m.length = (W + 7) / 8 * H) :
    Calls Tryd.prog 14 #[.slice (some ⟨b, off, none⟩) l.length cap] w (RdOut w (.inr (W, H, bitsP m W (W * H)))) := by
  have hmf : ∀ (fn : Fn) (first cap : Array Value) (w : World), (Instr.makeFunc fn first cap).run Tryd.prog w = .ok (.func fn first cap) w := fun _ _ _ _ => rfl
  obtain ⟨n, hn⟩ : ∃ n, l.length = n := ⟨_, rfl⟩
  have hnI : ¬ (n : Int) < 2 := by omega
  have hn0 : (0 : Int) < (n : Int) := by omega
  have hn1 : (1 : Int) < (n : Int) := by omega
  have HL := Lib.hid hl
  have H2 := Lib.hid h2
  have HK := Lib.hid hk
  have HY : Hid (l[1]? = some yy ∧ yy.toNat = 52) := ⟨hy, hyy⟩
  have HN := Lib.hid hn
  rw [hn]
  clear hl h2 hk hy hyy hn
  go_enter_defers Tryd.func14, Tryd.ntmps14
  go_upto_region 2 with (fail)
  obtain ⟨h0, h1, hb, hs⟩ := two_new w
  have g0 := (hb.cell (p := ⟨b, off, none⟩) (World.block_lt_of_cell? w _ d0)).trans d0
  have g1 := (hb.cell (p := ⟨b, off + 1, none⟩) (World.block_lt_of_cell? w _ d1)).trans d1
  obtain ⟨p, hp⟩ : ∃ p, w.heap.size = p := ⟨_, rfl⟩
  have HR0 := Lib.hid (RdI.new (b := b) (off := off) (cap := cap) (l := l) hp.symm (hp ▸ hb) (hp ▸ h0) (hp ▸ h1) (by rw [hs, hp]) HK.out (by omega) H2.out HY.out.1 (by rw [HY.out.2]; exact d1))
  rw [HN.out] at HR0
  have HP := Lib.hid (show ((w.alloc (.cells #[.int .i64 0, .int .i64 0, .slice none 0 0] 25)).alloc (.cells #[.int .i64 0] 28)).heap.size = p + 2 by rw [hs, hp])
  rw [hp]
  clear h0 h1 hb hs d0 d1 hp hlt
  generalize (w.alloc (.cells #[.int .i64 0, .int .i64 0, .slice none 0 0] 25)).alloc (.cells #[.int .i64 0] 28) = w2 at *
  go_upto_region 5 with (fail)
  rw [HP.out]
  clear g0 g1 HP
  generalize w2.alloc (.cells #[.slice (some ⟨b, off, none⟩) n cap, .int .i64 2] 61) = w3 at *
  go_upto_region 6 with (go_at_call 29; refine (number29_some (p + 2) (some ⟨b, off, none⟩) cap l 2 W i _ HR0.out.rd HL.out hs1).mono ?_; rintro e w4 ⟨rfl, h1, h2⟩; have HR1 := Lib.hid (HR0.out.step h2 h1); clear h1 h2 HR0)
  go_upto_region 7 with (go_at_call 29; refine (number29_some (p + 2) (some ⟨b, off, none⟩) cap l i H j _ HR1.out.rd HL.out hs2).mono ?_; rintro e w5 ⟨rfl, h1, h2⟩; have HR2 := Lib.hid (HR1.out.step h2 h1); clear h1 h2 HR1)
  have q0 := HR2.out.b1
  have c0 := Joins.cell_of_block q0 0
  have z0 := Joins.unfrozen_of_block q0 0
  clear q0
  go_upto_region 8 with (go_at_call 30; refine (new30_ok W H _ hS).mono ?_; rintro e w6 ⟨g, gw, rfl, hM, hg, hgw, hb⟩; have HR3 := Lib.hid (HR2.out.below hb); have HM3 := Lib.hid hM; have HG : Hid (p + 3 ≤ g ∧ p + 3 ≤ gw) := HR2.out.three hg hgw; clear hM hg hgw hb HR2 c0 z0; have q0 := HR3.out.b1; have c0 := Joins.cell_of_block q0 0; have z0 := Joins.unfrozen_of_block q0 0; clear q0)
  have HR4 := Lib.hid HR3.out.err0
  have HM4 : Hid (IsMapO (w6.setCell ⟨p + 1, 0, none⟩ (.int .i64 0)) g gw W H (fun _ => 0)) := HM3.out.grown (grown_setCell w6 ⟨p + 1, 0, none⟩ _) (by have := HG.out.1; intro h; simp at h; omega) (by have := HG.out.2; intro h; simp at h; omega)
  clear HR3 HM3 c0 z0
  generalize w6.setCell ⟨p + 1, 0, none⟩ (.int .i64 0) = w7 at *
  have q0 := HR4.out.b1
  have c0 := Joins.cell_of_block q0 0
  obtain ⟨y0, hy0, c1⟩ := HR4.out.c1
  obtain rfl : y0 = yy := Option.some.inj (hy0.symm.trans HY.out.1)
  rw [HY.out.2] at c1
  clear q0 hy0
  have hWH := okS_le hS
  have HW : Hid (W ≤ 1048576 ∧ H ≤ 1048576 ∧ 0 < H * wd W) := ⟨by omega, by omega, Nat.mul_pos (by have := hS.2.1; omega) (wd_pos (by have := hS.1; omega))⟩
  clear hWH
  go_upto_region 13 with (go_at_call 32; refine (bytes32_just (p + 2) (p + 2) g gw W H (some ⟨b, off, none⟩) cap l j _ HR4.out.rd HL.out HM4.out hS HR4.out.szle (by have := HG.out.2; omega) HR4.out.ab hj hw1 m hm hc1).mono ?_; rintro e w8 ⟨he, hb8⟩; obtain ⟨rfl, C, hM8, hP8⟩ := he; have HM8 := Lib.hid hM8; have HP8 := Lib.hid hP8; have HJ8 := Lib.hid (HR4.out.keep hb8); clear hb8 hM8 hP8 HR4 HM4 c0 c1)
  go_wp2_with (go_at_call 33; refine (plain33 g gw W H C _ HW.out.1 HW.out.2.1 HW.out.2.2 HM8.out).mono ?_; rintro e w9 ⟨c, cap2, base, rfl, hr9, hC9, hb9, hbl9⟩; have HO9 : Hid (w9.ownsRow base 50 1 (.slice c (H * wd W) cap2) (H * wd W) (wvals C (H * wd W)) ∧ (∀ i, i < H * wd W → C i < 2 ^ 64) ∧ p + 2 ≤ base) := ⟨hr9, hC9, Nat.le_trans (HJ8.out.sz) hb9⟩; have HJ9 := Lib.hid (HJ8.out.below hbl9); clear hr9 hC9 hb9 hbl9; have q1 := HJ9.out.b1; have e1 := Joins.cell_of_block q1 0; have z1 := Joins.unfrozen_of_block q1 0; have q0 := HJ9.out.b0; have f0 := Joins.cell_of_block q0 0; have f1 := Joins.cell_of_block q0 1; have f2 := Joins.cell_of_block q0 2; have y0 := Joins.unfrozen_of_block q0 0; have y1 := Joins.unfrozen_of_block q0 1; have y2 := Joins.unfrozen_of_block q0 2; clear q0 q1)
  obtain ⟨t0, t1, t2, t3, t4⟩ := good_end (W := W) (H := H) HJ9.out HO9.out.1 HO9.out.2.1 HO9.out.2.2
  exact ends_good14 (resOk rfl rfl) HJ9.out.hp t0 t1 t2 t3 HP8.out t4

set_option maxHeartbeats 4000000 in
set_option maxRecDepth 100000 in
theorem read14_tbad (b off cap : Nat) (l : List UInt8) (w : World) (h2 : 2 ≤ l.length) (hl : l.length ≤ 100000000000000) (hk : IsBytes w (some ⟨b, off, none⟩) cap l) (hlt : b < w.heap.size) (yy : UInt8) (hy : l[1]? = some yy) (hyy : yy.toNat = 49)
    (d0 : w.cell? ⟨b, off, none⟩ = some (.int .u8 80)) (d1 : w.cell? ⟨b, off + 1, none⟩ = some (.int .u8 49)) (W i H j : Nat) (hs1 : numS l 2 = some (W, i)) (hs2 : numS l i = some (H, j)) (hS : okS W H) (ch : UInt8) (hch : l[j]? = some ch) (hb1 : ¬ isW ch.toNat = true) (hb2 : ¬ ch.toNat = 35) :
    Calls Tryd.prog 14 #[.slice (some ⟨b, off, none⟩) l.length cap] w (RdOut w (.inl 30)) := by
  have hmf : ∀ (fn : Fn) (first cap : Array Value) (w : World), (Instr.makeFunc fn first cap).run Tryd.prog w = .ok (.func fn first cap) w := fun _ _ _ _ => rfl
  obtain ⟨n, hn⟩ : ∃ n, l.length = n := ⟨_, rfl⟩
  have hnI : ¬ (n : Int) < 2 := by omega
  have hn0 : (0 : Int) < (n : Int) := by omega
  have hn1 : (1 : Int) < (n : Int) := by omega
  have HL := Lib.hid hl
  have H2 := Lib.hid h2
  have HK := Lib.hid hk
  have HY : Hid (l[1]? = some yy ∧ yy.toNat = 49) := ⟨hy, hyy⟩
  have HN := Lib.hid hn
  rw [hn]
  clear hl h2 hk hy hyy hn
  go_enter_defers Tryd.func14, Tryd.ntmps14
  go_upto_region 2 with (fail)
  obtain ⟨h0, h1, hb, hs⟩ := two_new w
  have g0 := (hb.cell (p := ⟨b, off, none⟩) (World.block_lt_of_cell? w _ d0)).trans d0
  have g1 := (hb.cell (p := ⟨b, off + 1, none⟩) (World.block_lt_of_cell? w _ d1)).trans d1
  obtain ⟨p, hp⟩ : ∃ p, w.heap.size = p := ⟨_, rfl⟩
  have HR0 := Lib.hid (RdI.new (b := b) (off := off) (cap := cap) (l := l) hp.symm (hp ▸ hb) (hp ▸ h0) (hp ▸ h1) (by rw [hs, hp]) HK.out (by omega) H2.out HY.out.1 (by rw [HY.out.2]; exact d1))
  rw [HN.out] at HR0
  have HP := Lib.hid (show ((w.alloc (.cells #[.int .i64 0, .int .i64 0, .slice none 0 0] 25)).alloc (.cells #[.int .i64 0] 28)).heap.size = p + 2 by rw [hs, hp])
  rw [hp]
  clear h0 h1 hb hs d0 d1 hp hlt
  generalize (w.alloc (.cells #[.int .i64 0, .int .i64 0, .slice none 0 0] 25)).alloc (.cells #[.int .i64 0] 28) = w2 at *
  go_upto_region 5 with (fail)
  rw [HP.out]
  clear g0 g1 HP
  generalize w2.alloc (.cells #[.slice (some ⟨b, off, none⟩) n cap, .int .i64 2] 61) = w3 at *
  go_upto_region 6 with (go_at_call 29; refine (number29_some (p + 2) (some ⟨b, off, none⟩) cap l 2 W i _ HR0.out.rd HL.out hs1).mono ?_; rintro e w4 ⟨rfl, h1, h2⟩; have HR1 := Lib.hid (HR0.out.step h2 h1); clear h1 h2 HR0)
  go_upto_region 7 with (go_at_call 29; refine (number29_some (p + 2) (some ⟨b, off, none⟩) cap l i H j _ HR1.out.rd HL.out hs2).mono ?_; rintro e w5 ⟨rfl, h1, h2⟩; have HR2 := Lib.hid (HR1.out.step h2 h1); clear h1 h2 HR1)
  have q0 := HR2.out.b1
  have c0 := Joins.cell_of_block q0 0
  have z0 := Joins.unfrozen_of_block q0 0
  clear q0
  go_upto_region 8 with (go_at_call 30; refine (new30_ok W H _ hS).mono ?_; rintro e w6 ⟨g, gw, rfl, hM, hg, hgw, hb⟩; have HR3 := Lib.hid (HR2.out.below hb); have HM3 := Lib.hid hM; have HG : Hid (p + 3 ≤ g ∧ p + 3 ≤ gw) := HR2.out.three hg hgw; clear hM hg hgw hb HR2 c0 z0; have q0 := HR3.out.b1; have c0 := Joins.cell_of_block q0 0; have z0 := Joins.unfrozen_of_block q0 0; clear q0)
  have HR4 := Lib.hid HR3.out.err0
  have HM4 : Hid (IsMapO (w6.setCell ⟨p + 1, 0, none⟩ (.int .i64 0)) g gw W H (fun _ => 0)) := HM3.out.grown (grown_setCell w6 ⟨p + 1, 0, none⟩ _) (by have := HG.out.1; intro h; simp at h; omega) (by have := HG.out.2; intro h; simp at h; omega)
  clear HR3 HM3 c0 z0
  generalize w6.setCell ⟨p + 1, 0, none⟩ (.int .i64 0) = w7 at *
  have q0 := HR4.out.b1
  have c0 := Joins.cell_of_block q0 0
  obtain ⟨y0, hy0, c1⟩ := HR4.out.c1
  obtain rfl : y0 = yy := Option.some.inj (hy0.symm.trans HY.out.1)
  rw [HY.out.2] at c1
  clear q0 hy0
  go_wp2_with (go_at_call 31; refine (text31_bad (p + 2) g W H (some ⟨b, off, none⟩) cap l j _ ch HR4.out.rd hch hb1 hb2).mono ?_; rintro e w8 ⟨he, k, rfl⟩; unfold faultE at he; subst he)
  exact ends_fault14 (code := 30) (resOk rfl rfl) HR4.out.hp (below_drewN HR4.out.bel k) HR4.out.b0 HR4.out.b1

set_option maxHeartbeats 4000000 in
set_option maxRecDepth 100000 in
theorem read14_tfault (b off cap : Nat) (l : List UInt8) (w : World) (h2 : 2 ≤ l.length) (hl : l.length ≤ 100000000000000) (hk : IsBytes w (some ⟨b, off, none⟩) cap l) (hlt : b < w.heap.size) (yy : UInt8) (hy : l[1]? = some yy) (hyy : yy.toNat = 49)
    (d0 : w.cell? ⟨b, off, none⟩ = some (.int .u8 80)) (d1 : w.cell? ⟨b, off + 1, none⟩ = some (.int .u8 49)) (W i H j : Nat) (hs1 : numS l 2 = some (W, i)) (hs2 : numS l i = some (H, j)) (hS : okS W H) (hh : l.length ≤ j ∨ ∃ c : UInt8, l[j]? = some c ∧ (isW c.toNat = true ∨ c.toNat = 35)) (code : Nat) (hX : endP (pixP (W * H) (l.drop j)) = .inl code) :
    Calls Tryd.prog 14 #[.slice (some ⟨b, off, none⟩) l.length cap] w (RdOut w (.inl code)) := by
  have hmf : ∀ (fn : Fn) (first cap : Array Value) (w : World), (Instr.makeFunc fn first cap).run Tryd.prog w = .ok (.func fn first cap) w := fun _ _ _ _ => rfl
  obtain ⟨n, hn⟩ : ∃ n, l.length = n := ⟨_, rfl⟩
  have hnI : ¬ (n : Int) < 2 := by omega
  have hn0 : (0 : Int) < (n : Int) := by omega
  have hn1 : (1 : Int) < (n : Int) := by omega
  have HL := Lib.hid hl
  have H2 := Lib.hid h2
  have HK := Lib.hid hk
  have HY : Hid (l[1]? = some yy ∧ yy.toNat = 49) := ⟨hy, hyy⟩
  have HN := Lib.hid hn
  rw [hn]
  clear hl h2 hk hy hyy hn
  go_enter_defers Tryd.func14, Tryd.ntmps14
  go_upto_region 2 with (fail)
  obtain ⟨h0, h1, hb, hs⟩ := two_new w
  have g0 := (hb.cell (p := ⟨b, off, none⟩) (World.block_lt_of_cell? w _ d0)).trans d0
  have g1 := (hb.cell (p := ⟨b, off + 1, none⟩) (World.block_lt_of_cell? w _ d1)).trans d1
  obtain ⟨p, hp⟩ : ∃ p, w.heap.size = p := ⟨_, rfl⟩
  have HR0 := Lib.hid (RdI.new (b := b) (off := off) (cap := cap) (l := l) hp.symm (hp ▸ hb) (hp ▸ h0) (hp ▸ h1) (by rw [hs, hp]) HK.out (by omega) H2.out HY.out.1 (by rw [HY.out.2]; exact d1))
  rw [HN.out] at HR0
  have HP := Lib.hid (show ((w.alloc (.cells #[.int .i64 0, .int .i64 0, .slice none 0 0] 25)).alloc (.cells #[.int .i64 0] 28)).heap.size = p + 2 by rw [hs, hp])
  rw [hp]
  clear h0 h1 hb hs d0 d1 hp hlt
  generalize (w.alloc (.cells #[.int .i64 0, .int .i64 0, .slice none 0 0] 25)).alloc (.cells #[.int .i64 0] 28) = w2 at *
  go_upto_region 5 with (fail)
  rw [HP.out]
  clear g0 g1 HP
  generalize w2.alloc (.cells #[.slice (some ⟨b, off, none⟩) n cap, .int .i64 2] 61) = w3 at *
  go_upto_region 6 with (go_at_call 29; refine (number29_some (p + 2) (some ⟨b, off, none⟩) cap l 2 W i _ HR0.out.rd HL.out hs1).mono ?_; rintro e w4 ⟨rfl, h1, h2⟩; have HR1 := Lib.hid (HR0.out.step h2 h1); clear h1 h2 HR0)
  go_upto_region 7 with (go_at_call 29; refine (number29_some (p + 2) (some ⟨b, off, none⟩) cap l i H j _ HR1.out.rd HL.out hs2).mono ?_; rintro e w5 ⟨rfl, h1, h2⟩; have HR2 := Lib.hid (HR1.out.step h2 h1); clear h1 h2 HR1)
  have q0 := HR2.out.b1
  have c0 := Joins.cell_of_block q0 0
  have z0 := Joins.unfrozen_of_block q0 0
  clear q0
  go_upto_region 8 with (go_at_call 30; refine (new30_ok W H _ hS).mono ?_; rintro e w6 ⟨g, gw, rfl, hM, hg, hgw, hb⟩; have HR3 := Lib.hid (HR2.out.below hb); have HM3 := Lib.hid hM; have HG : Hid (p + 3 ≤ g ∧ p + 3 ≤ gw) := HR2.out.three hg hgw; clear hM hg hgw hb HR2 c0 z0; have q0 := HR3.out.b1; have c0 := Joins.cell_of_block q0 0; have z0 := Joins.unfrozen_of_block q0 0; clear q0)
  have HR4 := Lib.hid HR3.out.err0
  have HM4 : Hid (IsMapO (w6.setCell ⟨p + 1, 0, none⟩ (.int .i64 0)) g gw W H (fun _ => 0)) := HM3.out.grown (grown_setCell w6 ⟨p + 1, 0, none⟩ _) (by have := HG.out.1; intro h; simp at h; omega) (by have := HG.out.2; intro h; simp at h; omega)
  clear HR3 HM3 c0 z0
  generalize w6.setCell ⟨p + 1, 0, none⟩ (.int .i64 0) = w7 at *
  have q0 := HR4.out.b1
  have c0 := Joins.cell_of_block q0 0
  obtain ⟨y0, hy0, c1⟩ := HR4.out.c1
  obtain rfl : y0 = yy := Option.some.inj (hy0.symm.trans HY.out.1)
  rw [HY.out.2] at c1
  clear q0 hy0
  go_wp2_with (go_at_call 31; refine (text31_go (p + 2) (p + 2) g gw W H (some ⟨b, off, none⟩) cap l j _ HR4.out.rd HL.out HM4.out hS HR4.out.szle (Nat.le_refl _) (by have := HG.out.1; omega) (by have := HG.out.2; omega) (by have := HG.out.1; omega) (by have := HG.out.2; omega) HR4.out.ab hh).mono ?_; rintro e w8 ⟨he, hb8⟩; rw [hX] at he; change e = .panicked _ at he; subst he; have HJ8 := Lib.hid (HR4.out.keep hb8); clear hb8)
  exact ends_fault14 (code := code) (resOk rfl rfl) HJ8.out.hp HJ8.out.bel HJ8.out.b0 HJ8.out.b1

set_option maxHeartbeats 4000000 in
set_option maxRecDepth 100000 in
theorem read14_tgood (b off cap : Nat) (l : List UInt8) (w : World) (h2 : 2 ≤ l.length) (hl : l.length ≤ 100000000000000) (hk : IsBytes w (some ⟨b, off, none⟩) cap l) (hlt : b < w.heap.size) (yy : UInt8) (hy : l[1]? = some yy) (hyy : yy.toNat = 49)
    (d0 : w.cell? ⟨b, off, none⟩ = some (.int .u8 80)) (d1 : w.cell? ⟨b, off + 1, none⟩ = some (.int .u8 49)) (W i H j : Nat) (hs1 : numS l 2 = some (W, i)) (hs2 : numS l i = some (H, j)) (hS : okS W H) (hh : l.length ≤ j ∨ ∃ c : UInt8, l[j]? = some c ∧ (isW c.toNat = true ∨ c.toNat = 35)) (ps : List Bool) (hX : endP (pixP (W * H) (l.drop j)) = .inr ps) :
    Calls Tryd.prog 14 #[.slice (some ⟨b, off, none⟩) l.length cap] w (RdOut w (.inr (W, H, ps))) := by
  have hmf : ∀ (fn : Fn) (first cap : Array Value) (w : World), (Instr.makeFunc fn first cap).run Tryd.prog w = .ok (.func fn first cap) w := fun _ _ _ _ => rfl
  obtain ⟨n, hn⟩ : ∃ n, l.length = n := ⟨_, rfl⟩
  have hnI : ¬ (n : Int) < 2 := by omega
  have hn0 : (0 : Int) < (n : Int) := by omega
  have hn1 : (1 : Int) < (n : Int) := by omega
  have HL := Lib.hid hl
  have H2 := Lib.hid h2
  have HK := Lib.hid hk
  have HY : Hid (l[1]? = some yy ∧ yy.toNat = 49) := ⟨hy, hyy⟩
  have HN := Lib.hid hn
  rw [hn]
  clear hl h2 hk hy hyy hn
  go_enter_defers Tryd.func14, Tryd.ntmps14
  go_upto_region 2 with (fail)
  obtain ⟨h0, h1, hb, hs⟩ := two_new w
  have g0 := (hb.cell (p := ⟨b, off, none⟩) (World.block_lt_of_cell? w _ d0)).trans d0
  have g1 := (hb.cell (p := ⟨b, off + 1, none⟩) (World.block_lt_of_cell? w _ d1)).trans d1
  obtain ⟨p, hp⟩ : ∃ p, w.heap.size = p := ⟨_, rfl⟩
  have HR0 := Lib.hid (RdI.new (b := b) (off := off) (cap := cap) (l := l) hp.symm (hp ▸ hb) (hp ▸ h0) (hp ▸ h1) (by rw [hs, hp]) HK.out (by omega) H2.out HY.out.1 (by rw [HY.out.2]; exact d1))
  rw [HN.out] at HR0
  have HP := Lib.hid (show ((w.alloc (.cells #[.int .i64 0, .int .i64 0, .slice none 0 0] 25)).alloc (.cells #[.int .i64 0] 28)).heap.size = p + 2 by rw [hs, hp])
  rw [hp]
  clear h0 h1 hb hs d0 d1 hp hlt
  generalize (w.alloc (.cells #[.int .i64 0, .int .i64 0, .slice none 0 0] 25)).alloc (.cells #[.int .i64 0] 28) = w2 at *
  go_upto_region 5 with (fail)
  rw [HP.out]
  clear g0 g1 HP
  generalize w2.alloc (.cells #[.slice (some ⟨b, off, none⟩) n cap, .int .i64 2] 61) = w3 at *
  go_upto_region 6 with (go_at_call 29; refine (number29_some (p + 2) (some ⟨b, off, none⟩) cap l 2 W i _ HR0.out.rd HL.out hs1).mono ?_; rintro e w4 ⟨rfl, h1, h2⟩; have HR1 := Lib.hid (HR0.out.step h2 h1); clear h1 h2 HR0)
  go_upto_region 7 with (go_at_call 29; refine (number29_some (p + 2) (some ⟨b, off, none⟩) cap l i H j _ HR1.out.rd HL.out hs2).mono ?_; rintro e w5 ⟨rfl, h1, h2⟩; have HR2 := Lib.hid (HR1.out.step h2 h1); clear h1 h2 HR1)
  have q0 := HR2.out.b1
  have c0 := Joins.cell_of_block q0 0
  have z0 := Joins.unfrozen_of_block q0 0
  clear q0
  go_upto_region 8 with (go_at_call 30; refine (new30_ok W H _ hS).mono ?_; rintro e w6 ⟨g, gw, rfl, hM, hg, hgw, hb⟩; have HR3 := Lib.hid (HR2.out.below hb); have HM3 := Lib.hid hM; have HG : Hid (p + 3 ≤ g ∧ p + 3 ≤ gw) := HR2.out.three hg hgw; clear hM hg hgw hb HR2 c0 z0; have q0 := HR3.out.b1; have c0 := Joins.cell_of_block q0 0; have z0 := Joins.unfrozen_of_block q0 0; clear q0)
  have HR4 := Lib.hid HR3.out.err0
  have HM4 : Hid (IsMapO (w6.setCell ⟨p + 1, 0, none⟩ (.int .i64 0)) g gw W H (fun _ => 0)) := HM3.out.grown (grown_setCell w6 ⟨p + 1, 0, none⟩ _) (by have := HG.out.1; intro h; simp at h; omega) (by have := HG.out.2; intro h; simp at h; omega)
  clear HR3 HM3 c0 z0
  generalize w6.setCell ⟨p + 1, 0, none⟩ (.int .i64 0) = w7 at *
  have q0 := HR4.out.b1
  have c0 := Joins.cell_of_block q0 0
  obtain ⟨y0, hy0, c1⟩ := HR4.out.c1
  obtain rfl : y0 = yy := Option.some.inj (hy0.symm.trans HY.out.1)
  rw [HY.out.2] at c1
  clear q0 hy0
  have hWH := okS_le hS
  have HW : Hid (W ≤ 1048576 ∧ H ≤ 1048576 ∧ 0 < H * wd W) := ⟨by omega, by omega, Nat.mul_pos (by have := hS.2.1; omega) (wd_pos (by have := hS.1; omega))⟩
  clear hWH
  go_upto_region 13 with (go_at_call 31; refine (text31_go (p + 2) (p + 2) g gw W H (some ⟨b, off, none⟩) cap l j _ HR4.out.rd HL.out HM4.out hS HR4.out.szle (Nat.le_refl _) (by have := HG.out.1; omega) (by have := HG.out.2; omega) (by have := HG.out.1; omega) (by have := HG.out.2; omega) HR4.out.ab hh).mono ?_; rintro e w8 ⟨he, hb8⟩; rw [hX] at he; obtain ⟨rfl, C, hM8, hP8⟩ := he; have HM8 := Lib.hid hM8; have HP8 := Lib.hid hP8; have HJ8 := Lib.hid (HR4.out.keep hb8); clear hb8 hM8 hP8 HR4 HM4 c0 c1)
  go_wp2_with (go_at_call 33; refine (plain33 g gw W H C _ HW.out.1 HW.out.2.1 HW.out.2.2 HM8.out).mono ?_; rintro e w9 ⟨c, cap2, base, rfl, hr9, hC9, hb9, hbl9⟩; have HO9 : Hid (w9.ownsRow base 50 1 (.slice c (H * wd W) cap2) (H * wd W) (wvals C (H * wd W)) ∧ (∀ i, i < H * wd W → C i < 2 ^ 64) ∧ p + 2 ≤ base) := ⟨hr9, hC9, Nat.le_trans (HJ8.out.sz) hb9⟩; have HJ9 := Lib.hid (HJ8.out.below hbl9); clear hr9 hC9 hb9 hbl9; have q1 := HJ9.out.b1; have e1 := Joins.cell_of_block q1 0; have z1 := Joins.unfrozen_of_block q1 0; have q0 := HJ9.out.b0; have f0 := Joins.cell_of_block q0 0; have f1 := Joins.cell_of_block q0 1; have f2 := Joins.cell_of_block q0 2; have y0 := Joins.unfrozen_of_block q0 0; have y1 := Joins.unfrozen_of_block q0 1; have y2 := Joins.unfrozen_of_block q0 2; clear q0 q1)
  obtain ⟨t0, t1, t2, t3, t4⟩ := good_end (W := W) (H := H) HJ9.out HO9.out.1 HO9.out.2.1 HO9.out.2.2
  exact ends_good14 (resOk rfl rfl) HJ9.out.hp t0 t1 t2 t3 HP8.out t4
end Go.Proofs.YtgpjpmadbepblaaDoor
