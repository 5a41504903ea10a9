/- Bitmaps and numbers as they lie. Conditions: the bounds that each theorem names. -/
import Derived.Test.YtfniekdohidbiaaXa
namespace Go.Proofs.Ytfniekdohidbiaa
open Go.RowKit Go.Bm

/-- one bitmap as it lies: its sides, its words -/
structure Bmp where
  W : Int
  H : Int
  a : Option Addr
  n : Nat
  cap : Nat
  B : Nat → Nat
def Bmp.vals (f : Bmp) : Array Value := #[.int .i64 f.W, .int .i64 f.H, .slice f.a f.n f.cap]
def Bmp.ok (f : Bmp) : Prop := okB f.W f.H f.n f.B
/-- a list of bitmaps, as it lies -/
def IsBms (w : World) (p : Option Addr) (n cap : Nat) (F : Nat → Bmp) : Prop :=
  n = 0 ∨ ∃ b off, p = some ⟨b, off, none⟩ ∧ n ≤ cap ∧ cap ≤ 9223372036854775807 ∧ b < w.heap.size ∧
    ∀ i, i < n → (w.cell? ⟨b, off + i * 3, none⟩ = some (.int .i64 (F i).W) ∧ w.cell? ⟨b, off + i * 3 + 1, none⟩ = some (.int .i64 (F i).H) ∧
      w.cell? ⟨b, off + i * 3 + 2, none⟩ = some (.slice (F i).a (F i).n (F i).cap) ∧ IsWords w (F i).a (F i).n (F i).cap (F i).B)
theorem IsBms.below {w w' : World} {p : Option Addr} {n cap : Nat} {F : Nat → Bmp} (h : IsBms w p n cap F) (hb : Below w.heap.size w w') : IsBms w' p n cap F := by
  rcases h with h | ⟨b, off, h1, h2, h3, h4, h5⟩
  · exact Or.inl h
  · refine Or.inr ⟨b, off, h1, h2, h3, Nat.lt_of_lt_of_le h4 hb.size, fun i hi => ?_⟩
    obtain ⟨q0, q1, q2, q3⟩ := h5 i hi
    exact ⟨(hb.cell (p := ⟨b, off + i * 3, none⟩) h4).trans q0, (hb.cell (p := ⟨b, off + i * 3 + 1, none⟩) h4).trans q1, (hb.cell (p := ⟨b, off + i * 3 + 2, none⟩) h4).trans q2, q3.below hb⟩

theorem Bmp.check (f : Bmp) (b : Bool) (w : World) (hB : IsWords w f.a f.n f.cap f.B) (hb : b = true ↔ f.ok) :
    Calls Try.prog 32 #[.agg #[.int .i64 f.W, .int .i64 f.H, .slice f.a f.n f.cap]] w fun e w' => e = .returned (.bool b) ∧ Below w.heap.size w w' := check0 f.W f.H f.a f.n f.cap f.B b w hB hb
theorem below_then {g : Nat} {w1 w2 w3 : World} (h : Below g w1 w2) (k : Below w2.heap.size w2 w3) (hg : g ≤ w1.heap.size) : Below g w1 w3 := h.trans (k.mono (Nat.le_trans hg h.size))
theorem row_ge {w : World} {base e size n : Nat} {v : Value} {xs : List Value} (h : w.ownsRow base e size v n xs) : ∀ z, v.ownBlock = some z → base ≤ z := by
  intro z hz
  obtain ⟨_, hform⟩ := h
  rcases hform with ⟨rfl, _⟩ | ⟨g, cap, cur, rfl, hb, _⟩
  · cases hz
  · cases hz
    exact hb
theorem one_cells (w : World) (A : Array Value) (t : TypeId) : (∀ j, (w.alloc (.cells A t)).cell? ⟨w.heap.size, j, none⟩ = A[j]?) ∧ w.heap.size < (w.alloc (.cells A t)).heap.size :=
  ⟨fun j => by rw [World.cell?_alloc_at _ _ _ _ rfl], by simp⟩
/-- the numbers below k, as cells -/
def nums (k : Nat) : List Value := (List.range k).map fun i => .int .i64 (i : Nat)
theorem nums_length (k : Nat) : (nums k).length = k := by unfold nums; simp
theorem nums_snoc (k : Nat) : nums (k + 1) = nums k ++ [.int .i64 (k : Nat)] := by unfold nums; rw [List.range_succ, List.map_append]; rfl
theorem infoI : (Try.prog.info? 3).map (fun i => (i.zero, i.size, i.bytes)) = some (some (.int .i64 0), 1, 8) := by kernel_rfl

def IsInts (w : World) (a : Option Addr) (len cap : Nat) (L : Nat → Int) : Prop :=
  len = 0 ∨ ∃ b off, a = some ⟨b, off, none⟩ ∧ len ≤ cap ∧ cap ≤ 9223372036854775807 ∧ b < w.heap.size ∧ ∀ i, i < len → w.cell? ⟨b, off + i, none⟩ = some (.int .i64 (L i))
theorem Bmp.may (f : Bmp) (b : Bool) (w : World) (hB : IsWords w f.a f.n f.cap f.B) (hb : b = true ↔ f.ok) :
    Calls Try.prog 29 #[.agg #[.int .i64 f.W, .int .i64 f.H, .slice f.a f.n f.cap]] w fun e w' => e = .returned (.bool b) ∧ Below w.heap.size w w' := may0 f.W f.H f.a f.n f.cap f.B b w hB hb
theorem keep_cell {w w' : World} (h : Below w.heap.size w w') {p : Addr} {v : Value} (hc : w.cell? p = some v) : w'.cell? p = some v := (h.cell (p := p) (World.block_lt_of_cell? w p hc)).trans hc
theorem news_of_ints {wo w3 : World} {g k c' q : Nat} {l : List Nat} (h : IsInts wo (some ⟨g, 0, none⟩) k c' (fun i => (l[i]! : Nat))) (hb : Below wo.heap.size wo w3) (hl : l.length = k) (hq : q ≤ k) :
    (∀ j u, (numsL (l.take q))[j]? = some u → w3.cell? ((⟨g, 0, none⟩ : Addr).add j) = some u) ∧ (∀ j u, (numsL (l.drop q))[j]? = some u → w3.cell? ((⟨g, q, none⟩ : Addr).add j) = some u) := by
  have hc : ∀ i, i < k → w3.cell? ⟨g, i, none⟩ = some (.int .i64 ((l[i]! : Nat) : Int)) := by
    intro i hi
    rcases h with h | ⟨gx, ox, hx, _, _, hgl, hcell⟩
    · omega
    · cases hx
      have := (hb.cell (p := ⟨g, 0 + i, none⟩) hgl).trans (hcell i hi)
      rwa [Nat.zero_add] at this
  have key : ∀ (o : Nat) (m : List Nat), (∀ j, j < m.length → o + j < k ∧ m[j]! = l[o + j]!) → ∀ j u, (numsL m)[j]? = some u → w3.cell? ((⟨g, o, none⟩ : Addr).add j) = some u := by
    intro o m hm j u hu
    unfold numsL at hu
    rw [List.getElem?_map] at hu
    cases hx : m[j]? with
    | none => rw [hx] at hu; cases hu
    | some x =>
      rw [hx] at hu
      cases hu
      have hj := (List.getElem?_eq_some_iff.1 hx).1
      obtain ⟨h1, h2⟩ := hm j hj
      have ea : (⟨g, o, none⟩ : Addr).add j = ⟨g, o + j, none⟩ := by simp only [Addr.add]; split <;> simp_all
      rw [ea, hc _ h1, ← h2, getElem!_pos m j hj, (List.getElem?_eq_some_iff.1 hx).2]
  refine ⟨key 0 _ fun j hj => ?_, key q _ fun j hj => ?_⟩
  · rw [List.length_take] at hj
    refine ⟨by omega, ?_⟩
    rw [getElem!_pos _ j (by rw [List.length_take]; omega), List.getElem_take, getElem!_pos l (0 + j) (by omega)]
    simp
  · rw [List.length_drop] at hj
    refine ⟨by omega, ?_⟩
    rw [getElem!_pos _ j (by rw [List.length_drop]; omega), List.getElem_drop, getElem!_pos l (q + j) (by omega)]
theorem isInts_of_row {w : World} {B k : Nat} {v : Value} {l : List Nat} (h : w.ownsRow B 3 1 v k (numsL l)) (h0 : 0 < k) : ∃ g c', v = .slice (some ⟨g, 0, none⟩) k c' ∧ IsInts w (some ⟨g, 0, none⟩) k c' (fun i => (l[i]! : Nat)) := by
  obtain ⟨hl, hform⟩ := h
  rcases hform with ⟨_, hz⟩ | ⟨g, c', cur, rfl, hb, hh, hnn, hcc, _, ht⟩
  · omega
  · refine ⟨g, c', rfl, Or.inr ⟨g, 0, rfl, hnn, by unfold maxLen at hcc; exact hcc, (Array.getElem?_eq_some_iff.1 hh).1, fun i hi => ?_⟩⟩
    rw [numsL_length] at hl
    have e2 : cur.toList[i]? = (numsL l)[i]? := by rw [← ht, List.getElem?_take, if_pos (by omega)]
    rw [Joins.cell_of_block hh, Nat.zero_add, ← Array.getElem?_toList, e2]
    unfold numsL
    show _ = some (Value.int .i64 ((l[i]! : Nat) : Int))
    rw [List.getElem?_map, List.getElem?_eq_getElem (by omega), getElem!_pos l i (by omega)]
    rfl

theorem row_base {w : World} {base B n s : Nat} {v : Value} {xs : List Value} {t : TypeId} (h : w.ownsRow base t s v n xs) (hb : B ≤ base) : w.ownsRow B t s v n xs := by
  obtain ⟨h1, h2⟩ := h
  refine ⟨h1, ?_⟩
  rcases h2 with h2 | ⟨g, cap, cur, a1, a2, a3⟩
  · exact Or.inl h2
  · exact Or.inr ⟨g, cap, cur, a1, Nat.le_trans hb a2, a3⟩
end Go.Proofs.Ytfniekdohidbiaa
