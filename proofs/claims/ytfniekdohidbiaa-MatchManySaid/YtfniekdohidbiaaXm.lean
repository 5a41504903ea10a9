/- What the closure of Classes answers in its places; an append in a region that draws. Conditions: the bounds that each theorem names. -/
import Derived.Test.YtfniekdohidbiaaXl
namespace Go.Proofs.Ytfniekdohidbiaa
open Go.RowKit Go.Bm Fl Go.FlW
theorem step_append_own {P : Program} {w : World} {ops : Array Oper} {o : Oper} {a : Act} {K : Act → World → Prop} {Q : Exit → Act → World → Prop} {E : Prop} (hgd : o.guard = none) (s x : Operand) (t : TypeId)
    (ho : o.op = .call { callee := .builtin .append, args := #[s, x], argTypes := #[t, t] })
    (base : Nat) (e : TypeId) (i : TypeInfo) (z : Value) (size bytes : Nat) (ht : P.underlying t = some (.slice e)) (hi : P.info? e = some i) (hz : i.zero = some z)
    (hsize : i.size = size) (hby : i.bytes = bytes) (hzs : z.cells.size = size) (hsz : 0 < size)
    (v : Value) (n : Nat) (xs : List Value) (hs : a.eval s = v) (hown : w.ownsRow base e size v n xs)
    (ad : Addr) (m c : Nat) (news : List Value) (hx : a.eval x = .slice (some ad) m c) (hl : news.length = m * size) (hnews : ∀ j u, news[j]? = some u → w.cell? (ad.add j) = some u) (h1 : ∀ u ∈ news, u.oneCell' = true)
    (h63 : n + m ≤ maxLen) (hbytes : (n + m) * bytes ≤ 140737488355328) (hbase : base ≤ w.heap.size)
    (h : ∀ p cap w', w'.ownsRow base e size (.slice p (n + m) cap) (n + m) (xs ++ news) → w.grownBy w' v.ownBlock → ((Value.slice p (n + m) cap).ownBlock = v.ownBlock ∨ (Value.slice p (n + m) cap).ownBlock = some w.heap.size) → K (a.put o.dst (.slice p (n + m) cap)) w') :
    if Region.wanted o (yielded ops a.tmps) = true then Oper.wp P o a w K Q else E := by
  have hw : Region.wanted o (yielded ops a.tmps) = true := by simp [Region.wanted, hgd]
  rw [if_pos hw]
  obtain ⟨v', w', hr, h2, h3, h4, h5⟩ := run_append_own_at (P := P) w base t o.type e i z size bytes ht hi hz hsize hby hzs hsz v n xs hown ad m c news hl hnews h1 h63 hbytes hbase
  obtain ⟨p, cap, rfl, _⟩ := ownsRow_slice h2
  unfold Oper.wp execOp
  simp only [ho, resolve, invoke, builtin, Sem.run_bind, Sem.run_pure, Result.andThen_ok, List.map_toArray, List.map_cons, List.map_nil, hs, hx, hr]
  exact h p cap w' h2 h3 h5
/-- words and sizes alike answer alike -/
theorem leqB_like {f f' g g' : Bmp} {t : Nat} (h : f.like f') (k : g.like g') : leqB f g t = leqB f' g' t := by
  obtain ⟨h1, h2, h3, h4⟩ := h
  obtain ⟨k1, k2, k3, k4⟩ := k
  unfold leqB
  rw [h1, h2, h4, k4]
theorem leqB_tol {f g : Bmp} {t : Nat} (h : tolOk t = true) : leqB f g (tolVal t) = leqB f g t := by
  unfold leqB leQ
  cases D.div _ _ with
  | some r => exact leB_tol h
  | none => rfl
theorem Bmp.like.ok {f g : Bmp} (h : f.like g) (k : g.ok) : f.ok := by
  obtain ⟨h1, h2, h3, h4⟩ := h
  unfold Bmp.ok at *
  rw [h1, h2, h3, h4]
  exact k
theorem Bmp.like.symm {f g : Bmp} (h : f.like g) : g.like f := ⟨h.1.symm, h.2.1.symm, h.2.2.1.symm, h.2.2.2.symm⟩
theorem Bmp.like.trans {f g k : Bmp} (h : f.like g) (h' : g.like k) : f.like k := ⟨h.1.trans h'.1, h.2.1.trans h'.2.1, h.2.2.1.trans h'.2.2.1, h.2.2.2.trans h'.2.2.2⟩
theorem Bmp.like.same {f g : Bmp} (h : f.like g) : f.same g := ⟨h.1, h.2.1, h.2.2.1, fun i _ => by rw [h.2.2.2]⟩
theorem CI.near {w0 X : World} {base b4 b6 b10 bm t : Nat} {cls reps : List Nat} {R F : Nat → Bmp} {G : Int → Int → List Nat} {vc vr : Value} {i b13 : Nat} {g : Bmp}
    (h : CI w0 base b4 b6 b10 bm (tolVal t) cls reps.length R G vc vr X) (ht : tolOk t = true) (hlike : ∀ k, k < reps.length → (R k).like (F reps[k]!)) (hok : ∀ k, k < reps.length → (F reps[k]!).ok ∧ (F reps[k]!).n ≤ 10000)
    (d0 : X.cell? ⟨b13, 0, none⟩ = some (.int .i64 g.W)) (d1 : X.cell? ⟨b13, 1, none⟩ = some (.int .i64 g.H)) (d2 : X.cell? ⟨b13, 2, none⟩ = some (.slice g.a g.n g.cap)) (hg : IsWords X g.a g.n g.cap g.B) (go : g.ok) (hgi : g = F i) :
    ∀ c ∈ grp F reps (F i).W (F i).H, ∀ w1, Below X.heap.size X w1 → Calls Try.prog 34 #[.int .i64 (c : Int), .pointer (some ⟨b10, 0, none⟩), .pointer (some ⟨b13, 0, none⟩), .pointer (some ⟨b6, 0, none⟩)] w1 fun e w' => e = .returned (.bool (leqB (F reps[c]!) (F i) t)) ∧ Below w1.heap.size w1 w' := by
  intro c hc w1 hb
  obtain ⟨hcl, hcw, hch⟩ := grp_lt F reps _ _ c hc
  have H1 := h.below hb
  obtain ⟨Gb, cr, hv, _, _, _, _, hcells⟩ := H1.rp.cells (by omega)
  obtain ⟨c0, c1, c2⟩ := hcells c hcl
  have hlk := hlike c hcl
  obtain ⟨fo, hn⟩ := hok c hcl
  have l13 : b13 < X.heap.size := World.block_lt_of_cell? X _ d0
  have q1 : w1.cell? ⟨b10, 1, none⟩ = some (.slice (some ⟨Gb, 0, none⟩) reps.length cr) := by rw [Joins.cell_of_block H1.k10, ← hv]; rfl
  have q6 : w1.cell? ⟨b6, 0, none⟩ = some (.float .f64 (tolVal t)) := by rw [Joins.cell_of_block H1.k6]; rfl
  refine (near34 b10 b13 b6 c Gb reps.length cr (tolVal t) (R c) g w1 q1 q6 c0 c1 c2 ((hb.cell (p := ⟨b13, 0, none⟩) l13).trans d0) ((hb.cell (p := ⟨b13, 1, none⟩) l13).trans d1) ((hb.cell (p := ⟨b13, 2, none⟩) l13).trans d2) hcl
    (H1.rp.2.1 c hcl).words (hg.below hb) (hlk.ok fo) go (by rw [hlk.1, hcw, hgi]) (by rw [hlk.2.1, hch, hgi]) (by rw [hlk.2.2.1]; exact hn)).mono ?_
  rintro e w' ⟨rfl, hb2⟩
  refine ⟨?_, hb2⟩
  rw [leqB_tol ht, leqB_like hlk (show g.like (F i) by rw [hgi]; exact ⟨rfl, rfl, rfl, rfl⟩)]
theorem grown_cell {w w' : World} {row : Option Nat} {q : Addr} {v : Value} (hg : w.grownBy w' row) (hne : some q.block ≠ row) (hc : w.cell? q = some v) : w'.cell? q = some v :=
  (World.cell?_of_block (w := w) (hg.block q.block (World.block_lt_of_cell? w q hc) hne)).trans hc
theorem OwnBits.mono {w : World} {base B : Nat} {f : Bmp} (h : OwnBits w base f) (hb : B ≤ base) : OwnBits w B f := ⟨h.1, row_base h.2.1 hb, h.2.2⟩
theorem three_cells {w : World} {b : Nat} {f : Bmp} (h : w.heap[b]? = some (.cells #[.int .i64 f.W, .int .i64 f.H, .slice f.a f.n f.cap] 48 (0, 0))) : w.cell? ⟨b, 0, none⟩ = some (.int .i64 f.W) ∧ w.cell? ⟨b, 1, none⟩ = some (.int .i64 f.H) ∧ w.cell? ⟨b, 2, none⟩ = some (.slice f.a f.n f.cap) :=
  ⟨Joins.cell_of_block h 0, Joins.cell_of_block h 1, Joins.cell_of_block h 2⟩
theorem Bmp.ok_pos {f : Bmp} (h : f.ok) : 0 < f.n := by
  obtain ⟨⟨h1, h2, _⟩, h3, _⟩ := h
  rw [h3]
  exact Nat.mul_pos (by omega) (wd_pos (by omega))
theorem like_snoc {R F : Nat → Bmp} {fb : Bmp} {reps : List Nat} {k : Nat} (h : ∀ j, j < reps.length → (R j).like (F reps[j]!)) (hf : fb.like (F k)) : ∀ j, j < (reps ++ [k]).length → (if j = reps.length then fb else R j).like (F (reps ++ [k])[j]!) := by
  intro j hj
  rw [List.length_append, List.length_singleton] at hj
  by_cases e : j = reps.length
  · subst e
    rw [if_pos rfl, getElem!_pos (reps ++ [k]) reps.length (by simp), List.getElem_append_right (Nat.le_refl _)]
    simpa using hf
  · have hj' : j < reps.length := by omega
    rw [if_neg e, getElem!_pos (reps ++ [k]) j (by simp; omega), List.getElem_append_left hj', ← getElem!_pos reps j hj']
    exact h j hj'
theorem OwnBits.alloc {w : World} {base : Nat} {f : Bmp} (h : OwnBits w base f) (o : Obj) : OwnBits (w.alloc o) base f := ⟨h.1, h.2.1.alloc o, h.2.2⟩
theorem OwnBms.fresh {w w' : World} {base B m : Nat} {v : Value} {R : Nat → Bmp} {f : Bmp} (h : OwnBms w base v m R) (hf : OwnBits w' B f) (hB : w.heap.size ≤ B) : ∀ k, k < m → (R k).bits.ownBlock ≠ f.bits.ownBlock := by
  intro k hk e
  obtain ⟨g, _, h2, _, h4, _⟩ := (h.2.1 k hk).blk
  obtain ⟨g', _, k2, k3, _⟩ := hf.blk
  rw [h2, k2] at e
  cases e
  omega
theorem OwnBms.mono {w : World} {base B m : Nat} {v : Value} {R : Nat → Bmp} (h : OwnBms w base v m R) (hb : B ≤ base) : OwnBms w B v m R := ⟨row_base h.1 hb, fun k hk => (h.2.1 k hk).mono hb, h.2.2⟩
theorem find_of_idx {l : List Nat} {p : Nat → Bool} {i : Nat} (h : l.findIdx? p = some i) : i < l.length ∧ l.find? p = some l[i]! := by
  rw [List.findIdx?_eq_some_iff_getElem] at h
  obtain ⟨h1, h2, h3⟩ := h
  refine ⟨h1, ?_⟩
  rw [List.find?_eq_some_iff_getElem, getElem!_pos l i h1]
  exact ⟨h2, i, h1, rfl, fun j hj => by simpa using h3 j hj⟩
theorem find_no_idx {l : List Nat} {p : Nat → Bool} (h : l.findIdx? p = none) : l.find? p = none := by
  rw [List.findIdx?_eq_none_iff] at h
  rw [List.find?_eq_none]
  exact fun x hx => by rw [h x hx]; simp
end Go.Proofs.Ytfniekdohidbiaa
