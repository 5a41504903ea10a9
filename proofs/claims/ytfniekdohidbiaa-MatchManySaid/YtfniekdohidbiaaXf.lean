/- An append that leaves the old row as it was; OverInts, EqMatching. Conditions: the bounds that each theorem names. -/
import Derived.Test.YtfniekdohidbiaaXe
namespace Go.Proofs.Ytfniekdohidbiaa
open Go.RowKit Go.Bm
section
variable {P : Program}
theorem run_append_keep (w : World) (base : Nat) (t ty e : TypeId) (i : TypeInfo) (z : Value) (bytes : Nat) (ht : P.underlying t = some (.slice e)) (hi : P.info? e = some i) (hz : i.zero = some z)
    (hsize : i.size = 1) (hby : i.bytes = bytes) (hzs : z.cells.size = 1) (v : Value) (n : Nat) (xs : List Value) (hown : w.ownsRow base e 1 v n xs)
    (a : Addr) (m c : Nat) (news : List Value) (hl : news.length = m) (hnews : ∀ j u, news[j]? = some u → w.cell? (a.add j) = some u) (h1 : ∀ u ∈ news, u.oneCell' = true)
    (h63 : n + m ≤ maxLen) (hbytes : (n + m) * bytes ≤ 140737488355328) (hbase : base ≤ w.heap.size) :
    ∃ v' w', (Builtin.append_ #[t, t] ty #[v, .slice (some a) m c]).run P w = .ok v' w' ∧ w'.ownsRow base e 1 v' (n + m) (xs ++ news) ∧ w'.ownsRow base e 1 v n xs ∧ w.grownBy w' v.ownBlock ∧
      (v'.ownBlock = v.ownBlock ∨ v'.ownBlock = some w.heap.size ∨ v' = .slice none 0 0) := by
  subst hby
  have hl2 : news.length = m * 1 := by omega
  obtain ⟨v', w', hr, h2, h3, h4, h5⟩ := run_append_own_at (P := P) w base t ty e i z 1 i.bytes ht hi hz hsize rfl hzs (by omega) v n xs hown a m c news hl2 hnews h1 h63 hbytes hbase
  refine ⟨v', w', hr, h2, ?_, h3, h5.elim Or.inl (fun h => Or.inr (Or.inl h))⟩
  rcases hown.2 with ⟨rfl, rfl⟩ | ⟨g, cap, cur, rfl, hbg, hg, hnc, hcm, hcs, htake⟩
  · have hx : xs = [] := List.eq_nil_of_length_eq_zero (by simpa using hown.1)
    subst hx
    exact World.ownsRow_nil _ _ _ _
  · by_cases hroom : n + m ≤ cap
    · rcases h5 with h5 | h5
      · rcases h2.2 with ⟨hv, h0⟩ | ⟨g', cap', cur', hv, hbg', hg', hnc', hcm', hcs', htake'⟩
        · rw [hv] at h5; cases h5
        · rw [hv] at h5
          obtain rfl : g' = g := by simpa [Value.ownBlock] using h5
          have hsz : cur'.size = cap * 1 := by
            have hfit : n * 1 + news.length ≤ cur.size := by rw [hl, hcs]; omega
            have hr2 := run_append_room (P := P) w t ty e i ht hi g' n cap cur hg a m c news (by rw [hsize]; exact hl2) hnews h1 hroom (by rw [hsize]; exact hfit)
            rw [hr] at hr2
            obtain ⟨e1, e2⟩ := by simpa using hr2
            subst e2
            rw [setRow_heap w g' cur _ e _ hg] at hg'
            simp only [Option.some.injEq, Obj.cells.injEq] at hg'
            obtain ⟨e3, _⟩ := hg'
            rw [← e3]
            simp only [List.size_toArray, List.length_append, List.length_take, List.length_drop, Array.length_toList]
            rw [hsize]
            omega
          refine ⟨hown.1, Or.inr ⟨g', cap, cur', rfl, hbg, hg', hnc, hcm, hsz, ?_⟩⟩
          have e5 : cur'.toList.take (n * 1) = (cur'.toList.take ((n + m) * 1)).take (n * 1) := by rw [List.take_take]; congr 1; omega
          rw [e5, htake', List.take_left' hown.1]
      · exfalso
        have hfit : n * 1 + news.length ≤ cur.size := by rw [hl, hcs]; omega
        have hr2 := run_append_room (P := P) w t ty e i ht hi g n cap cur hg a m c news (by rw [hsize]; exact hl2) hnews h1 hroom (by rw [hsize]; exact hfit)
        rw [hr] at hr2
        obtain ⟨e1, e2⟩ := by simpa using hr2
        rw [e1] at h5
        have := (hown.lt g rfl).2
        simp [Value.ownBlock] at h5
        omega
    · have holds : ∀ j u, xs[j]? = some u → w.cell? ((⟨g, 0, none⟩ : Addr).add j) = some u := hown.cells (g := g) rfl
      have hr2 := run_append_grow (P := P) w t ty e i z ht hi hz ⟨g, 0, none⟩ n cap xs (by rw [hsize]; exact hown.1) holds a m c news (by rw [hsize]; exact hl2) hnews (by omega) (by simp only [maxLen] at h63; omega) (growslice_fits (by omega) hbytes)
      rw [hr] at hr2
      obtain ⟨e1, e2⟩ := by simpa using hr2
      subst e2
      exact hown.kept (row := none) ⟨rfl, rfl, rfl, by simp, fun k hk _ => Below.heap_alloc w.drew _ k hk⟩ (Or.inr (by simp [Value.ownBlock]))
theorem wpList_append_keep {w : World} {ops : Array Oper} {rest : List Oper} {o : Oper} {a : Act} {Q : Exit → Act → World → Prop} (hgd : o.guard = none) (s x : Operand) (t : TypeId)
    (ho : o.op = .call { callee := .builtin .append, args := #[s, x], argTypes := #[t, t] })
    (base : Nat) (e : TypeId) (i : TypeInfo) (z : Value) (bytes : Nat) (ht : P.underlying t = some (.slice e)) (hi : P.info? e = some i) (hz : i.zero = some z)
    (hsize : i.size = 1) (hby : i.bytes = bytes) (hzs : z.cells.size = 1)
    (v : Value) (n : Nat) (xs : List Value) (hs : a.eval s = v) (hown : w.ownsRow base e 1 v n xs)
    (ad : Addr) (m c : Nat) (news : List Value) (hx : a.eval x = .slice (some ad) m c) (hl : news.length = m) (hnews : ∀ j u, news[j]? = some u → w.cell? (ad.add j) = some u) (h1 : ∀ u ∈ news, u.oneCell' = true)
    (h63 : n + m ≤ maxLen) (hbytes : (n + m) * bytes ≤ 140737488355328) (hbase : base ≤ w.heap.size)
    (h : ∀ v' w', w'.ownsRow base e 1 v' (n + m) (xs ++ news) → w'.ownsRow base e 1 v n xs → w.grownBy w' v.ownBlock → (v'.ownBlock = v.ownBlock ∨ v'.ownBlock = some w.heap.size ∨ v' = .slice none 0 0) → wpList P ops Q rest (a.put o.dst v') w') :
    wpList P ops Q (o :: rest) a w := by
  refine wpList_plain hgd fun K hK => ?_
  obtain ⟨v', w', hr, h2, h3, h4, h5⟩ := run_append_keep (P := P) w base t o.type e i z bytes ht hi hz hsize hby hzs v n xs hown ad m c news hl hnews h1 h63 hbytes hbase
  unfold Oper.wp execOp
  simp only [ho, resolve, invoke, builtin, Sem.run_bind, Sem.run_pure, Result.andThen_ok, List.map_toArray, List.map_cons, List.map_nil, hs, hx, hr]
  exact hK _ _ (h v' w' h2 h3 h4 h5)
end
end Go.Proofs.Ytfniekdohidbiaa
