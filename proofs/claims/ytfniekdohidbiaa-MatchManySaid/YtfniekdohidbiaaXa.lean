/- A map from sizes to lists of numbers, each list in a row of its own. Conditions: the bounds that each theorem names. -/
import Derived.Test.YtfniekdohidbiaaVa
import Derived.Maps.OwnRows
import Derived.WideKeyEntry
import Derived.DeepKeys4
namespace Go.Proofs.Ytfniekdohidbiaa
open Go.RowKit Go.Bm
open Go.WideMaps (KeyLaw)
open Go.ChangeMaps (setBlock heap_setBlock_same heap_setBlock_other)
open Go.MapKept (Stamped)
def numsL (l : List Nat) : List Value := l.map fun i => .int .i64 (i : Nat)
theorem numsL_length (l : List Nat) : (numsL l).length = l.length := by unfold numsL; simp
theorem numsL_snoc (l : List Nat) (c : Nat) : numsL (l ++ [c]) = numsL l ++ [.int .i64 (c : Nat)] := by unfold numsL; simp
theorem numsL_one (l : List Nat) : ∀ u ∈ numsL l, u.oneCell' = true := by
  intro u hu
  unfold numsL at hu
  obtain ⟨i, _, rfl⟩ := List.mem_map.1 hu
  rfl
def sizeK (W H : Int) : Value := .agg #[.int .i64 W, .int .i64 H]
theorem sizeK_inj {W H W' H' : Int} (h : sizeK W H = sizeK W' H') : W = W' ∧ H = H' := by
  unfold sizeK at h
  simp at h
  exact h
theorem row61 : (61 : TypeId) < Try.prog.types.size := of_decide_eq_true (by kernel_rfl)
theorem laidOutP : laidOutB Try.prog = true := by kernel_rfl
theorem law61 : KeyLaw Try.prog 61 := deep_law_laid laidOutP (m := 2) (by omega) row61 (by kernel_rfl) (by kernel_rfl)
def InI (x : Int) : Prop := -9223372036854775808 ≤ x ∧ x ≤ 9223372036854775807
theorem c61 : Try.prog.cellsOf 61 = 2 := by kernel_rfl
theorem c3 : Try.prog.cellsOf 3 = 1 := by kernel_rfl
theorem kt61 : Try.prog.keyType 61 = true := by kernel_rfl
theorem wf64 {W : Int} (hw : InI W) : (Lit.int .i64 W).wf = true := by
  have h1 : IntKind.i64.min = -9223372036854775808 := by decide
  have h2 : IntKind.i64.max = 9223372036854775807 := by decide
  unfold InI at hw; simp only [Lit.wf]; simp [h1, h2]; omega
theorem lits3 (d : Nat) {W : Int} (hw : InI W) : Try.prog.keyLits (d + 1) 3 [.int .i64 W] = some [.int .i64 W] := by
  unfold Program.keyLits
  rw [Try.underlying3]
  simp [wf64 hw]
theorem lits61 (d : Nat) {W H : Int} (hw : InI W) (hh : InI H) : Try.prog.keyLits (d + 2) 61 [.int .i64 W, .int .i64 H] = some [.int .i64 W, .int .i64 H] := by
  unfold Program.keyLits
  rw [Try.underlying61]
  have e1 := lits3 d hw
  have e2 := lits3 d hh
  simp [c61, c3, e1, e2, List.mapM_cons, List.mapM_nil]
theorem key61 {W H : Int} (hw : InI W) (hh : InI H) : ∃ l, keyOf Try.prog 61 (sizeK W H) = some l := by
  have f1 : (sizeK W H).formed Try.prog 61 = true := by simp [sizeK, Value.formed, Try.underlying61, c61]
  unfold keyOf
  rw [Try.underlying61]
  simp only [kt61, f1, Bool.and_self, if_true]
  obtain ⟨d, hd⟩ : ∃ d, Try.prog.types.size = d + 1 := ⟨Try.prog.types.size - 1, by have : (61:Nat) < Try.prog.types.size := row61; omega⟩
  rw [hd]
  have := lits61 d hw hh
  exact ⟨_, by show Option.map _ (Try.prog.keyLits (d + 2) 61 [.int .i64 W, .int .i64 H]) = _; rw [this]; rfl⟩

/-- one entry of the map: its key, and its row of numbers -/
def EntOk (w : World) (base : Nat) (vc : Value) (G : Int → Int → List Nat) (x : MapEntry) : Prop :=
  ∃ W H, InI W ∧ InI H ∧ x.key = sizeK W H ∧ w.ownsRow base 3 1 x.val (G W H).length (numsL (G W H)) ∧ ∃ g, x.val.ownBlock = some g ∧ vc.ownBlock ≠ some g
/-- block b is a map from sizes to lists of numbers: each in a row of its own, apart from one another and from the row vc -/
def GMap (w : World) (base b : Nat) (vc : Value) (G : Int → Int → List Nat) : Prop :=
  b < base ∧ ∃ es clock, w.heap[b]? = some (.map es clock) ∧ Stamped es clock ∧ (∀ x ∈ es.toList, EntOk w base vc G x) ∧
    (∀ x ∈ es.toList, ∀ y ∈ es.toList, x.key ≠ y.key → x.val.ownBlock ≠ y.val.ownBlock) ∧
    (∀ W H, (∀ x ∈ es.toList, x.key ≠ sizeK W H) → G W H = [])
theorem EntOk.keyed {w : World} {base : Nat} {vc : Value} {G : Int → Int → List Nat} {x : MapEntry} (h : EntOk w base vc G x) : ∃ l, keyOf Try.prog 61 x.key = some l := by
  obtain ⟨W, H, h1, h2, h3, _⟩ := h
  rw [h3]
  exact key61 h1 h2
theorem GMap.made (w : World) (vc : Value) (base : Nat) (hb : w.heap.size < base) : GMap (w.alloc (.map #[] 0)) base w.heap.size vc (fun _ _ => []) :=
  ⟨hb, #[], 0, (MapKept.heap_alloc w _).1, MapKept.stamped_empty 0, by simp, by simp, fun _ _ _ => rfl⟩
theorem zero31 (w : World) : (zeroValue 31).run Try.prog w = .ok (.slice none 0 0) w := by kernel_rfl
theorem GMap.look {w : World} {base b : Nat} {vc : Value} {G : Int → Int → List Nat} (h : GMap w base b vc G) {W H : Int} (hW : InI W) (hH : InI H) :
    ∃ v, (Instr.lookup 59 (.map (some b)) (sizeK W H) false).run Try.prog w = .ok v w ∧ w.ownsRow base 3 1 v (G W H).length (numsL (G W H)) ∧ (v.ownBlock = none ∨ vc.ownBlock ≠ v.ownBlock) := by
  obtain ⟨hb, es, clock, hh, hst, hen, hap, hno⟩ := h
  obtain ⟨l, hl⟩ := key61 hW hH
  rcases law61.find w hl es.toList (fun e he => (hen e he).keyed) with ⟨h1, h2⟩ | ⟨j, e0, h1, h2, h3⟩
  · refine ⟨.slice none 0 0, by simp [Instr.lookup, run_underlying Try.underlying59, MapKept.run_getObj_map hh, law61.check w _ hl, h1, Result.andThen], ?_, Or.inl rfl⟩
    rw [hno W H h2]
    exact World.ownsRow_nil _ _ _ _
  · refine ⟨e0.val, by simp [Instr.lookup, run_underlying Try.underlying59, MapKept.run_getObj_map hh, law61.check w _ hl, h1, Result.andThen], ?_⟩
    obtain ⟨W', H', _, _, hk, ho, g0, hg0, hgc0⟩ := hen e0 (List.mem_of_getElem? h2)
    rw [h3] at hk
    obtain ⟨rfl, rfl⟩ := sizeK_inj hk
    exact ⟨ho, Or.inr (by rw [hg0]; exact hgc0)⟩
/-- the map with a number more at one size -/
def updG (G : Int → Int → List Nat) (W H : Int) (c : Nat) : Int → Int → List Nat := fun x y => if x = W ∧ y = H then G W H ++ [c] else G x y
theorem grown_setBlock {w : World} {b : Nat} {es es' : Array MapEntry} {clock clock' : Nat} (h : w.heap[b]? = some (.map es clock)) : w.grownBy (setBlock w b (.map es' clock')) (some b) :=
  ⟨rfl, rfl, rfl, by simp [setBlock], fun i _ hi => heap_setBlock_other h _ (fun e1 => hi (by rw [e1]))⟩
theorem ownsRow_block_ne {w : World} {base b n : Nat} {v : Value} {xs : List Value} {t : TypeId} {s : Nat} (h : w.ownsRow base t s v n xs) (hb : b < base) : v.ownBlock = none ∨ v.ownBlock ≠ some b := by
  by_cases e : v.ownBlock = some b
  · have := (h.lt b e).1; omega
  · exact Or.inr e

theorem GMap.entry {w : World} {base b : Nat} {vc : Value} {G : Int → Int → List Nat} (h : GMap w base b vc G) {W H : Int} (hW : InI W) (hH : InI H) (hvc : ∀ g, vc.ownBlock = some g → g < w.heap.size) :
    ∃ v0 st w1, (Instr.mapEntry 59 (.map (some b)) (sizeK W H)).run Try.prog w = .ok (.tuple #[v0, goInt st]) w1 ∧ w.grownBy w1 (some b) ∧ w1.heap.size = w.heap.size ∧ w1.ownsRow base 3 1 v0 (G W H).length (numsL (G W H)) ∧ (v0.ownBlock = none ∨ vc.ownBlock ≠ v0.ownBlock) ∧
      ∀ (w2 : World) (v' : Value) (c : Nat), w1.grownBy w2 v0.ownBlock → w2.ownsRow base 3 1 v' ((G W H).length + 1) (numsL (G W H ++ [c])) → (v'.ownBlock = v0.ownBlock ∨ ∃ g, v'.ownBlock = some g ∧ w1.heap.size ≤ g) →
        ∃ w3, (Instr.entryStore 59 (.map (some b)) (goInt st) v').run Try.prog w2 = .ok () w3 ∧ w2.grownBy w3 (some b) ∧ GMap w3 base b vc (updG G W H c) := by
  obtain ⟨hb, es, clock, hh, hst, hen, hap, hno⟩ := h
  obtain ⟨l, hl⟩ := key61 hW hH
  obtain ⟨s1, s2, s3⟩ := hst
  -- what holds of the entries behind the store, once it is known who stands there
  have fin : ∀ (w1 w2 w3 : World) (v0 v' : Value) (c : Nat) (es' : Array MapEntry) (clock' : Nat), w.grownBy w1 (some b) → w1.heap.size = w.heap.size → w1.grownBy w2 v0.ownBlock → w2.grownBy w3 (some b) → w2.ownsRow base 3 1 v' ((G W H).length + 1) (numsL (G W H ++ [c])) →
      (v'.ownBlock = v0.ownBlock ∨ ∃ g, v'.ownBlock = some g ∧ w1.heap.size ≤ g) → (∀ x ∈ es.toList, x.key ≠ sizeK W H → x.val.ownBlock ≠ v0.ownBlock) → (∀ g, v0.ownBlock = some g → vc.ownBlock ≠ some g) →
      w3.heap[b]? = some (.map es' clock') → Stamped es' clock' → (∀ x ∈ es'.toList, (x ∈ es.toList ∧ x.key ≠ sizeK W H) ∨ (x.key = sizeK W H ∧ x.val = v')) → (∀ x ∈ es.toList, x.key ≠ sizeK W H → x ∈ es'.toList) → (∃ x ∈ es'.toList, x.key = sizeK W H) →
      GMap w3 base b vc (updG G W H c) := by
    intro w1 w2 w3 v0 v' c es' clock' hg1 hsz hg2 hg3 hown hloc hne0 hv0 hh3 hst3 hwho hstay hin
    have hv3 : w3.ownsRow base 3 1 v' ((G W H).length + 1) (numsL (G W H ++ [c])) := hown.kept hg3 (ownsRow_block_ne hown hb)
    obtain ⟨gv, hgv⟩ : ∃ g, v'.ownBlock = some g := by
      obtain ⟨_, hform⟩ := hown
      rcases hform with ⟨_, hz⟩ | ⟨g, cap, cur, rfl, _⟩
      · omega
      · exact ⟨g, rfl⟩
    refine ⟨hb, es', clock', hh3, hst3, fun x hx => ?_, fun x hx y hy hxy => ?_, fun W' H' hn => ?_⟩
    · rcases hwho x hx with ⟨hx0, hk0⟩ | ⟨hk0, hv0'⟩
      · obtain ⟨W', H', i1, i2, hk, ho, g, hg, hgc⟩ := hen x hx0
        refine ⟨W', H', i1, i2, hk, ?_, g, hg, hgc⟩
        have hne : ¬ (W' = W ∧ H' = H) := by rintro ⟨rfl, rfl⟩; exact hk0 hk
        unfold updG
        rw [if_neg hne]
        exact ((ho.kept hg1 (ownsRow_block_ne ho hb)).kept hg2 (Or.inr (hne0 x hx0 hk0))).kept hg3 (ownsRow_block_ne ho hb)
      · refine ⟨W, H, hW, hH, hk0, ?_, gv, by rw [hv0']; exact hgv, ?_⟩
        · unfold updG
          rw [if_pos ⟨rfl, rfl⟩, hv0', List.length_append]
          exact hv3
        · rcases hloc with h1 | ⟨g, h1, h2⟩
          · exact hv0 gv (by rw [← h1]; exact hgv)
          · intro he
            have := hvc gv he
            rw [hgv] at h1
            cases h1
            omega
    · rcases hwho x hx with ⟨hx0, hxk⟩ | ⟨hxk, hxv⟩ <;> rcases hwho y hy with ⟨hy0, hyk⟩ | ⟨hyk, hyv⟩
      · exact hap x hx0 y hy0 hxy
      · rw [hyv]
        rcases hloc with h1 | ⟨g, h1, h2⟩
        · rw [h1]; exact hne0 x hx0 hxk
        · obtain ⟨_, _, _, _, _, ho, gx, hgx, _⟩ := hen x hx0
          have := (ho.lt gx hgx).2
          rw [h1, hgx]
          intro he
          cases he
          omega
      · rw [hxv]
        rcases hloc with h1 | ⟨g, h1, h2⟩
        · rw [h1]; exact fun he => hne0 y hy0 hyk he.symm
        · obtain ⟨_, _, _, _, _, ho, gy, hgy, _⟩ := hen y hy0
          have := (ho.lt gy hgy).2
          rw [h1, hgy]
          intro he
          cases he
          omega
      · exact absurd (hxk.trans hyk.symm) hxy
    · have hne : ¬ (W' = W ∧ H' = H) := by
        rintro ⟨rfl, rfl⟩
        obtain ⟨x, hx, hk⟩ := hin
        exact hn x hx hk
      unfold updG
      rw [if_neg hne]
      refine hno W' H' fun x hx hk => hn x (hstay x hx fun hk2 => hne (sizeK_inj (hk.symm.trans hk2))) hk
  rcases law61.find w hl es.toList (fun e he => (hen e he).keyed) with ⟨h1, h2⟩ | ⟨j, e0, h1, h2, h3⟩
  · refine ⟨.slice none 0 0, clock, setBlock w b (.map (es.push ⟨sizeK W H, .slice none 0 0, clock⟩) (clock + 1)), ?_, grown_setBlock hh, by simp [setBlock], ?_, ?_⟩
    · simp [Instr.mapEntry, run_underlying Try.underlying59, MapKept.run_getObj_map hh, law61.check w false hl, h1, MapKept.run_setObj_map _ hh, Result.andThen, setBlock]
    · rw [hno W H h2]; exact World.ownsRow_nil _ _ _ _
    · refine ⟨Or.inl rfl, ?_⟩
      intro w2 v' c hg2 hown hloc
      have hw2 : w2.heap[b]? = some (.map (es.push ⟨sizeK W H, .slice none 0 0, clock⟩) (clock + 1)) := by
        rw [hg2.block b (by simp [setBlock]; exact (Array.getElem?_eq_some_iff.1 hh).1) (by simp [Value.ownBlock])]
        exact heap_setBlock_same hh _
      have hidx : (es.push ⟨sizeK W H, .slice none 0 0, clock⟩).findIdx? (fun e => ((e.born : Nat) : Int) == ((clock : Nat) : Int)) = some es.size := by
        rw [WideElems.findIdx_arr]
        have := WideElems.findIdx_born (l := (es.push ⟨sizeK W H, .slice none 0 0, clock⟩).toList) (j := es.size) (e0 := ⟨sizeK W H, .slice none 0 0, clock⟩) (by
          simp only [Array.toList_push, List.map_append, List.map_cons, List.map_nil]
          refine List.nodup_append.2 ⟨s2, by simp, fun a ha c hc e1 => ?_⟩
          simp only [List.mem_singleton] at hc
          obtain ⟨x, hx, rfl⟩ := List.mem_map.1 ha
          have := s1 x hx
          omega) (by simp)
        exact this
      have hmod : (es.push ⟨sizeK W H, .slice none 0 0, clock⟩).modify es.size (fun e => { e with val := v' }) = es.push ⟨sizeK W H, v', clock⟩ := by
        apply Array.ext'
        rw [Array.toList_modify, Array.toList_push, Array.toList_push, ← Array.length_toList, WideElems.modify_last]
      refine ⟨setBlock w2 b (.map (es.push ⟨sizeK W H, v', clock⟩) (clock + 1)), ?_, grown_setBlock hw2, ?_⟩
      · simp [Instr.entryStore, MapKept.run_getObj_map hw2, asInt, asIntOf, goInt, hidx, hmod, MapKept.run_setObj_map _ hw2, Result.andThen, setBlock]
      · refine fin _ _ _ (.slice none 0 0) v' c (es.push ⟨sizeK W H, v', clock⟩) (clock + 1) (grown_setBlock hh) (by simp [setBlock]) hg2 (grown_setBlock hw2) hown hloc (fun x hx _ => ?_) (by simp [Value.ownBlock]) (heap_setBlock_same hw2 _) ⟨?_, ?_, ?_⟩ (fun x hx => ?_) (fun x hx _ => by simp [hx]) ⟨⟨sizeK W H, v', clock⟩, by simp, rfl⟩
        · obtain ⟨_, _, _, _, _, _, g, hg, _⟩ := hen x hx
          rw [hg]; simp [Value.ownBlock]
        · intro x hx
          rcases (by simpa using hx : x ∈ es ∨ x = ⟨sizeK W H, v', clock⟩) with hx | rfl
          · have := s1 x (by simpa using hx); omega
          · exact Nat.lt_succ_self _
        · simp only [Array.toList_push, List.map_append, List.map_cons, List.map_nil]
          refine List.nodup_append.2 ⟨s2, by simp, fun a ha c hc e1 => ?_⟩
          simp only [List.mem_singleton] at hc
          obtain ⟨x, hx, rfl⟩ := List.mem_map.1 ha
          have := s1 x hx
          omega
        · simp only [Array.toList_push, List.map_append, List.map_cons, List.map_nil]
          refine List.nodup_append.2 ⟨s3, by simp, fun a ha c hc e1 => ?_⟩
          simp only [List.mem_singleton] at hc
          obtain ⟨x, hx, rfl⟩ := List.mem_map.1 ha
          exact h2 x hx (e1.trans hc)
        · rcases (by simpa using hx : x ∈ es ∨ x = ⟨sizeK W H, v', clock⟩) with hx | rfl
          · exact Or.inl ⟨by simpa using hx, h2 x (by simpa using hx)⟩
          · exact Or.inr ⟨rfl, rfl⟩
  · have hj : es[j]? = some e0 := by simpa using h2
    have hm0 : e0 ∈ es.toList := List.mem_of_getElem? h2
    have hsame : es.modify j (fun e => { e with key := sizeK W H }) = es := by
      apply Array.ext'
      rw [Array.toList_modify, ChangeMaps.modify_eq_set _ _ _ _ h2]
      have : ({ e0 with key := sizeK W H } : MapEntry) = e0 := by rw [← h3]
      rw [this]
      exact WideElems.set_self _ _ _ h2
    obtain ⟨W', H', _, _, hk, ho, g0, hg0, hgc0⟩ := hen e0 hm0
    rw [h3] at hk
    obtain ⟨rfl, rfl⟩ := sizeK_inj hk
    have hsb : setBlock w b (.map es clock) = w := by
      unfold setBlock
      congr 1
      apply Array.ext'
      rw [Array.toList_setIfInBounds]
      exact WideElems.set_self _ _ _ (by rw [Array.getElem?_toList]; exact hh)
    refine ⟨e0.val, e0.born, w, ?_, grown_refl w _, rfl, ho, Or.inr (by rw [hg0]; exact hgc0), ?_⟩
    · have hrun : (Instr.mapEntry 59 (.map (some b)) (sizeK W H)).run Try.prog w = .ok (.tuple #[e0.val, goInt e0.born]) (setBlock w b (.map es clock)) := by
        simp [Instr.mapEntry, run_underlying Try.underlying59, MapKept.run_getObj_map hh, law61.check w false hl, h1, hj, h3, law61.stays w hl, hsame, MapKept.run_setObj_map _ hh, Result.andThen, setBlock]
      rw [hrun, hsb]
    · intro w2 v' c hg2 hown hloc
      have hw2 : w2.heap[b]? = some (.map es clock) := by
        rw [hg2.block b (Array.getElem?_eq_some_iff.1 hh).1 (by rw [hg0]; intro he; cases he; have := (ho.lt _ hg0).1; omega)]
        exact hh
      have hidx : es.findIdx? (fun e => ((e.born : Nat) : Int) == ((e0.born : Nat) : Int)) = some j := by
        rw [WideElems.findIdx_arr]
        exact WideElems.findIdx_born s2 h2
      have hset : (es.modify j (fun e => { e with val := v' })).toList = es.toList.set j { e0 with val := v' } := by
        rw [Array.toList_modify, ChangeMaps.modify_eq_set _ _ _ _ h2]
      have hjl : j < es.toList.length := (List.getElem?_eq_some_iff.1 h2).1
      have hej : es.toList[j] = e0 := (List.getElem?_eq_some_iff.1 h2).2
      have hborn : (es.toList.set j { e0 with val := v' }).map (·.born) = es.toList.map (·.born) := by
        rw [List.map_set]
        exact WideElems.set_self _ _ _ (by rw [List.getElem?_map, h2]; rfl)
      have hkeys : (es.toList.set j { e0 with val := v' }).map (·.key) = es.toList.map (·.key) := by
        rw [List.map_set]
        exact WideElems.set_self _ _ _ (by rw [List.getElem?_map, h2]; rfl)
      have hwhoset : ∀ x ∈ es.toList.set j { e0 with val := v' }, (x ∈ es.toList ∧ x.key ≠ sizeK W H) ∨ (x.key = sizeK W H ∧ x.val = v') := by
        intro x hx
        obtain ⟨i, hi, rfl⟩ := List.mem_iff_getElem.1 hx
        rw [List.getElem_set]
        by_cases e : j = i
        · rw [if_pos e]; exact Or.inr ⟨h3, rfl⟩
        · rw [if_neg e]
          have hi' : i < es.toList.length := by simpa using hi
          refine Or.inl ⟨List.getElem_mem _, fun hk2 => e ?_⟩
          have hnd := (List.getElem_inj (i := i) (j := j) (h₀ := by simpa using hi') (h₁ := by simpa using hjl) s3).1 (by simp only [List.getElem_map]; rw [hk2, hej, h3])
          exact hnd.symm
      refine ⟨setBlock w2 b (.map (es.modify j (fun e => { e with val := v' })) clock), ?_, grown_setBlock hw2, ?_⟩
      · simp [Instr.entryStore, MapKept.run_getObj_map hw2, asInt, asIntOf, goInt, hidx, MapKept.run_setObj_map _ hw2, Result.andThen, setBlock]
      · refine fin w w2 _ e0.val v' c (es.modify j (fun e => { e with val := v' })) clock (grown_refl w _) rfl hg2 (grown_setBlock hw2) hown hloc (fun x hx hk => hap x hx e0 hm0 (by rw [h3]; exact hk)) (fun g hg => by rw [hg0] at hg; cases hg; exact hgc0) (heap_setBlock_same hw2 _) ⟨?_, ?_, ?_⟩ ?_ ?_ ⟨{ e0 with val := v' }, ?_, h3⟩
        · intro x hx
          rw [hset] at hx
          have : x.born ∈ (es.toList.set j { e0 with val := v' }).map (·.born) := List.mem_map.2 ⟨x, hx, rfl⟩
          rw [hborn] at this
          obtain ⟨y, hy, he⟩ := List.mem_map.1 this
          rw [← he]; exact s1 y hy
        · rw [hset, hborn]; exact s2
        · rw [hset, hkeys]; exact s3
        · rw [hset]; exact hwhoset
        · intro x hx hk
          rw [hset]
          obtain ⟨i, hi, rfl⟩ := List.mem_iff_getElem.1 hx
          refine List.mem_iff_getElem.2 ⟨i, by simpa using hi, ?_⟩
          rw [List.getElem_set, if_neg]
          rintro rfl
          rw [hej] at hk
          exact hk h3
        · rw [hset]; exact List.mem_iff_getElem.2 ⟨j, by simpa using hjl, by simp⟩
/-- what turns another block leaves the map as it was; the row that it keeps apart from may move -/
theorem GMap.kept {w w' : World} {base b : Nat} {vc vc' : Value} {G : Int → Int → List Nat} {row : Option Nat} (h : GMap w base b vc G) (hg : w.grownBy w' row) (hb : row ≠ some b)
    (hrow : ∀ g, row = some g → g < base ∨ vc.ownBlock = some g ∨ ∀ cur fr, w.heap[g]? ≠ some (.cells cur 3 fr)) (hvc : vc'.ownBlock = vc.ownBlock ∨ ∃ g, vc'.ownBlock = some g ∧ w.heap.size ≤ g) : GMap w' base b vc' G := by
  obtain ⟨hbb, es, clock, hh, hst, hen, hap, hno⟩ := h
  refine ⟨hbb, es, clock, (hg.block b (Array.getElem?_eq_some_iff.1 hh).1 (fun e => hb e.symm)).trans hh, hst, fun x hx => ?_, hap, hno⟩
  obtain ⟨W, H, i1, i2, hk, ho, g, hgx, hgc⟩ := hen x hx
  refine ⟨W, H, i1, i2, hk, ho.kept hg (Or.inr fun he => ?_), g, hgx, ?_⟩
  · rw [hgx] at he
    rcases hrow g he.symm with h1 | h1 | h1
    · have := (ho.lt g hgx).1; omega
    · exact hgc h1
    · obtain ⟨_, hform⟩ := ho
      rcases hform with ⟨h2, _⟩ | ⟨g', cap, cur, h2, _, h3, _⟩
      · rw [h2] at hgx; cases hgx
      · rw [h2] at hgx; cases hgx
        exact h1 _ _ h3
  · rcases hvc with h1 | ⟨g', h1, h2⟩
    · rw [h1]; exact hgc
    · rw [h1]
      intro he
      cases he
      have := (ho.lt g hgx).2
      omega
end Go.Proofs.Ytfniekdohidbiaa
