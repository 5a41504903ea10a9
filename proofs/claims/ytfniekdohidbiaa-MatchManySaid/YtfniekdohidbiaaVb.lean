/- The order of package match: the walk of Order. Conditions: the bounds that each theorem names. -/
import Derived.Test.YtfniekdohidbiaaVz
import Derived.Test.YtfniekdohidbiaaSi
namespace Go.Proofs.Ytfniekdohidbiaa
open Go.RowKit Go.Bm Go.Sort

/-- bitmap i ahead of bitmap k: by height, width, number -/
def ahead (F : Nat → Bmp) (i k : Nat) : Prop := (F i).H < (F k).H ∨ (F i).H = (F k).H ∧ ((F i).W < (F k).W ∨ (F i).W = (F k).W ∧ i < k)
def cfF (F : Nat → Bmp) (n : Nat) (i k : Fin n) : Int := cfI (F i.val).W (F i.val).H (F k.val).W (F k.val).H (i.val : Int) (k.val : Int)
theorem cfI_neg (w1 h1 w2 h2 i k : Int) : cfI w1 h1 w2 h2 i k < 0 ↔ h1 < h2 ∨ h1 = h2 ∧ (w1 < w2 ∨ w1 = w2 ∧ i < k) := by
  unfold cfI
  split
  · split <;> omega
  · omega
theorem cfF_lt (F : Nat → Bmp) (n : Nat) (i k : Fin n) : ltOf (cfF F n) i k = true ↔ ahead F i.val k.val := by
  unfold ltOf cfF ahead
  rw [decide_eq_true_iff, cfI_neg]
  omega
theorem cfF_swo (F : Nat → Bmp) (n : Nat) : Go.Sort.SWO (ltOf (cfF F n)) := by
  refine ⟨fun x => ?_, fun x y z h k => ?_, fun x y z h k => ?_⟩
  · rw [← Bool.not_eq_true, cfF_lt]; unfold ahead; omega
  · rw [cfF_lt] at h k ⊢; unfold ahead at *; omega
  · rw [← Bool.not_eq_true, cfF_lt] at h k ⊢; unfold ahead at *; omega
def encF (n : Nat) (i : Fin n) : Value := .int .i64 (i.val : Int)
theorem encF_one (n : Nat) : OneCell (encF n) := fun _ => rfl
/-- what lies below a bound that the row does not reach is kept by a sort -/
theorem below_sort {α : Type} [Inhabited α] (enc : α → Value) (w : World) (B blk off m : Nat) (d : Array α) (os : Array Obj) (hB : B ≤ blk) (hw : B ≤ w.heap.size) : Below B w (sortWorld enc w blk off m d os) := by
  refine ⟨rfl, rfl, rfl, ?_, fun k hk => ?_⟩
  · show w.heap.size ≤ ((w.heap.modify blk _) ++ os).size
    rw [Array.size_append, Array.size_modify]; omega
  · show ((w.heap.modify blk _) ++ os)[k]? = w.heap[k]?
    rw [Array.getElem?_append_left (by rw [Array.size_modify]; omega), Array.getElem?_modify, if_neg (by omega)]
/-- the numbers below n, each once, in the order of package match -/
def Sorted (F : Nat → Bmp) (n : Nat) (l : List Nat) : Prop := l.Perm (List.range n) ∧ l.Pairwise (ahead F)

theorem perm_range {n : Nat} [Inhabited (Fin n)] {d' : Array (Fin n)} (hp : Go.Sort.PermIn 0 n (Array.ofFn (fun i : Fin n => i)) d') : (d'.toList.map Fin.val).Perm (List.range n) := by
  obtain ⟨h1, _, h2⟩ := hp
  have hz : (Array.ofFn (fun i : Fin n => i)).size = n := Array.size_ofFn
  have e1 : d'.extract 0 n = d' := by
    apply Array.ext
    · rw [Array.size_extract, h1, hz]; omega
    · intro i h1 h2
      simp
  have e2 : (Array.ofFn (fun i : Fin n => i)).extract 0 n = Array.ofFn (fun i : Fin n => i) := by
    apply Array.ext
    · simp
    · intro i h1 h2
      simp
  rw [e1, e2] at h2
  have h3 := h2.map Fin.val
  have e3 : (Array.ofFn (fun i : Fin n => i)).toList.map Fin.val = List.range n := by
    apply List.ext_getElem
    · simp
    · intro i h1 h2
      simp
  rwa [e3] at h3
theorem enters37 : ∀ args w, (callFunc 37 args).run Try.prog w = .ok (.enter 37 args) w := enters_of Try.func37 (by kernel_rfl) rfl
theorem sort36 (bx b off n cap g cap' : Nat) (F : Nat → Bmp) (w : World) (B : Nat) (hL : IsBms w (some ⟨b, off, none⟩) n cap F) (h0 : 0 < n) (hn : n ≤ 1048576) (hok : ∀ i, i < n → (F i).ok)
    (cb : w.cell? ⟨bx, 0, none⟩ = some (.slice (some ⟨b, off, none⟩) n cap)) (hx : bx < B) (hbB : b < B) (hB : B ≤ w.heap.size)
    (hown : w.ownsRow B 3 1 (.slice (some ⟨g, 0, none⟩) n cap') n (nums n)) :
    Calls Try.prog 36 #[.slice (some ⟨g, 0, none⟩) n cap', .func (.func 37) #[] #[.pointer (some ⟨bx, 0, none⟩)]] w fun e w' => e = .returned (.tuple #[]) ∧
      Below B w w' ∧ ∃ l, Sorted F n l ∧ IsInts w' (some ⟨g, 0, none⟩) n cap' (fun i => (l[i]! : Nat)) := by
  obtain ⟨_, hform⟩ := hown
  rcases hform with ⟨hxx, _⟩ | ⟨g', c', cur, hxx, hgB, hh, hnn, hcc, _, ht⟩
  · cases hxx
  cases hxx
  haveI : Inhabited (Fin n) := ⟨⟨0, h0⟩⟩
  have hgl : g < w.heap.size := (Array.getElem?_eq_some_iff.1 hh).1
  have hcur : ∀ i, i < n → cur[i]? = some (.int .i64 (i : Nat)) := by
    intro i hi
    have e2 : cur.toList[i]? = (nums n)[i]? := by rw [← ht, List.getElem?_take, if_pos (by omega)]
    rw [← Array.getElem?_toList, e2]
    unfold nums
    simp [hi]
  have hsz : (Array.ofFn (fun i : Fin n => i)).size = n := Array.size_ofFn
  have hH : Holds (encF n) w g 0 (Array.ofFn (fun i : Fin n => i)) := by
    intro j hj
    rw [hsz] at hj
    refine ⟨?_, Joins.unfrozen_of_block hh _⟩
    rw [Joins.cell_of_block hh, Nat.zero_add, hcur j hj, getElem!_pos _ j (by rw [hsz]; exact hj), Array.getElem_ofFn]
    rfl
  have hcmp : CmpLays1 Try.prog 37 #[.pointer (some ⟨bx, 0, none⟩)] (encF n) (cfF F n) g 0 (Array.ofFn (fun i : Fin n => i)).size w := by
    intro m os dk _ x y
    have hbel : Below B w (sortWorld (encF n) w g 0 m dk os) := below_sort _ _ _ _ _ _ _ _ hgB hB
    rcases hL with h | ⟨b', off', he, hnc, hcap, hbs, hrow⟩
    · omega
    cases he
    obtain ⟨x0, x1, x2, _⟩ := hrow x.val x.isLt
    obtain ⟨y0, y1, y2, _⟩ := hrow y.val y.isLt
    have ox := okS_le (hok x.val x.isLt).1
    have oy := okS_le (hok y.val y.isLt).1
    have px := (hok x.val x.isLt).1
    have py := (hok y.val y.isLt).1
    exact cmp37 bx b off n cap x.val y.val _ _ _ _ _ _ _ _ _ _ _ ((hbel.cell (p := ⟨bx, 0, none⟩) hx).trans cb)
      ((hbel.cell (p := ⟨b, off + x.val * 3, none⟩) hbB).trans x0) ((hbel.cell (p := ⟨b, off + x.val * 3 + 1, none⟩) hbB).trans x1) ((hbel.cell (p := ⟨b, off + x.val * 3 + 2, none⟩) hbB).trans x2)
      ((hbel.cell (p := ⟨b, off + y.val * 3, none⟩) hbB).trans y0) ((hbel.cell (p := ⟨b, off + y.val * 3 + 1, none⟩) hbB).trans y1) ((hbel.cell (p := ⟨b, off + y.val * 3 + 2, none⟩) hbB).trans y2)
      x.isLt y.isLt (by omega) ⟨by have := px.1; omega, ox.1⟩ ⟨by have := px.2.1; omega, ox.2⟩ ⟨by have := py.1; omega, oy.1⟩ ⟨by have := py.2.1; omega, oy.2⟩
  have hS := Try.slices_SortFunc (encF n) (encF_one n) (cfF F n) (cfF_swo F n) 37 #[.pointer (some ⟨bx, 0, none⟩)] g 0 cap' (Array.ofFn (fun i : Fin n => i)) w enters37 hcmp hH hgl (by omega)
  rw [hsz] at hS
  refine hS.mono ?_
  rintro e w' ⟨he, d', m, os, hp, hs, rfl⟩
  refine ⟨he, below_sort _ _ _ _ _ _ _ _ hgB hB, d'.toList.map Fin.val, ⟨?_, ?_⟩, Or.inr ⟨g, 0, rfl, hnn, by unfold maxLen at hcc; exact hcc, ?_, ?_⟩⟩
  · exact perm_range hp
  · have hnd : (d'.toList.map Fin.val).Nodup := (perm_range hp).symm.nodup List.nodup_range
    rw [List.pairwise_iff_getElem]
    intro i j hi hj hij
    rw [List.length_map, Array.length_toList] at hi hj
    have hne : (d'.toList.map Fin.val)[i]'(by simpa using hi) ≠ (d'.toList.map Fin.val)[j]'(by simpa using hj) := by
      intro he
      have := (List.getElem_inj hnd).1 he
      omega
    rw [List.getElem_map, List.getElem_map, Array.getElem_toList, Array.getElem_toList] at hne ⊢
    have h1 := hs i j (Nat.zero_le _) hij (by have := hp.1; rw [hsz] at this; omega)
    rw [getElem!_pos d' j hj, getElem!_pos d' i hi, ← Bool.not_eq_true, cfF_lt] at h1
    unfold ahead at h1 ⊢
    omega
  · exact lt_sortWorld _ _ _ _ _ _ _ hgl
  · intro i hi
    have h1 := (holds_sortWorld (encF n) w g 0 m (Array.ofFn (fun i : Fin n => i)) d' os hgl hH hp.1 i (by rw [hp.1, hsz]; exact hi)).1
    have hi' : i < d'.size := by rw [hp.1, hsz]; exact hi
    have hm : (d'.toList.map Fin.val)[i]! = (d'[i]'hi').val := by
      rw [getElem!_pos (d'.toList.map Fin.val) i (by rw [List.length_map, Array.length_toList]; exact hi'), List.getElem_map, Array.getElem_toList]
    rw [h1, getElem!_pos d' i hi']
    show some (Value.int .i64 ((d'[i]'hi').val : Int)) = some (.int .i64 (((d'.toList.map Fin.val)[i]! : Nat) : Int))
    rw [hm]

set_option maxHeartbeats 1000000 in
set_option maxRecDepth 100000 in
theorem order20 (b off n cap : Nat) (F : Nat → Bmp) (w : World) (hL : IsBms w (some ⟨b, off, none⟩) n cap F) (hn : n ≤ 1048576) (h0 : 0 < n) (hok : ∀ i, i < n → (F i).ok) :
    Calls Try.prog 20 #[.slice (some ⟨b, off, none⟩) n cap] w fun e w' => ∃ g c' l, e = .returned (.tuple #[.slice (some ⟨g, 0, none⟩) n c', .int .i64 0]) ∧ Sorted F n l ∧ IsInts w' (some ⟨g, 0, none⟩) n c' (fun i => (l[i]! : Nat)) ∧ Below w.heap.size w w' := by
  obtain ⟨i0, hi, hz0, hz1, hz2⟩ := info_parts infoI
  go_enter Try.func20, Try.ntmps20
  go_upto_region 1 with fail
  have hL1 := Lib.hid (hL.below ((Below.refl _ w).alloc (Nat.le_refl _) (.cells #[.slice (some ⟨b, off, none⟩) n cap] 22)))
  have cb : (w.alloc (.cells #[.slice (some ⟨b, off, none⟩) n cap] 22)).cell? ⟨w.heap.size, 0, none⟩ = some (.slice (some ⟨b, off, none⟩) n cap) := by rw [World.cell?_alloc_at _ _ _ _ rfl]; rfl
  have hs1 : (w.alloc (.cells #[.slice (some ⟨b, off, none⟩) n cap] 22)).heap.size = w.heap.size + 1 := by simp
  have hbw : Below w.heap.size w (w.alloc (.cells #[.slice (some ⟨b, off, none⟩) n cap] 22)) := (Below.refl _ w).alloc (Nat.le_refl _) _
  obtain ⟨W0, hW0⟩ : ∃ W0, w.heap.size = W0 := ⟨_, rfl⟩
  rw [hW0] at cb hs1 hbw
  rw [hW0]
  have HW0 := Lib.hid hW0
  have HBW := Lib.hid hbw
  have HOK := Lib.hid hok
  clear hW0 hbw hok hL
  generalize w.alloc (.cells #[.slice (some ⟨b, off, none⟩) n cap] 22) = w1 at *
  have hlt1 : W0 < w1.heap.size := by omega
  rcases hL1.out with h | ⟨b', off', he, hnc, hcap, hbs, hrow⟩
  · omega
  cases he
  have HR := Lib.hid hrow
  have CB := Lib.hid cb
  have hbase0 : W0 + 1 = w1.heap.size := hs1.symm
  clear hrow hs1
  go_wp2_with fail
  go_loopw [4, 9] (fun v i wr => ∃ k : Nat, k ≤ n ∧ i = .int .i64 k ∧ Hid (wr.ownsRow (W0 + 1) 3 1 v k (nums k)) ∧ Hid (Below w1.heap.size w1 wr)) (fun _ i _ => n - (intOf i).toNat)
  case atStart => exact ⟨0, Nat.zero_le _, rfl, World.ownsRow_nil _ _ _ _, Below.refl _ _⟩
  case round =>
    obtain ⟨k, hk, rfl, hown, hbel⟩ := hrel
    by_cases hlt : k < n
    · obtain ⟨q0, q1, q2, q3⟩ := HR.out k hlt
      have q0 := (hbel.out.cell (p := ⟨b, off + k * 3, none⟩) hbs).trans q0
      have q1 := (hbel.out.cell (p := ⟨b, off + k * 3 + 1, none⟩) hbs).trans q1
      have q2 := (hbel.out.cell (p := ⟨b, off + k * 3 + 2, none⟩) hbs).trans q2
      have Q3 := Lib.hid (q3.below hbel.out)
      have HO := HOK.out k hlt
      clear q3
      go_upto_region 5 with fail
      obtain ⟨c0, c1⟩ := one_cells wr #[.int .i64 (F k).W, .int .i64 (F k).H, .slice (F k).a (F k).n (F k).cap] 48
      have e0 := c0 0
      have e1 := c0 1
      have e2 := c0 2
      have hown1 := Lib.hid (hown.out.alloc (.cells #[.int .i64 (F k).W, .int .i64 (F k).H, .slice (F k).a (F k).n (F k).cap] 48))
      have hbel1 := Lib.hid (hbel.out.alloc (hbel.out.size) (.cells #[.int .i64 (F k).W, .int .i64 (F k).H, .slice (F k).a (F k).n (F k).cap] 48))
      have Q4 := Lib.hid (Q3.out.below ((Below.refl _ wr).alloc (Nat.le_refl _) (.cells #[.int .i64 (F k).W, .int .i64 (F k).H, .slice (F k).a (F k).n (F k).cap] 48)))
      clear c0 c1 q0 q1 q2 Q3 hown hbel
      obtain ⟨gs, hgs⟩ : ∃ gs, wr.heap.size = gs := ⟨_, rfl⟩
      rw [hgs] at e0 e1 e2
      rw [hgs]
      clear hgs
      generalize wr.alloc (.cells #[.int .i64 (F k).W, .int .i64 (F k).H, .slice (F k).a (F k).n (F k).cap] 48) = w2 at *
      have hg2 : gs < w2.heap.size := World.block_lt_of_cell? w2 _ e0
      go_upto_region 7 with (go_at_call 32; refine (Bmp.check (F k) true _ Q4.out (by simpa using HO)).mono ?_; rintro e w3 ⟨rfl, hbel2⟩)
      have hown3 := Lib.hid (hown1.out.kept (grown_of_below hbel2 none) (Classical.em _))
      have hbel3 := Lib.hid (below_then hbel1.out hbel2 (Nat.le_refl _))
      have hb3 : W0 + 1 ≤ w3.heap.size := by rw [hbase0]; exact hbel3.out.size
      clear e0 e1 e2 hown1 hbel1 Q4 hbel2 hg2
      go_upto_region 8 with (at_builtin; refine wpList_append_own_at _ rfl _ _ 31 rfl (W0 + 1) 3 i0 (.int .i64 0) 1 8 Try.underlying31 hi hz0 hz1 hz2 rfl (by decide) u4 k (nums k) rfl (hown3.out.alloc _) ⟨w3.heap.size, 0, none⟩ 1 1 [.int .i64 (k : Nat)] rfl rfl (World.news_of_block (cs := #[.int .i64 (k : Nat)]) (t := 3) (fr := (0, 0)) (heap_alloc_new w3 _)) (by intro u hu; simp at hu; subst hu; rfl) (by unfold maxLen; omega) (by omega) (by simp; omega) ?_; intro v' w4 hown4 hgrow4 _ _)
      have hown5 := Lib.hid hown4
      have hbel5 := Lib.hid (Below.grown (hbel3.out.alloc hbel3.out.size _) hgrow4 (Nat.le_trans hbel3.out.size (by simp)) (fun z hz => by rw [← hbase0]; exact row_ge hown3.out z hz))
      clear hown4 hgrow4 hown3 hbel3
      go_wp2_with fail
      go_roundw
      case rel => exact ⟨k + 1, by omega, by go_num, by show World.ownsRow _ _ _ _ _ _ _; rw [nums_snoc]; exact hown5.out, hbel5⟩
      case measure => simp [intOf]; omega
    · obtain rfl : k = n := by omega
      obtain ⟨g, c', hv⟩ : ∃ g c', u4 = .slice (some ⟨g, 0, none⟩) k c' := by
        obtain ⟨_, hform⟩ := hown.out
        rcases hform with ⟨_, hz⟩ | ⟨g, c', cur, hx, _⟩
        · omega
        · exact ⟨g, c', hx⟩
      subst hv
      have hmf : ∀ (fn : Fn) (first cap : Array Value) (w : World), (Instr.makeFunc fn first cap).run Try.prog w = .ok (.func fn first cap) w := fun _ _ _ _ => rfl
      have hS := Lib.hid (sort36 W0 b off k cap g c' F wr (W0 + 1) (IsBms.below hL1.out hbel.out) h0 hn HOK.out ((hbel.out.cell (p := ⟨W0, 0, none⟩) hlt1).trans CB.out) (by omega) (by rw [hbase0]; exact hbs) (by rw [hbase0]; exact hbel.out.size) hown.out)
      clear hown
      go_upto_region 10 with (go_at_call 36; refine hS.out.mono ?_; rintro e w5 ⟨rfl, hbel5, l, hso, hin⟩)
      have hfin : Below W0 w w5 := (HBW.out.trans (hbel.out.mono (Nat.le_of_lt hlt1))).trans (hbel5.mono (Nat.le_succ _))
      clear hS hbel5
      go_wp2_with fail
      go_ret2
      exact ⟨g, c', l, rfl, hso, hin, by rw [HW0.out]; exact hfin⟩
end Go.Proofs.Ytfniekdohidbiaa
