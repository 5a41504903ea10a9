/- Bitmaps of the call's own: Put, White of the reference. Conditions: the bounds that each theorem names. -/
import Derived.Test.YtfniekdohidbiaaBj
import Derived.BigRegion
import Derived.OwnWalk
import Derived.Maps.AppendAt
import Derived.Lib.SmallJoins
import Derived.Deep.Cut
import Derived.Deep.DeepCutAuto
import Derived.Deep.AppendLies
import Derived.Deep.OwnRows
namespace Go.Proofs.Ytfniekdohidbiaa
open Go.RowKit Go.Bm
theorem infoW : (Try.prog.info? 23).map (fun i => (i.zero, i.size, i.bytes)) = some (some (.int .u64 0), 1, 8) := by kernel_rfl
/-- words as values -/
def wvals (B : Nat → Nat) (n : Nat) : List Value := (List.range n).map fun i => .int .u64 (B i : Nat)
theorem wvals_length (B : Nat → Nat) (n : Nat) : (wvals B n).length = n := by unfold wvals; simp
theorem wvals_get (B : Nat → Nat) (n i : Nat) (h : i < n) : (wvals B n)[i]? = some (.int .u64 (B i : Nat)) := by
  unfold wvals; rw [List.getElem?_map, List.getElem?_range h]; rfl
theorem IsWords.lt {w : World} {a : Option Addr} {n cap : Nat} {L : Nat → Nat} (h : IsWords w a n cap L) : ∀ i, i < n → L i < 2 ^ 64 := by
  intro i hi
  rcases h with h | ⟨b, off, h1, h2, h3, h4, h5⟩
  · omega
  · exact (h5 i hi).2
theorem grown_refl (w : World) (row : Option Nat) : w.grownBy w row := ⟨rfl, rfl, rfl, Nat.le_refl _, fun _ _ _ => rfl⟩
theorem grown_drewN (w : World) (n : Nat) (row : Option Nat) : w.grownBy (w.drewN n) row := ⟨rfl, rfl, rfl, Nat.le_refl _, fun _ _ _ => rfl⟩
theorem grown_setCell (w : World) (a : Addr) (u : Value) : w.grownBy (w.setCell a u) (some a.block) :=
  ⟨rfl, rfl, rfl, by simp, fun k _ hk => Below.heap_setCell w a u k (fun e => hk (by rw [e]))⟩
theorem grown_of_below {w w1 : World} (h : Below w.heap.size w w1) (row : Option Nat) : w.grownBy w1 row := ⟨h.os, h.tape, h.output, h.size, fun i hi _ => h.block i hi⟩
/-- words in a block of the call's own -/
def IsOwn (w : World) (g n : Nat) (B : Nat → Nat) : Prop :=
  ∃ cur, w.heap[g]? = some (.cells cur 23 (0, 0)) ∧ ∀ i, i < n → cur[i]? = some (.int .u64 (B i : Nat)) ∧ B i < 2 ^ 64
theorem IsOwn.lt {w : World} {g n : Nat} {B : Nat → Nat} (h : IsOwn w g n B) : g < w.heap.size := by
  obtain ⟨cur, hh, _⟩ := h
  exact (Array.getElem?_eq_some_iff.1 hh).1
theorem IsOwn.words {w : World} {g n cap : Nat} {B : Nat → Nat} (h : IsOwn w g n B) (hn : n ≤ cap) (hc : cap ≤ 9223372036854775807) : IsWords w (some ⟨g, 0, none⟩) n cap B := by
  have hl := h.lt
  obtain ⟨cur, hh, hv⟩ := h
  exact Or.inr ⟨g, 0, rfl, hn, hc, hl, fun i hi => ⟨by rw [Nat.zero_add, Joins.cell_of_block hh]; exact (hv i hi).1, (hv i hi).2⟩⟩
theorem IsOwn.below {w w' : World} {g n : Nat} {B : Nat → Nat} (h : IsOwn w g n B) (hb : Below w.heap.size w w') : IsOwn w' g n B := by
  have hl := h.lt
  obtain ⟨cur, hh, hv⟩ := h
  exact ⟨cur, (hb.block g hl).trans hh, hv⟩
theorem IsOwn.set {w : World} {g n : Nat} {B : Nat → Nat} (h : IsOwn w g n B) (i v : Nat) (hi : i < n) (hv : v < 2 ^ 64) : IsOwn (w.setCell ⟨g, i, none⟩ (.int .u64 (v : Nat))) g n (fun j => if j = i then v else B j) := by
  obtain ⟨cur, hh, hc⟩ := h
  refine ⟨_, Joins.block_setCell hh _, fun j hj => ?_⟩
  have hs : i < cur.size := by
    have := (hc i hi).1
    exact (Array.getElem?_eq_some_iff.1 this).1
  rw [Array.getElem?_setIfInBounds]
  by_cases e : j = i
  · subst e; simp [hs, hv]
  · rw [if_neg (Ne.symm e)]; dsimp only; rw [if_neg e]; exact hc j hj
theorem IsOwn.congr {w : World} {g n : Nat} {B C : Nat → Nat} (h : IsOwn w g n B) (he : ∀ i, i < n → B i = C i) : IsOwn w g n C := by
  obtain ⟨cur, hh, hc⟩ := h
  exact ⟨cur, hh, fun i hi => by rw [← he i hi]; exact hc i hi⟩
theorem IsOwn.cell {w : World} {g n : Nat} {B : Nat → Nat} (h : IsOwn w g n B) (i : Nat) (hi : i < n) : w.cell? ⟨g, i, none⟩ = some (.int .u64 (B i : Nat)) ∧ B i < 2 ^ 64 ∧ w.frozen? ⟨g, i, none⟩ = false := by
  obtain ⟨cur, hh, hc⟩ := h
  exact ⟨by rw [Joins.cell_of_block hh]; exact (hc i hi).1, (hc i hi).2, Joins.unfrozen_of_block hh _⟩
theorem wrap_prod {H W : Nat} (hH : H ≤ 1048576) (hW : W ≤ 1048576) : IntKind.i64.wrap ((H : Int) * (wd W : Int)) = ((H * wd W : Nat) : Int) := by
  have h1 : H * wd W ≤ 1048576 * 16384 := Nat.mul_le_mul hH (wd_le hW)
  rw [← Int.natCast_mul]
  exact IntWalk.i64_in _ (by omega)
set_option maxRecDepth 100000 in
set_option maxHeartbeats 2000000 in
theorem white0 (W H : Nat) (w : World) (hW : W ≤ 1048576) (hH : H ≤ 1048576) :
    Calls Try.prog 27 #[.int .i64 (W : Int), .int .i64 (H : Int)] w fun e w' => ∃ g, e = .returned (.agg #[.int .i64 (W : Int), .int .i64 (H : Int), .slice (some ⟨g, 0, none⟩) (H * wd W) (H * wd W)]) ∧ IsOwn w' g (H * wd W) (fun _ => 0) ∧ w.heap.size ≤ g ∧ Below w.heap.size w w' := by
  have h1 : H * wd W ≤ 1048576 * 16384 := Nat.mul_le_mul hH (wd_le hW)
  have hmk := fun W1 => run_make_row' (P := Try.prog) 46 23 (.int .u64 0) 8 Try.underlying46 infoW rfl .i64 .i64 (H * wd W) (by omega) (by omega) W1
  have hwr := wrap_prod hH hW
  generalize H * wd W = n at *
  go_enter Try.func27, Try.ntmps27
  go_wp2_with (go_at_call 43; refine (words0 _ _ hW).mono ?_; rintro e w' ⟨rfl, rfl⟩)
  refine bodyPost_ret (v := .agg #[.int .i64 (W : Int), .int .i64 (H : Int), .slice (some ⟨w.heap.size + 1, 0, none⟩) n n]) (by simp [results, Try.results27, go_sem]) rfl ⟨w.heap.size + 1, rfl, ?_, Nat.le_succ _, ?_⟩
  · refine ⟨madeCells #[.int .u64 0] n, ?_, fun i hi => ⟨?_, by show 0 < 2 ^ 64; decide⟩⟩
    · have := heap_alloc_new (w.alloc (.cells #[.int .i64 (W : Int), .int .i64 (H : Int), .slice (some ⟨w.heap.size + 1, 0, none⟩) n n] 48)) (.cells (madeCells #[.int .u64 0] n) 23)
      simpa using this
    · rw [← Array.getElem?_toList, toList_madeCells_one, List.getElem?_replicate, if_pos hi]; rfl
  · exact ((Below.refl _ _).alloc (Nat.le_refl _) _).alloc (by simp) _
theorem isWords_of_owns {w : World} {base : Nat} {v : Value} {n : Nat} {B : Nat → Nat} (h : w.ownsRow base 23 1 v n (wvals B n)) (hB : ∀ i, i < n → B i < 2 ^ 64) : ∃ a cap, v = .slice a n cap ∧ IsWords w a n cap B := by
  obtain ⟨_, h⟩ := h
  rcases h with ⟨rfl, rfl⟩ | ⟨g, cap, cur, rfl, hb, hh, hn, hc, hs, ht⟩
  · exact ⟨_, _, rfl, Or.inl rfl⟩
  · refine ⟨_, _, rfl, Or.inr ⟨g, 0, rfl, hn, by unfold maxLen at hc; exact hc, (Array.getElem?_eq_some_iff.1 hh).1, fun i hi => ⟨?_, hB i hi⟩⟩⟩
    have e1 : w.cell? ⟨g, 0 + i, none⟩ = cur[i]? := by simp [World.cell?, hh]
    rw [e1]
    have e2 : cur.toList[i]? = (wvals B n)[i]? := by rw [← ht, List.getElem?_take, if_pos (by omega)]
    rw [← Array.getElem?_toList, e2, wvals_get _ _ _ hi]
set_option maxRecDepth 100000 in
set_option maxHeartbeats 1000000 in
theorem clone0 (a : Option Addr) (n cap : Nat) (B : Nat → Nat) (w : World) (hB : IsWords w a n cap B) (h0 : 0 < n) (hn : n ≤ 17179869184) :
    Calls Try.prog 50 #[.slice a n cap] w fun e w' => ∃ v, e = .returned v ∧ w'.ownsRow w.heap.size 23 1 v n (wvals B n) ∧ Below w.heap.size w w' := by
  rcases hB with h | ⟨b, off, rfl, hnc, hcap, hbs, hcell⟩
  · omega
  · obtain ⟨i0, hi, hz0, hz1, hz2⟩ := info_parts infoW
    have hnew : ∀ (w1 : World), Below w.heap.size w w1 → ∀ j u, (wvals B n)[j]? = some u → w1.cell? ((⟨b, off, none⟩ : Addr).add j) = some u := by
      intro w1 hb j u hj
      have hjn : j < n := by
        have := (List.getElem?_eq_some_iff.1 hj).1
        rwa [wvals_length] at this
      rw [wvals_get _ _ _ hjn] at hj
      cases hj
      have ea : (⟨b, off, none⟩ : Addr).add j = ⟨b, off + j, none⟩ := by simp only [Addr.add]; split <;> simp_all
      rw [ea]
      exact (hb.cell (p := ⟨b, off + j, none⟩) hbs).trans (hcell j hjn).1
    clear hcell
    have hnil : ∀ w, (binOp BinOp.eql 46 (.slice (some ⟨b, off, none⟩) n cap) (.slice none 0 0)).run Try.prog w = .ok (.bool false) w := fun w => (Lib.run_eql_slice_nil w _ _ _ _ _ _ _ Try.underlying46)
    go_enter Try.func50, Try.ntmps50
    go_wp2_with (at_builtin; go_loud ( refine wpList_append_own_at _ rfl _ _ 46 rfl w.heap.size 23 i0 (.int .u64 0) 1 8 Try.underlying46 hi hz0 hz1 hz2 rfl (by decide) _ _ _ rfl (World.ownsRow_made w #[] 0 (Nat.le_refl _) (by decide) rfl) ⟨b, off, none⟩ n cap (wvals B n) rfl ?c1 ?c2 ?c3 ?c4 ?c5 ?c6 ?_))
    case c1 => rw [wvals_length, Nat.mul_one]
    case c2 => exact hnew _ ((Below.refl _ _).alloc (Nat.le_refl _) _)
    case c3 => intro u hu; unfold wvals at hu; simp at hu; obtain ⟨i, _, rfl⟩ := hu; rfl
    case c4 => unfold maxLen; omega
    case c5 => omega
    case c6 => simp
    intro v' w1 hown hgrow _ _
    go_wp2
    go_ret
    exact ⟨_, rfl, hown, ((Below.refl _ _).alloc (Nat.le_refl _) _).grown hgrow (by simp) (fun q hq => by simp [Value.ownBlock] at hq; omega)⟩
theorem clone1 (a : Option Addr) (n cap : Nat) (B : Nat → Nat) (w : World) (hB : IsWords w a n cap B) (h0 : 0 < n) (hn : n ≤ 17179869184) :
    Calls Try.prog 50 #[.slice a n cap] w fun e w' => ∃ c cap', e = .returned (.slice c n cap') ∧ IsWords w' c n cap' B ∧ Below w.heap.size w w' :=
  (clone0 a n cap B w hB h0 hn).mono fun e w' ⟨v, he, ho, hb⟩ => by
    obtain ⟨c, cap', hv, hw⟩ := isWords_of_owns ho hB.lt
    exact ⟨c, cap', by rw [he, hv], hw, hb⟩
theorem wvals_snoc (B : Nat → Nat) (k : Nat) : wvals B (k + 1) = wvals B k ++ [.int .u64 (B k : Nat)] := by unfold wvals; rw [List.range_succ, List.map_append]; rfl
theorem own_of_row {w : World} {base g n cap : Nat} {B : Nat → Nat} (h : w.ownsRow base 23 1 (.slice (some ⟨g, 0, none⟩) n cap) n (wvals B n)) (hB : ∀ i, i < n → B i < 2 ^ 64) : IsOwn w g n B ∧ base ≤ g := by
  obtain ⟨_, hform⟩ := h
  rcases hform with ⟨hx, _⟩ | ⟨g', cap', cur, hx, hb, hh, hnn, hcc, _, ht⟩
  · cases hx
  · cases hx
    refine ⟨⟨cur, hh, fun i hi => ⟨?_, hB i hi⟩⟩, hb⟩
    have e2 : cur.toList[i]? = (wvals B n)[i]? := by rw [← ht, List.getElem?_take, if_pos (by omega)]
    rw [← Array.getElem?_toList, e2, wvals_get _ _ _ hi]
theorem IsOwn.other {w : World} {g n : Nat} {B : Nat → Nat} {p : Addr} (h : IsOwn w g n B) (hne : g ≠ p.block) (v : Value) : IsOwn (w.setCell p v) g n B := by
  obtain ⟨cur, hh, hc⟩ := h
  exact ⟨cur, (Below.heap_setCell w p v g hne).trans hh, hc⟩
theorem IsWords.short {w : World} {a : Option Addr} {m n cap : Nat} {L : Nat → Nat} (h : IsWords w a m cap L) (hn : n ≤ m) : IsWords w a n cap L := by
  rcases h with h | ⟨b, off, h1, h2, h3, h4, h5⟩
  · exact Or.inl (by omega)
  · exact Or.inr ⟨b, off, h1, by omega, h3, h4, fun i hi => h5 i (by omega)⟩
theorem two_cells (w : World) (A C : Array Value) (t s : TypeId) : (∀ j, ((w.alloc (.cells A t)).alloc (.cells C s)).cell? ⟨w.heap.size, j, none⟩ = A[j]?) ∧ (∀ j, ((w.alloc (.cells A t)).alloc (.cells C s)).cell? ⟨w.heap.size + 1, j, none⟩ = C[j]?) :=
  ⟨fun j => by rw [World.cell?_alloc_past _ _ _ (by simp), World.cell?_alloc_at _ _ _ _ rfl], fun j => by rw [World.cell?_alloc_at _ _ _ _ (by simp)]⟩
/-- what holds of a boxed bitmap in every world from then on -/
structure BInv (w : World) (W0 : Nat) (W H : Int) (a : Option Addr) (n cap : Nat) (B : Nat → Nat) (W' : World) : Prop where
  lt : W0 < W'.heap.size
  c0 : W'.cell? ⟨W0, 0, none⟩ = some (.int .i64 W)
  c1 : W'.cell? ⟨W0, 1, none⟩ = some (.int .i64 H)
  c2 : W'.cell? ⟨W0, 2, none⟩ = some (.slice a n cap)
  k : IsWords W' a n cap B
  bel : Below W0 w W'
theorem BInv.step {w : World} {W0 : Nat} {W H : Int} {a : Option Addr} {n cap : Nat} {B : Nat → Nat} {W1 W2 : World} (h : BInv w W0 W H a n cap B W1) (hb : Below W1.heap.size W1 W2) : BInv w W0 W H a n cap B W2 :=
  ⟨Nat.lt_of_lt_of_le h.lt hb.size, (hb.cell (p := ⟨W0, 0, none⟩) h.lt).trans h.c0, (hb.cell (p := ⟨W0, 1, none⟩) h.lt).trans h.c1, (hb.cell (p := ⟨W0, 2, none⟩) h.lt).trans h.c2, h.k.below hb,
    h.bel.trans (hb.mono (Nat.le_of_lt h.lt))⟩
theorem BInv.new {w : World} {W H : Int} {a : Option Addr} {n cap : Nat} {B : Nat → Nat} (h : IsWords w a n cap B) : BInv w w.heap.size W H a n cap B (w.alloc (.cells #[.int .i64 W, .int .i64 H, .slice a n cap] 48)) :=
  ⟨by simp, by rw [World.cell?_alloc_at _ _ _ _ rfl]; rfl, by rw [World.cell?_alloc_at _ _ _ _ rfl]; rfl, by rw [World.cell?_alloc_at _ _ _ _ rfl]; rfl,
    h.below ((Below.refl _ _).alloc (Nat.le_refl _) _), (Below.refl _ _).alloc (Nat.le_refl _) _⟩
end Go.Proofs.Ytfniekdohidbiaa
