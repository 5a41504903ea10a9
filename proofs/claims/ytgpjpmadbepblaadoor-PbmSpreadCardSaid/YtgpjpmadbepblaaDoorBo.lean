/- Bitmaps of the call's own: Put, White of the reference. Conditions: the bounds that each theorem names. -/
import Derived.Test.YtgpjpmadbepblaaDoorBj
import Derived.BigRegion
import Derived.OwnWalk
import Derived.Maps.AppendAt
import Derived.Lib.SmallJoins
import Derived.Deep.Cut
import Derived.Deep.DeepCutAuto
import Derived.Deep.AppendLies
import Derived.Deep.OwnRows
namespace Go.Proofs.YtgpjpmadbepblaaDoor
open Go.RowKit Go.Bm
theorem grown_refl (w : World) (row : Option Nat) : w.grownBy w row := ⟨rfl, rfl, rfl, Nat.le_refl _, fun _ _ _ => rfl⟩
theorem grown_drewN (w : World) (n : Nat) (row : Option Nat) : w.grownBy (w.drewN n) row := ⟨rfl, rfl, rfl, Nat.le_refl _, fun _ _ _ => rfl⟩
theorem grown_setCell (w : World) (a : Addr) (u : Value) : w.grownBy (w.setCell a u) (some a.block) :=
  ⟨rfl, rfl, rfl, by simp, fun k _ hk => Below.heap_setCell w a u k (fun e => hk (by rw [e]))⟩
theorem grown_of_below {w w1 : World} (h : Below w.heap.size w w1) (row : Option Nat) : w.grownBy w1 row := ⟨h.os, h.tape, h.output, h.size, fun i hi _ => h.block i hi⟩
/-- words in a block of the call's own -/
def IsOwn (w : World) (g n : Nat) (B : Nat → Nat) : Prop :=
  ∃ cur, w.heap[g]? = some (.cells cur 50 (0, 0)) ∧ ∀ i, i < n → cur[i]? = some (.int .u64 (B i : Nat)) ∧ B i < 2 ^ 64
theorem IsOwn.lt {w : World} {g n : Nat} {B : Nat → Nat} (h : IsOwn w g n B) : g < w.heap.size := by
  obtain ⟨cur, hh, _⟩ := h
  exact (Array.getElem?_eq_some_iff.1 hh).1
theorem IsOwn.words {w : World} {g n cap : Nat} {B : Nat → Nat} (h : IsOwn w g n B) (hn : n ≤ cap) (hc : cap ≤ 9223372036854775807) : IsWords w (some ⟨g, 0, none⟩) n cap B := by
  have hl := h.lt
  obtain ⟨cur, hh, hv⟩ := h
  exact Or.inr ⟨g, 0, rfl, hn, hc, hl, fun i hi => ⟨by rw [Nat.zero_add, Joins.cell_of_block hh]; exact (hv i hi).1, (hv i hi).2⟩⟩
theorem IsOwn.below {w w' : World} {g n : Nat} {B : Nat → Nat} (h : IsOwn w g n B) (hb : Below w.heap.size w w') : IsOwn w' g n B := by
  have hl := h.lt
  obtain ⟨cur, hh, hv⟩ := h
  exact ⟨cur, (hb.block g hl).trans hh, hv⟩
theorem IsOwn.set {w : World} {g n : Nat} {B : Nat → Nat} (h : IsOwn w g n B) (i v : Nat) (hi : i < n) (hv : v < 2 ^ 64) : IsOwn (w.setCell ⟨g, i, none⟩ (.int .u64 (v : Nat))) g n (fun j => if j = i then v else B j) := by
  obtain ⟨cur, hh, hc⟩ := h
  refine ⟨_, Joins.block_setCell hh _, fun j hj => ?_⟩
  have hs : i < cur.size := by
    have := (hc i hi).1
    exact (Array.getElem?_eq_some_iff.1 this).1
  rw [Array.getElem?_setIfInBounds]
  by_cases e : j = i
  · subst e; simp [hs, hv]
  · rw [if_neg (Ne.symm e)]; dsimp only; rw [if_neg e]; exact hc j hj
theorem IsOwn.congr {w : World} {g n : Nat} {B C : Nat → Nat} (h : IsOwn w g n B) (he : ∀ i, i < n → B i = C i) : IsOwn w g n C := by
  obtain ⟨cur, hh, hc⟩ := h
  exact ⟨cur, hh, fun i hi => by rw [← he i hi]; exact hc i hi⟩
theorem IsOwn.cell {w : World} {g n : Nat} {B : Nat → Nat} (h : IsOwn w g n B) (i : Nat) (hi : i < n) : w.cell? ⟨g, i, none⟩ = some (.int .u64 (B i : Nat)) ∧ B i < 2 ^ 64 ∧ w.frozen? ⟨g, i, none⟩ = false := by
  obtain ⟨cur, hh, hc⟩ := h
  exact ⟨by rw [Joins.cell_of_block hh]; exact (hc i hi).1, (hc i hi).2, Joins.unfrozen_of_block hh _⟩
set_option maxRecDepth 100000 in
set_option maxHeartbeats 2000000 in
theorem put0 (W H : Nat) (g n cap : Nat) (B : Nat → Nat) (x y b : Nat) (w : World) (hW : W ≤ 1048576) (hH : H ≤ 1048576) (hn : n = H * wd W) (hB : IsOwn w g n B) (hx : x < W) (hy : y < H) (hb : b ≤ 1) :
    Calls Tryd.prog 53 #[.agg #[.int .i64 (W : Int), .int .i64 (H : Int), .slice (some ⟨g, 0, none⟩) n cap], .int .i64 (x : Int), .int .i64 (y : Int), .int .i64 (b : Int)] w
      fun e w' => e = .returned (.tuple #[]) ∧ IsOwn w' g n (setB B W x y b) ∧ w.grownBy w' (some g) := by
  subst hn
  have hlt := at_lt hx hy
  have hww := wd_le hW
  have hyw : y * wd W ≤ 1048576 * 16384 := Nat.mul_le_mul (by omega) hww
  have hyw2 : (y : Int) * (wd W : Int) ≤ 17179869184 := by
    have : ((y * wd W : Nat) : Int) ≤ 17179869184 := by omega
    rwa [Int.natCast_mul] at this
  have hyw3 : 0 ≤ (y : Int) * (wd W : Int) := Int.mul_nonneg (by omega) (by omega)
  have hwr : IntKind.i64.wrap ((y : Int) * (wd W : Int)) = (y : Int) * (wd W : Int) := IntWalk.i64_in _ (by omega)
  have hix : (y : Int) * (wd W : Int) + (x : Int) / 64 < ((H * wd W : Nat) : Int) := by
    have : ((y * wd W + x / 64 : Nat) : Int) < ((H * wd W : Nat) : Int) := by omega
    rwa [Int.natCast_add, Int.natCast_mul, Int.natCast_ediv] at this
  have hgl := hB.lt
  obtain ⟨d0, v0, f0⟩ := hB.cell _ hlt
  have HB := Lib.hid hB
  have hBB := Lib.hid (hB.below ((Below.refl w.heap.size w).alloc (Nat.le_refl _) (.cells #[.int .i64 (W : Int), .int .i64 (H : Int), .slice (some ⟨g, 0, none⟩) (H * wd W) cap] 25)))
  clear hB
  go_enter Tryd.func53, Tryd.ntmps53
  go_upto_region 3 with (go_at_call 39; refine (words0 _ _ hW).mono ?_; rintro e w' ⟨rfl, rfl⟩)
  have hidx : (y : Int) * (wd W : Int) + (x : Int) / 64 = ((y * wd W + x / 64 : Nat) : Int) := by
    rw [Int.natCast_add, Int.natCast_mul, Int.natCast_ediv]; rfl
  have hmask : IntKind.u64.wrap (2 ^ (63 - x % 64)) = 2 ^ (63 - x % 64) := by
    have h1 : 2 ^ (63 - x % 64) < 2 ^ 64 := Nat.pow_lt_pow_right (by decide) (by omega)
    have h2 : (2 : Int) ^ (63 - x % 64) = ((2 ^ (63 - x % 64) : Nat) : Int) := by simp
    rw [h2]
    have hs : IntKind.u64.signed = false := rfl
    have hb : IntKind.u64.bits = 64 := rfl
    unfold IntKind.wrap
    simp [hs, hb]
    generalize 2 ^ (63 - x % 64) = q at *
    clear hyw hyw2 hyw3 hwr hix hlt v0
    omega
  have hst : Hid (∀ i, setB B W x y b i = if i = y * wd W + x / 64 then putw (B i) (63 - x % 64) b else B i) := fun _ => rfl
  have he : 63 - x % 64 < 64 := by omega
  rw [hidx, hmask]
  clear hidx hmask hwr hix hyw hyw2 hyw3
  generalize y * wd W + x / 64 = i at *
  generalize 63 - x % 64 = e at *
  have g2 : (w.alloc (.cells #[.int .i64 (W : Int), .int .i64 (H : Int), .slice (some ⟨g, 0, none⟩) (H * wd W) cap] 25)).cell? ⟨w.heap.size, 2, none⟩ = some (.slice (some ⟨g, 0, none⟩) (H * wd W) cap) := by rw [World.cell?_alloc_at _ _ _ _ rfl]; rfl
  have hgr : w.grownBy (w.alloc (.cells #[.int .i64 (W : Int), .int .i64 (H : Int), .slice (some ⟨g, 0, none⟩) (H * wd W) cap] 25)) (some g) := World.grownBy_alloc _ _ _
  obtain ⟨W0, hW0⟩ : ∃ W0, w.heap.size = W0 := ⟨_, rfl⟩
  rw [hW0] at g2 hgl ⊢
  clear hW0 d0 f0
  generalize w.alloc (.cells #[.int .i64 (W : Int), .int .i64 (H : Int), .slice (some ⟨g, 0, none⟩) (H * wd W) cap] 25) = w1 at *
  obtain ⟨d0, _, f0⟩ := hBB.out.cell _ hlt
  have hltI : (i : Int) < ((H * wd W : Nat) : Int) := by omega
  have hgW : g ≠ W0 := by omega
  have hav := andNot_val (B i) e v0 he
  have hor := or_val (B i &&& (18446744073709551615 - 2 ^ e)) e (Nat.and_lt_two_pow _ (Nat.lt_of_le_of_lt (Nat.sub_le _ _) (by decide))) he
  have AV := Lib.hid hav
  have OV := Lib.hid hor
  have HGR := Lib.hid hgr
  clear hav hor hgr
  go_region
  rw [AV.out]
  have hv1 : B i &&& (18446744073709551615 - 2 ^ e) < 2 ^ 64 := Nat.and_lt_two_pow _ (Nat.lt_of_le_of_lt (Nat.sub_le _ _) (by decide))
  have HO2 : Hid (IsOwn (w1.setCell ⟨g, i, none⟩ (.int .u64 ((B i &&& (18446744073709551615 - 2 ^ e) : Nat) : Int))).drew g (H * wd W) (fun j => if j = i then B i &&& (18446744073709551615 - 2 ^ e) else B j)) := hBB.out.set i _ hlt hv1
  have hlw : W0 < w1.heap.size := World.block_lt_of_cell? w1 _ g2
  have hg1 := (grown_setCell w1 ⟨g, i, none⟩ (.int .u64 ((B i &&& (18446744073709551615 - 2 ^ e) : Nat) : Int))).trans (grown_drewN _ 1 _)
  have HG2 := Lib.hid (HGR.out.trans hg1)
  have g3 := (hg1.cell_far ⟨W0, 2, none⟩ hlw (by simp; omega)).trans g2
  have HG3 : Hid (w.grownBy (w1.setCell ⟨g, i, none⟩ (.int .u64 ((B i &&& (18446744073709551615 - 2 ^ e) : Nat) : Int))).drew (some g)) := HG2.out
  have g4 : (w1.setCell ⟨g, i, none⟩ (.int .u64 ((B i &&& (18446744073709551615 - 2 ^ e) : Nat) : Int))).drew.cell? ⟨W0, 2, none⟩ = some (.slice (some ⟨g, 0, none⟩) (H * wd W) cap) := g3
  obtain ⟨d4, _, f4⟩ := HO2.out.cell i hlt
  rw [if_pos rfl] at d4
  clear HG2 g3 hg1 hBB g2 d0 f0 HB AV HGR
  generalize (w1.setCell ⟨g, i, none⟩ (.int .u64 ((B i &&& (18446744073709551615 - 2 ^ e) : Nat) : Int))).drew = w2 at *
  by_cases hb1 : b = 1
  · subst hb1
    go_upto_region 5 with fail
    generalize hv1e : B i &&& (18446744073709551615 - 2 ^ e) = v1 at d4 hv1 OV HO2
    have HV := Lib.hid hv1e
    clear hv1e
    go_region
    rw [OV.out]
    go_wp2
    go_end0
    refine ⟨rfl, ?_, HG3.out.trans ((grown_setCell w2 ⟨g, i, none⟩ _).trans (grown_drewN _ 1 _))⟩
    have h := HO2.out.set i (v1 ||| 2 ^ e) hlt (Nat.or_lt_two_pow hv1 (Nat.pow_lt_pow_right (by decide) he))
    refine IsOwn.congr (w := (w2.setCell ⟨g, i, none⟩ (.int .u64 ((v1 ||| 2 ^ e : Nat) : Int))).drew) h fun j _ => ?_
    rw [hst.out]
    by_cases ej : j = i
    · rw [if_pos ej, if_pos ej, ej]
      unfold putw
      rw [if_pos rfl, HV.out]
    · rw [if_neg ej, if_neg ej, if_neg ej]
  · have hbz : ((b : Int) == 1) = false := by simp; omega
    go_wp2
    go_end0
    refine ⟨rfl, HO2.out.congr fun j _ => ?_, HG3.out⟩
    rw [hst.out]
    by_cases ej : j = i
    · rw [if_pos ej, if_pos ej, ej]
      unfold putw
      rw [if_neg hb1]
    · rw [if_neg ej, if_neg ej]
theorem wrap_prod {H W : Nat} (hH : H ≤ 1048576) (hW : W ≤ 1048576) : IntKind.i64.wrap ((H : Int) * (wd W : Int)) = ((H * wd W : Nat) : Int) := by
  have h1 : H * wd W ≤ 1048576 * 16384 := Nat.mul_le_mul hH (wd_le hW)
  rw [← Int.natCast_mul]
  exact IntWalk.i64_in _ (by omega)
set_option maxRecDepth 100000 in
set_option maxHeartbeats 2000000 in
theorem white0 (W H : Nat) (w : World) (hW : W ≤ 1048576) (hH : H ≤ 1048576) :
    Calls Tryd.prog 52 #[.int .i64 (W : Int), .int .i64 (H : Int)] w fun e w' => ∃ g, e = .returned (.agg #[.int .i64 (W : Int), .int .i64 (H : Int), .slice (some ⟨g, 0, none⟩) (H * wd W) (H * wd W)]) ∧ IsOwn w' g (H * wd W) (fun _ => 0) ∧ w.heap.size ≤ g ∧ Below w.heap.size w w' := by
  have h1 : H * wd W ≤ 1048576 * 16384 := Nat.mul_le_mul hH (wd_le hW)
  have hmk := fun W1 => run_make_row' (P := Tryd.prog) 23 50 (.int .u64 0) 8 Tryd.underlying23 infoW rfl .i64 .i64 (H * wd W) (by omega) (by omega) W1
  have hwr := wrap_prod hH hW
  generalize H * wd W = n at *
  go_enter Tryd.func52, Tryd.ntmps52
  go_wp2_with (go_at_call 39; refine (words0 _ _ hW).mono ?_; rintro e w' ⟨rfl, rfl⟩)
  refine bodyPost_ret (v := .agg #[.int .i64 (W : Int), .int .i64 (H : Int), .slice (some ⟨w.heap.size + 1, 0, none⟩) n n]) (by simp [results, Tryd.results52, go_sem]) rfl ⟨w.heap.size + 1, rfl, ?_, Nat.le_succ _, ?_⟩
  · refine ⟨madeCells #[.int .u64 0] n, ?_, fun i hi => ⟨?_, by show 0 < 2 ^ 64; decide⟩⟩
    · have := heap_alloc_new (w.alloc (.cells #[.int .i64 (W : Int), .int .i64 (H : Int), .slice (some ⟨w.heap.size + 1, 0, none⟩) n n] 25)) (.cells (madeCells #[.int .u64 0] n) 50)
      simpa using this
    · rw [← Array.getElem?_toList, toList_madeCells_one, List.getElem?_replicate, if_pos hi]; rfl
  · exact ((Below.refl _ _).alloc (Nat.le_refl _) _).alloc (by simp) _
end Go.Proofs.YtgpjpmadbepblaaDoor
