/- Bitmaps: copies: slices.Clone of words, From of package bitmap. Conditions: the bounds that each theorem names. -/
import Derived.Test.YtgpjpmadbepblaaDoorBg
import Derived.OwnWalk
import Derived.Maps.AppendAt
import Derived.Lib.SmallJoins
import Derived.Deep.Cut
import Derived.Deep.DeepCutAuto
namespace Go.Proofs.YtgpjpmadbepblaaDoor
open Go.RowKit Go.Bm

theorem infoW : (Tryd.prog.info? 50).map (fun i => (i.zero, i.size, i.bytes)) = some (some (.int .u64 0), 1, 8) := by kernel_rfl
/-- words as values -/
def wvals (B : Nat → Nat) (n : Nat) : List Value := (List.range n).map fun i => .int .u64 (B i : Nat)
theorem wvals_length (B : Nat → Nat) (n : Nat) : (wvals B n).length = n := by unfold wvals; simp
theorem wvals_get (B : Nat → Nat) (n i : Nat) (h : i < n) : (wvals B n)[i]? = some (.int .u64 (B i : Nat)) := by
  unfold wvals; rw [List.getElem?_map, List.getElem?_range h]; rfl
theorem isWords_of_owns {w : World} {base : Nat} {v : Value} {n : Nat} {B : Nat → Nat} (h : w.ownsRow base 50 1 v n (wvals B n)) (hB : ∀ i, i < n → B i < 2 ^ 64) : ∃ a cap, v = .slice a n cap ∧ IsWords w a n cap B := by
  obtain ⟨_, h⟩ := h
  rcases h with ⟨rfl, rfl⟩ | ⟨g, cap, cur, rfl, hb, hh, hn, hc, hs, ht⟩
  · exact ⟨_, _, rfl, Or.inl rfl⟩
  · refine ⟨_, _, rfl, Or.inr ⟨g, 0, rfl, hn, by unfold maxLen at hc; exact hc, (Array.getElem?_eq_some_iff.1 hh).1, fun i hi => ⟨?_, hB i hi⟩⟩⟩
    have e1 : w.cell? ⟨g, 0 + i, none⟩ = cur[i]? := by simp [World.cell?, hh]
    rw [e1]
    have e2 : cur.toList[i]? = (wvals B n)[i]? := by rw [← ht, List.getElem?_take, if_pos (by omega)]
    rw [← Array.getElem?_toList, e2, wvals_get _ _ _ hi]

set_option maxRecDepth 100000 in
set_option maxHeartbeats 1000000 in
theorem clone0 (a : Option Addr) (n cap : Nat) (B : Nat → Nat) (w : World) (hB : IsWords w a n cap B) (h0 : 0 < n) (hn : n ≤ 17179869184) :
    Calls Tryd.prog 41 #[.slice a n cap] w fun e w' => ∃ v, e = .returned v ∧ w'.ownsRow w.heap.size 50 1 v n (wvals B n) ∧ Below w.heap.size w w' := by
  rcases hB with h | ⟨b, off, rfl, hnc, hcap, hbs, hcell⟩
  · omega
  · obtain ⟨i0, hi, hz0, hz1, hz2⟩ := info_parts infoW
    have hnew : ∀ (w1 : World), Below w.heap.size w w1 → ∀ j u, (wvals B n)[j]? = some u → w1.cell? ((⟨b, off, none⟩ : Addr).add j) = some u := by
      intro w1 hb j u hj
      have hjn : j < n := by
        have := (List.getElem?_eq_some_iff.1 hj).1
        rwa [wvals_length] at this
      rw [wvals_get _ _ _ hjn] at hj
      cases hj
      have ea : (⟨b, off, none⟩ : Addr).add j = ⟨b, off + j, none⟩ := by simp only [Addr.add]; split <;> simp_all
      rw [ea]
      exact (hb.cell (p := ⟨b, off + j, none⟩) hbs).trans (hcell j hjn).1
    clear hcell
    have hnil : ∀ w, (binOp BinOp.eql 23 (.slice (some ⟨b, off, none⟩) n cap) (.slice none 0 0)).run Tryd.prog w = .ok (.bool false) w := fun w => (Lib.run_eql_slice_nil w _ _ _ _ _ _ _ Tryd.underlying23)
    go_enter Tryd.func41, Tryd.ntmps41
    go_wp2_with (at_builtin; go_loud ( refine wpList_append_own_at _ rfl _ _ 23 rfl w.heap.size 50 i0 (.int .u64 0) 1 8 Tryd.underlying23 hi hz0 hz1 hz2 rfl (by decide) _ _ _ rfl (World.ownsRow_made w #[] 0 (Nat.le_refl _) (by decide) rfl) ⟨b, off, none⟩ n cap (wvals B n) rfl ?c1 ?c2 ?c3 ?c4 ?c5 ?c6 ?_))
    case c1 => rw [wvals_length, Nat.mul_one]
    case c2 => exact hnew _ ((Below.refl _ _).alloc (Nat.le_refl _) _)
    case c3 => intro u hu; unfold wvals at hu; simp at hu; obtain ⟨i, _, rfl⟩ := hu; rfl
    case c4 => unfold maxLen; omega
    case c5 => omega
    case c6 => simp
    intro v' w1 hown hgrow _ _
    go_wp2
    go_ret
    exact ⟨_, rfl, hown, ((Below.refl _ _).alloc (Nat.le_refl _) _).grown hgrow (by simp) (fun q hq => by simp [Value.ownBlock] at hq; omega)⟩

theorem IsWords.lt {w : World} {a : Option Addr} {n cap : Nat} {L : Nat → Nat} (h : IsWords w a n cap L) : ∀ i, i < n → L i < 2 ^ 64 := by
  intro i hi
  rcases h with h | ⟨b, off, h1, h2, h3, h4, h5⟩
  · omega
  · exact (h5 i hi).2
theorem clone1 (a : Option Addr) (n cap : Nat) (B : Nat → Nat) (w : World) (hB : IsWords w a n cap B) (h0 : 0 < n) (hn : n ≤ 17179869184) :
    Calls Tryd.prog 41 #[.slice a n cap] w fun e w' => ∃ c cap', e = .returned (.slice c n cap') ∧ IsWords w' c n cap' B ∧ Below w.heap.size w w' :=
  (clone0 a n cap B w hB h0 hn).mono fun e w' ⟨v, he, ho, hb⟩ => by
    obtain ⟨c, cap', hv, hw⟩ := isWords_of_owns ho hB.lt
    exact ⟨c, cap', by rw [he, hv], hw, hb⟩

set_option maxHeartbeats 1000000 in
theorem from_no (W H : Int) (a : Option Addr) (n cap : Nat) (B : Nat → Nat) (w : World) (hB : IsWords w a n cap B) (hb : ¬ okB W H n B) :
    Calls Tryd.prog 24 #[.agg #[.int .i64 W, .int .i64 H, .slice a n cap]] w fun e w' => e = .returned (.tuple #[.pointer none, .int .i64 21]) ∧ Below w.heap.size w w' := by
  have hbel := (Below.refl w.heap.size w).alloc (Nat.le_refl _) (.cells #[.int .i64 W, .int .i64 H, .slice a n cap] 25)
  have hc := check0 W H a n cap B false _ (hB.below hbel) (by simp [hb])
  have HC := Lib.hid hc
  have HL := Lib.hid hbel
  clear hc hB hb hbel
  go_enter Tryd.func24, Tryd.ntmps24
  go_wp2_with (go_at_call 40; refine HC.out.mono ?_; rintro e w' ⟨rfl, hb2⟩)
  go_ret2
  exact ⟨rfl, HL.out.trans (hb2.mono (by simp))⟩

set_option maxHeartbeats 2000000 in
theorem from_ok (W H : Nat) (a : Option Addr) (n cap : Nat) (B : Nat → Nat) (w : World) (hB : IsWords w a n cap B) (hb : okB W H n B) :
    Calls Tryd.prog 24 #[.agg #[.int .i64 (W : Int), .int .i64 (H : Int), .slice a n cap]] w fun e w' => ∃ v, e = .returned (.tuple #[v, .int .i64 0]) ∧ IsMap w' v W H B ∧ Below w.heap.size w w' := by
  have hbel := (Below.refl w.heap.size w).alloc (Nat.le_refl _) (.cells #[.int .i64 (W : Int), .int .i64 (H : Int), .slice a n cap] 25)
  have hc := check0 W H a n cap B true _ (hB.below hbel) (by simp [hb])
  have HC := Lib.hid hc
  have HL := Lib.hid hbel
  have HB := Lib.hid hb
  clear hc hb hbel
  go_enter Tryd.func24, Tryd.ntmps24
  go_upto_region 3 with (go_at_call 40; refine HC.out.mono ?_; rintro e w1 ⟨rfl, hb2⟩)
  have b1 : Below w.heap.size w w1 := HL.out.trans (hb2.mono (by simp))
  have k0 : w1.cell? ⟨w.heap.size, 0, none⟩ = some (.int .i64 (W : Int)) := (hb2.cell (p := ⟨w.heap.size, 0, none⟩) (by simp)).trans (by rw [World.cell?_alloc_at _ _ _ _ rfl]; rfl)
  have k1 : w1.cell? ⟨w.heap.size, 1, none⟩ = some (.int .i64 (H : Int)) := (hb2.cell (p := ⟨w.heap.size, 1, none⟩) (by simp)).trans (by rw [World.cell?_alloc_at _ _ _ _ rfl]; rfl)
  have k2 : w1.cell? ⟨w.heap.size, 2, none⟩ = some (.slice a n cap) := (hb2.cell (p := ⟨w.heap.size, 2, none⟩) (by simp)).trans (by rw [World.cell?_alloc_at _ _ _ _ rfl]; rfl)
  have hws : w.heap.size < w1.heap.size := Nat.lt_of_lt_of_le (by simp) hb2.size
  have hB1 := Lib.hid (hB.below b1)
  have HB1 := Lib.hid b1
  clear hb2 b1 HC HL hB
  obtain ⟨⟨hw1, hw2, hw3⟩, hn, hcl⟩ := HB.out
  obtain ⟨hw4, hw5⟩ := okS_le ⟨hw1, hw2, hw3⟩
  have hww := wd_le (W := W) (by omega)
  have hHw : H * wd W ≤ 1048576 * 16384 := Nat.mul_le_mul (by omega) hww
  have hwp : 1 ≤ wd W := by unfold wd; omega
  have hHp : 1 * 1 ≤ H * wd W := Nat.mul_le_mul (by omega) hwp
  simp only [Int.toNat_natCast] at hn
  have hwd : ((W : Int) + 63) / 64 = (wd W : Int) := by unfold wd; omega
  clear hcl hw3
  subst hn
  obtain ⟨W0, hW0⟩ : ∃ W0, w.heap.size = W0 := ⟨_, rfl⟩
  rw [hW0] at k0 k1 k2 hws ⊢
  go_region_held3 (fun w' => w'.cell? ⟨W0, 0, none⟩ = some (.int .i64 (W : Int)) ∧ w'.cell? ⟨W0, 1, none⟩ = some (.int .i64 (H : Int)) ∧ w'.cell? ⟨W0, 2, none⟩ = some (.slice a (H * wd W) cap)) (go_keep)
    ((go_at_call 41; refine (clone1 a (H * wd W) cap B _ ?_ (by omega) (by omega)).mono ?_; exact hB1.out; rintro e w2 ⟨cc, cap2, rfl, hwo, hbel2⟩; have HWO := Lib.hid hwo; have bel2 : Below w1.heap.size w1 w2 := Below.trans (Below.drew (Below.refl _ w1)) hbel2; have k0 := (bel2.cell (p := ⟨W0, 0, none⟩) hws).trans k0; have k1 := (bel2.cell (p := ⟨W0, 1, none⟩) hws).trans k1; have k2 := (bel2.cell (p := ⟨W0, 2, none⟩) hws).trans k2))
  have ew : IntKind.i64.wrap ((IntKind.i64.wrap ((W : Int) + 63)).tdiv 64) = (wd W : Int) := by
    rw [IntWalk.i64_in _ (show -9223372036854775808 ≤ (W : Int) + 63 ∧ (W : Int) + 63 ≤ 9223372036854775807 by omega), Int.tdiv_eq_ediv_of_nonneg (by omega), hwd]
    exact IntWalk.i64_in _ (by omega)
  rw [ew]
  clear ew hwd k0 k1 k2
  have hnew : IsMap (w2.alloc (.cells #[.int .i64 (W : Int), .int .i64 (H : Int), .int .i64 (wd W : Int), .slice cc (H * wd W) cap2] 75)) (.pointer (some ⟨w2.heap.size, 0, none⟩)) W H B :=
    ⟨w2.heap.size, cc, cap2, rfl, by simp, by rw [World.cell?_alloc_at _ _ _ _ rfl]; rfl, by rw [World.cell?_alloc_at _ _ _ _ rfl]; rfl, by rw [World.cell?_alloc_at _ _ _ _ rfl]; rfl, by rw [World.cell?_alloc_at _ _ _ _ rfl]; rfl, HWO.out.below ((Below.refl _ _).alloc (Nat.le_refl _) _)⟩
  have HN := Lib.hid hnew
  have hb3 : Below w.heap.size w (w2.alloc (.cells #[.int .i64 (W : Int), .int .i64 (H : Int), .int .i64 (wd W : Int), .slice cc (H * wd W) cap2] 75)) :=
    (HB1.out.trans (bel2.mono HB1.out.size)).alloc (Nat.le_trans HB1.out.size bel2.size) _
  have H3 := Lib.hid hb3
  clear hnew hb3 bel2 HWO HB1
  go_wp2
  go_ret2
  rw [← hW0]
  exact ⟨_, rfl, HN.out, H3.out⟩
end Go.Proofs.YtgpjpmadbepblaaDoor
