/- The walk of MeasureMiddle. -/
import Derived.Test.YtokdgppaedklhaaL10
import Derived.Test.YtokdgppaedklhaaFlS
import Derived.Maps.AppendAt
namespace Go.FlW
open Fl
/-- the bounds of the first k values -/
def Bnd (X : Nat → Int) (k : Nat) (a b : Int) : Prop := (k = 0 ∨ ((-1000 ≤ a ∧ a ≤ 1000) ∧ (-1000 ≤ b ∧ b ≤ 1000))) ∧ ∀ i, i < k → a ≤ X i ∧ X i ≤ b
theorem Bnd.zero (X : Nat → Int) (a b : Int) : Bnd X 0 a b := ⟨Or.inl rfl, fun i h => by omega⟩
theorem Bnd.step {X : Nat → Int} {k : Nat} {a b a' b' : Int} (h : Bnd X k a b) (hx : -1000 ≤ X k ∧ X k ≤ 1000)
    (ha : (a' = X k ∧ (k = 0 ∨ X k < a)) ∨ (a' = a ∧ k ≠ 0 ∧ ¬ X k < a)) (hb : (b' = X k ∧ (k = 0 ∨ b < X k)) ∨ (b' = b ∧ k ≠ 0 ∧ ¬ b < X k)) : Bnd X (k + 1) a' b' := by
  obtain ⟨h1, h2⟩ := h
  refine ⟨Or.inr (by omega), fun i hi => ?_⟩
  by_cases e : i = k
  · subst e; omega
  · have := h2 i (by omega)
    omega
theorem fi_less {a b : Int} (ha : InR a) (hb : InR b) : (FloatKind.f64.format.order (fi a) (fi b) == some .lt) = decide (a < b) ∧ (FloatKind.f64.format.order (fi a) (fi b) == some .gt) = decide (b < a) := by
  rw [ord_lt, ord_gt, (fi_parts ha).2.1, (fi_parts hb).2.1]
  have h1 := key_fi_le ha hb
  have h2 := key_fi_le hb ha
  generalize key D (fi a) = x at *
  generalize key D (fi b) = y at *
  constructor
  · simp only [Bool.not_false, Bool.true_and]; congr 1; exact propext ⟨fun _ => by omega, fun _ => by omega⟩
  · simp only [Bool.not_false, Bool.true_and]; congr 1; exact propext ⟨fun _ => by omega, fun _ => by omega⟩
end Go.FlW
namespace Go.Proofs.Ytokdgppaedklhaa
open Go.RowKit Fl Go.FlW

def XM (N : Nat → Int) (i : Nat) : Int := (N i).tmod 1000
theorem XM_bound (N : Nat → Int) (i : Nat) : -1000 ≤ XM N i ∧ XM N i ≤ 1000 := by
  have h1 := Int.tmod_lt_of_pos (N i) (show (0 : Int) < 1000 by omega)
  have h2 := Int.lt_tmod_of_pos (N i) (show (0 : Int) < 1000 by omega)
  unfold XM; omega

/-- what the first round knows -/
structure MidI (w : World) (N : Nat → Int) (k : Nat) (v u lo hi : Value) (wr : World) : Prop where
  all : wr.ownsRow w.heap.size 23 1 v k (flts (fun i => fi (XM N i)) k)
  both : wr.ownsRow w.heap.size 23 1 u (k * 2) (flts (turnF (XM N)) (k * 2))
  apart : v.ownBlock = none ∨ v.ownBlock ≠ u.ownBlock
  bnd : ∃ a b : Int, lo = .float .f64 (fi a) ∧ hi = .float .f64 (fi b) ∧ Bnd (XM N) k a b
  bel : Below w.heap.size w wr

theorem own_lt {w : World} {base : Nat} {e : TypeId} {s : Nat} {v : Value} {n : Nat} {xs : List Value} (h : w.ownsRow base e s v n xs) : v.ownBlock = none ∨ ∃ g, v.ownBlock = some g ∧ g < w.heap.size := by
  rcases h.2 with ⟨rfl, _⟩ | ⟨g, cap, cur, rfl, _, hh, _⟩
  · exact Or.inl rfl
  · exact Or.inr ⟨g, rfl, (Array.getElem?_eq_some_iff.1 hh).1⟩
theorem apart_app {v u v' : Value} {w : World} {base : Nat} {e : TypeId} {s n : Nat} {xs : List Value} (hu : w.ownsRow base e s u n xs) (h : v.ownBlock = none ∨ v.ownBlock ≠ u.ownBlock)
    {H : Nat} (hH : w.heap.size ≤ H) (hat : v'.ownBlock = v.ownBlock ∨ v'.ownBlock = some H) : v'.ownBlock = none ∨ v'.ownBlock ≠ u.ownBlock := by
  rcases hat with hat | hat
  · rw [hat]; exact h
  · right
    rw [hat]
    rcases own_lt hu with h | ⟨g, h, hg⟩ <;> rw [h]
    · simp
    · intro e; cases e; omega
theorem apart_swap {v u : Value} (h : v.ownBlock = none ∨ v.ownBlock ≠ u.ownBlock) : u.ownBlock = none ∨ u.ownBlock ≠ v.ownBlock := by
  rcases h with h | h
  · rw [h]; cases u.ownBlock <;> simp
  · exact Or.inr (fun e => h e.symm)

theorem quietLn {f : FuncId} {args : Array Value} {w : World} {n : Nat} {v : Value}
    (h : Calls Try.prog f args (w.drewN n) fun e w' => e = .returned v ∧ ∃ k, (w.drewN n).drewN k = w') :
    Calls Try.prog f args (w.drewN n) fun e w'' => e = .returned v ∧ ∃ m, w'' = w.drewN m :=
  h.mono fun _ _ ⟨he, k, hm⟩ => ⟨he, n + k, by rw [← hm, World.drewN_drewN]⟩
theorem mean_is {v : Value} {len x : Nat} {L : Nat → Nat} (w : World) (h : IsFl w v len L) (hm : meanC L len = some x) :
    Calls Try.prog 18 #[v] w fun e w' => e = .returned (.float .f64 x) ∧ ∃ k, w.drewN k = w' :=
  (mean18 v len L w h).mono fun e w' ⟨r, he, hr, _, hk⟩ => by
    rw [hm] at hr
    unfold cl at hr
    cases n : isNaN D r <;> rw [n] at hr <;> simp at hr
    subst hr
    exact ⟨he, hk⟩
theorem mean_isN {v : Value} {len x : Nat} {L : Nat → Nat} (w : World) (n : Nat) (h : IsFl w v len L) (hm : meanC L len = some x) :
    Calls Try.prog 18 #[v] (w.drewN n) fun e w'' => e = .returned (.float .f64 x) ∧ ∃ m, w'' = w.drewN m :=
  quietLn (mean_is _ (h.below (below_drewN (Below.refl _ _) n)) hm)
theorem turnF_lt (X : Nat → Int) (i : Nat) : turnF X i < 2 ^ 64 := by
  unfold turnF; split
  · exact fi_lt _
  · exact negF_lt (fi_lt _)
theorem fi_cmp {x : Nat} {a : Int} (ha : InR a) (nx : isNaN D x = false) :
    (key D (fi a) ≤ key D x → (FloatKind.f64.format.order x (fi a) == some .gt || FloatKind.f64.format.order x (fi a) == some .eq) = true) ∧
    (key D x ≤ key D (fi a) → (FloatKind.f64.format.order x (fi a) == some .lt || FloatKind.f64.format.order x (fi a) == some .eq) = true) ∧
    (key D x = key D (fi a) → (FloatKind.f64.format.order x (fi a) == some .eq) = true) := by
  have na := (fi_parts ha).2.1
  refine ⟨fun h => ?_, fun h => ?_, fun h => ?_⟩
  · rw [ord_ge, nx, na, decide_eq_true h]; rfl
  · rw [ord_le, nx, na, decide_eq_true h]; rfl
  · rw [ord_eq, nx, na, decide_eq_true h]; rfl

set_option maxRecDepth 100000 in
set_option maxHeartbeats 4000000 in
theorem middle_walk (a : Option Addr) (len cap : Nat) (N M : Nat → Int) (w : World) (h : IsPairs w a len cap N M) :
    Calls Try.prog 6 #[.slice a len cap] w fun e w' => e = .returned (.bool true) ∧ Below w.heap.size w w' := by
  obtain ⟨i0, hi, hz0, hz1, hz2⟩ := info_parts info23
  by_cases h200 : len ≤ 200
  · rcases h with rfl | ⟨b, off, rfl, hl, hc, hb, hcell⟩
    · go_enter Try.func6, Try.ntmps6
      go_wp2_with (go_at_call 14; refine (wakes14 _).mono ?_; rintro e w' ⟨rfl, n, rfl⟩)
      go_ret
      exact ⟨rfl, below_drewN (Below.refl _ _) _⟩
    · by_cases h0 : len = 0
      · subst h0
        go_enter Try.func6, Try.ntmps6
        go_wp2_with (go_at_call 14; refine (wakes14 _).mono ?_; rintro e w' ⟨rfl, n, rfl⟩)
        go_ret
        exact ⟨rfl, below_drewN (Below.refl _ _) _⟩
      · have hz : ((len : Int) == 0) = false := by simp; omega
        have hg : decide ((200 : Int) < (len : Int)) = false := by simp; omega
        go_enter Try.func6, Try.ntmps6
        go_wp2
        go_loopw [3, 4, 5, 6, 7, 8] (fun v u lo hi i x wr => ∃ k : Nat, k ≤ len ∧ i = .int .i64 k ∧ MidI w N k v u lo hi wr) (fun _ _ _ _ i _ _ => len - (intOf i).toNat)
        case atStart => exact ⟨0, Nat.zero_le _, rfl, World.ownsRow_nil _ _ _ _, World.ownsRow_nil _ _ _ _, Or.inl rfl, ⟨0, 0, rfl, rfl, Bnd.zero _ _ _⟩, Below.refl _ _⟩
        case round =>
          obtain ⟨k, hk, rfl, HM⟩ := hrel
          by_cases hlt : k < len
          · obtain ⟨c1, _, c3, _⟩ := hcell k hlt
            have c1 := (HM.bel.cell (p := ⟨b, off + k * 2, none⟩) hb).trans c1
            clear hcell
            go_upto_region 10 with fail
            generalize hx : floatOfInt FloatKind.f64 ((N k).tmod 1000) = x
            have hx : x = fi (XM N k) := hx.symm
            obtain ⟨lo0, hi0, rfl, rfl, HB⟩ := HM.bnd
            obtain ⟨f1, f2, f3, f4, f5⟩ := HM
            have HX := Lib.hid hx
            have HA := Lib.hid f3
            have HBd := Lib.hid HB
            have HU := Lib.hid f2
            have hws := f5.size
            clear hx f3 HB f2 f4 c1
            go_upto_region 11 with (at_builtin; refine wpList_append_own_at _ rfl _ _ 40 rfl w.heap.size 23 i0 (.float .f64 0) 1 8 Try.underlying40 hi hz0 hz1 hz2 rfl (by decide) _ _ _ rfl (f1.alloc _) ⟨wr.heap.size, 0, none⟩ 1 1 [.float .f64 x] rfl rfl (cell_one_new _ _ _) (fun u hu => by simp at hu; subst hu; rfl) (by unfold maxLen; omega) (by omega) (by simp; omega) ?_)
            intro v' w1 g1 hgrow _ hat
            have hbel1 : Below w.heap.size w w1 := (f5.alloc hws _).grown hgrow (by simp; omega) (fun q hq => (f1.lt q hq).1)
            have g2 := (HU.out.alloc (.cells #[.float .f64 x] 23)).kept hgrow (apart_swap HA.out)
            have g3 := apart_app HU.out HA.out (Nat.le_succ _) hat
            have hneg : Op.unary .neg (.float .f64 x) = pure (.float .f64 (Op.negFloat .f64 x)) := rfl
            clear hgrow f1 hat
            have HG1 := Lib.hid g1
            have HG3 := Lib.hid g3
            have hw1 := hbel1.size
            clear g1 g3
            go_upto_region 12 with (at_builtin; refine wpList_append_own_at _ rfl _ _ 40 rfl w.heap.size 23 i0 (.float .f64 0) 1 8 Try.underlying40 hi hz0 hz1 hz2 rfl (by decide) _ _ _ rfl (g2.alloc _) ⟨w1.heap.size, 0, none⟩ 2 2 [.float .f64 x, .float .f64 (Op.negFloat .f64 x)] rfl rfl ?c1 (fun u hu => by simp at hu; rcases hu with rfl | rfl <;> rfl) (by unfold maxLen; omega) (by omega) (by simp; omega) ?_)
            case c1 =>
              intro j u hj
              match j, hj with
              | 0, hj => simp at hj; subst hj; simp [Addr.add]
              | 1, hj => simp at hj; subst hj; simp [Addr.add]
            intro u' w2 k2 hgrow _ hat
            have hbel2 : Below w.heap.size w w2 := (hbel1.alloc hw1 _).grown hgrow (by simp; omega) (fun q hq => (g2.lt q hq).1)
            have k1 := (HG1.out.alloc (.cells #[.float .f64 x, .float .f64 (Op.negFloat .f64 x)] 23)).kept hgrow HG3.out
            have k3 := apart_swap (apart_app HG1.out (apart_swap HG3.out) (Nat.le_succ _) hat)
            clear hgrow hat g2 hneg HG1 HG3 HU HA hbel1 hw1
            rw [HX.out] at k1 k2
            rw [← turnF_odd (XM N) k, ← turnF_even (XM N) k] at k2
            have k2 : w2.ownsRow w.heap.size 23 1 u' ((k + 1) * 2) (flts (turnF (XM N)) ((k + 1) * 2)) := by
              rw [show (k + 1) * 2 = k * 2 + 1 + 1 by omega, flts_succ, flts_succ, List.append_assoc]; exact k2
            have k1 : w2.ownsRow w.heap.size 23 1 v' (k + 1) (flts (fun i => fi (XM N i)) (k + 1)) := by rw [flts_succ]; exact k1
            have HK := Lib.hid (And.intro k1 (And.intro k2 k3))
            clear k1 k2 k3 hi hz0 hz1 hz2 hws
            by_cases hk0 : k = 0
            · subst hk0
              clear hlt hk
              go_wp2
              go_roundw
              case rel => exact ⟨1, by omega, by go_num, HK.out.1, HK.out.2.1, HK.out.2.2, ⟨XM N 0, XM N 0, by rw [HX.out], by rw [HX.out], HBd.out.step (XM_bound N 0) (Or.inl ⟨rfl, Or.inl rfl⟩) (Or.inl ⟨rfl, Or.inl rfl⟩)⟩, hbel2⟩
              case measure => simp [intOf]; omega
            · have hne : ((k : Int) == 0) = false := by simp; omega
              have hb0 := HBd.out.1
              have hxb := XM_bound N k
              have o1 := (fi_less (a := XM N k) (b := lo0) (InR_small (by omega)) (InR_small (by omega))).1
              have o2 := (fi_less (a := XM N k) (b := hi0) (InR_small (by omega)) (InR_small (by omega))).2
              have HK0 := Lib.hid hk0
              rw [← HX.out] at o1 o2
              clear hb0 hxb hk0
              by_cases q1 : XM N k < lo0
              · by_cases q2 : hi0 < XM N k
                · rw [decide_eq_true q1] at o1
                  rw [decide_eq_true q2] at o2
                  have HQ := Lib.hid (And.intro q1 q2)
                  clear q1 q2
                  go_wp2
                  go_roundw
                  case rel => exact ⟨k + 1, by omega, by go_num, HK.out.1, HK.out.2.1, HK.out.2.2, ⟨XM N k, XM N k, by rw [HX.out], by rw [HX.out], HBd.out.step (XM_bound N k) (Or.inl ⟨rfl, Or.inr HQ.out.1⟩) (Or.inl ⟨rfl, Or.inr HQ.out.2⟩)⟩, hbel2⟩
                  case measure => simp [intOf]; omega
                · rw [decide_eq_true q1] at o1
                  rw [decide_eq_false q2] at o2
                  have HQ := Lib.hid (And.intro q1 q2)
                  clear q1 q2
                  go_wp2
                  go_roundw
                  case rel => exact ⟨k + 1, by omega, by go_num, HK.out.1, HK.out.2.1, HK.out.2.2, ⟨XM N k, hi0, by rw [HX.out], rfl, HBd.out.step (XM_bound N k) (Or.inl ⟨rfl, Or.inr HQ.out.1⟩) (Or.inr ⟨rfl, HK0.out, HQ.out.2⟩)⟩, hbel2⟩
                  case measure => simp [intOf]; omega
              · by_cases q2 : hi0 < XM N k
                · rw [decide_eq_false q1] at o1
                  rw [decide_eq_true q2] at o2
                  have HQ := Lib.hid (And.intro q1 q2)
                  clear q1 q2
                  go_wp2
                  go_roundw
                  case rel => exact ⟨k + 1, by omega, by go_num, HK.out.1, HK.out.2.1, HK.out.2.2, ⟨lo0, XM N k, rfl, by rw [HX.out], HBd.out.step (XM_bound N k) (Or.inr ⟨rfl, HK0.out, HQ.out.1⟩) (Or.inl ⟨rfl, Or.inr HQ.out.2⟩)⟩, hbel2⟩
                  case measure => simp [intOf]; omega
                · rw [decide_eq_false q1] at o1
                  rw [decide_eq_false q2] at o2
                  have HQ := Lib.hid (And.intro q1 q2)
                  clear q1 q2
                  go_wp2
                  go_roundw
                  case rel => exact ⟨k + 1, by omega, by go_num, HK.out.1, HK.out.2.1, HK.out.2.2, ⟨lo0, hi0, rfl, rfl, HBd.out.step (XM_bound N k) (Or.inr ⟨rfl, HK0.out, HQ.out.1⟩) (Or.inr ⟨rfl, HK0.out, HQ.out.2⟩)⟩, hbel2⟩
                  case measure => simp [intOf]; omega
          · obtain rfl : k = len := by omega
            have hall := isFl_of_owns HM.all (fun i _ => fi_lt _)
            have hboth := isFl_of_owns HM.both (fun i _ => turnF_lt _ i)
            obtain ⟨lo0, hi0, rfl, rfl, HB⟩ := HM.bnd
            have hbel0 := HM.bel
            have hbb := HB.1
            have iLo : InR lo0 := InR_small (by omega)
            have iHi : InR hi0 := InR_small (by omega)
            have iX : InR (XM N 0) := InR_small (by have := XM_bound N 0; omega)
            obtain ⟨m, hm, nm, km1, km2⟩ := mean_int (XM N) (XM_bound N) k (by omega) (by omega) lo0 hi0 iLo iHi HB.2
            obtain ⟨y, hy, ny, ky1, ky2⟩ := mean_int (fun _ => XM N 0) (fun _ => XM_bound N 0) k (by omega) (by omega) _ _ iX iX (fun _ _ => ⟨Int.le_refl _, Int.le_refl _⟩)
            have ht := mean_turn (XM N) (XM_bound N) k (by omega) (by omega)
            have o1 := (fi_cmp iLo nm).1 km1
            have o2 := (fi_cmp iHi nm).2.1 km2
            have o3 := (fi_cmp iX ny).2.2 (by omega)
            have oz : (FloatKind.f64.format.order 0 0 == some .eq) = true := by decide
            obtain ⟨Lo, hLo⟩ : ∃ z, fi lo0 = z := ⟨_, rfl⟩
            obtain ⟨Hi, hHi⟩ : ∃ z, fi hi0 = z := ⟨_, rfl⟩
            obtain ⟨x0, hX0⟩ : ∃ z, fi (XM N 0) = z := ⟨_, rfl⟩
            rw [hLo] at o1 ⊢
            rw [hHi] at o2 ⊢
            rw [hX0] at o3
            have HH := Lib.hid hm
            have HY := Lib.hid hy
            have HT := Lib.hid ht
            have HX := Lib.hid hX0
            have HF := Lib.hid hall
            have HG := Lib.hid hboth
            have hk0 : 0 < k := by omega
            clear hm hy ht hX0 hall hboth HM HB hbb iLo iHi iX km1 km2 ky1 ky2 nm ny hlt hk hLo hHi hcell
            go_upto_region 17 with (go_at_call 18; refine (mean_is _ HF.out HH.out).mono ?_; rintro e w1 ⟨rfl, n1, hw1⟩)
            have hbelm : Below wr.heap.size wr w1 := by rw [← hw1]; exact below_drewN (Below.refl _ _) _
            have hbelw := hbel0.trans (hbelm.mono hbel0.size)
            have HF1 := Lib.hid (HF.out.below hbelm)
            have HG1 := Lib.hid (HG.out.below hbelm)
            obtain ⟨fa, fcap, rfl, hfc⟩ := HF1.out
            clear hw1 hbel0 hbelm HF HG
            rcases hfc with hfc | ⟨g, rfl, hgc, hgm, hgs, hgcell⟩
            · omega
            · have hc0 := (hgcell 0 hk0).1
              clear hgcell
              go_wp2
              go_loopw [10, 11] (fun s i wz => ∃ j : Nat, j ≤ k ∧ i = .int .i64 j ∧ wz.ownsRow w1.heap.size 23 1 s j (flts (fun _ => x0) j) ∧ Below w1.heap.size w1 wz) (fun _ i _ => k - (intOf i).toNat)
              case atStart => exact ⟨0, Nat.zero_le _, rfl, World.ownsRow_nil _ _ _ _, Below.refl _ _⟩
              case round =>
                obtain ⟨j, hj, rfl, hown, hbz⟩ := hrel
                by_cases hlt : j < k
                · have hcz := (hbz.cell (p := ⟨g, 0, none⟩) hgs).trans hc0
                  simp only [HX.out] at hcz
                  have hkp : (0 : Int) < (k : Int) := by omega
                  go_wp2_with (at_builtin; refine wpList_append_own_at _ rfl _ _ 40 rfl w1.heap.size 23 i0 (.float .f64 0) 1 8 Try.underlying40 hi hz0 hz1 hz2 rfl (by decide) _ _ _ rfl (hown.alloc _) ⟨wr.heap.size, 0, none⟩ 1 1 [.float .f64 x0] rfl rfl ?c1 ?c2 ?c3 ?c4 ?c5 ?_)
                  case c1 => exact cell_one_new _ _ _
                  case c2 => intro u hu; simp at hu; subst hu; rfl
                  case c3 => unfold maxLen; omega
                  case c4 => omega
                  case c5 => have := hbz.size; simp; omega
                  intro v' w2 hown' hgrow _ _
                  have hbel : Below w1.heap.size w1 w2 := (hbz.alloc hbz.size _).grown hgrow (by have := hbz.size; simp; omega) (fun q hq => (hown.lt q hq).1)
                  have HO : Hid (w2.ownsRow w1.heap.size 23 1 v' (j + 1) (flts (fun _ => x0) (j + 1))) := by unfold Hid; rw [flts_succ]; exact hown'
                  clear hgrow hown hcz hown'
                  go_wp2
                  go_roundw
                  case rel => exact ⟨j + 1, by omega, by go_num, HO.out, hbel⟩
                  case measure => simp [intOf]; omega
                · obtain rfl : j = k := by omega
                  have hsame := isFl_of_owns hown (fun i _ => by rw [← HX.out]; exact fi_lt _)
                  have hcz := (hbz.cell (p := ⟨g, 0, none⟩) hgs).trans hc0
                  simp only [HX.out] at hcz
                  have HS := Lib.hid hsame
                  have HG2 := Lib.hid (HG1.out.below hbz)
                  have hkp : (0 : Int) < (j : Int) := by omega
                  have HYy : Hid (meanC (fun _ => x0) j = some y) := by unfold Hid; rw [← HX.out]; exact HY.out
                  have hend := hbelw.trans (hbz.mono hbelw.size)
                  clear hown hsame hbz hbelw HF1 HG1 hlt hc0 hi hz0 hz1 hz2
                  go_wp2
                  go_quiet ((first | (go_at_call 18; exact mean_isN _ _ HG2.out HT.out) | (go_at_call 18; exact mean_isN _ _ HS.out HYy.out) | (go_at_call 14; exact quietLn (wakes14 _))))
                  go_wp2
                  go_ret
                  exact ⟨rfl, below_drewN hend _⟩
  · have hg : decide ((200 : Int) < (len : Int)) = true := by simp; omega
    have hz : ((len : Int) == 0) = false := by simp; omega
    rcases h with rfl | ⟨b, off, rfl, hl, hc, hb, hcell⟩
    · omega
    · clear hcell
      go_enter Try.func6, Try.ntmps6
      go_wp2_with (go_at_call 14; refine (wakes14 _).mono ?_; rintro e w' ⟨rfl, n, rfl⟩)
      go_ret
      exact ⟨rfl, below_drewN (Below.refl _ _) _⟩
end Go.Proofs.Ytokdgppaedklhaa
