/- The statement ContextOne (closed): contexts about one black pixel; its walk. No condition. -/
import Derived.Test.YtknhgenhknjkoaaAi
namespace Go.Bm
/-- one black pixel -/
def P1 (x y : Int) : Nat := if x = 10 ∧ y = 4 then 1 else 0
def B1 : Nat → Nat := setB (fun _ => 0) 20 10 4 1
theorem px_zero (W H : Nat) (x y : Int) : px W H (fun _ => 0) x y = 0 := by unfold px; split <;> simp
theorem px_B1 (x y : Int) : px 20 9 B1 x y = P1 x y := by
  by_cases hin : 0 ≤ x ∧ x < (20 : Nat) ∧ 0 ≤ y ∧ y < (9 : Nat)
  · rw [B1, px_setB 20 9 _ 10 4 1 (by decide) (by decide) x y hin, px_zero]; rfl
  · rw [px_far hin]
    unfold P1
    rw [if_neg (by omega)]
theorem okB_B1 : okB ((20 : Nat) : Int) ((9 : Nat) : Int) (9 * wd 20) B1 := by
  refine okB_setB (W := 20) (H := 9) ⟨⟨by decide, by decide, by decide⟩, by decide, fun y _ => ?_⟩ (by decide)
  right; simp
def c1 (t m : Nat) : Nat := ctx t P1 ((m % 20 : Nat) : Int) ((m / 20 : Nat) : Int)
theorem ctx_B1 {t : Nat} (ht : t < 4) (x y : Nat) (hx : x < 20) : ctx t (px 20 9 B1) x y = c1 t (y * 20 + x) := by
  unfold c1
  have e1 : (y * 20 + x) % 20 = x := by omega
  have e2 : (y * 20 + x) / 20 = y := by omega
  rw [e1, e2]
  exact ctx_congr ht fun dx dy _ _ _ _ _ => px_B1 _ _
/-- what holds of pixel m, its context being v, s what has been gathered -/
def cond1 (m v s : Nat) : Bool := decide (s < 65536) && decide (v < 65536) && (v == 0 || (v &&& (v - 1) == 0 && s &&& v == 0 && decide (4 ≤ m / 20) && decide (m / 20 ≤ 6) && (decide (m / 20 ≠ 4) || decide (10 < m % 20))))
def go1 (t : Nat) : Nat → Nat → Nat → Nat → Bool
  | 0, _, s, c => s == csize t - 1 && 2 ^ c == csize t && decide (c ≤ 16)
  | f + 1, m, s, c => cond1 m (c1 t m) s && go1 t f (m + 1) (s ||| c1 t m) (if c1 t m = 0 then c else c + 1)
theorem go1_ok : ∀ t, t < 4 → go1 t 180 0 0 0 = true := by decide +kernel
def st1 (t : Nat) : Nat → Nat × Nat
  | 0 => (0, 0)
  | m + 1 => ((st1 t m).1 ||| c1 t m, if c1 t m = 0 then (st1 t m).2 else (st1 t m).2 + 1)
theorem st1_go {t : Nat} (ht : t < 4) : ∀ m, m ≤ 180 → go1 t (180 - m) m (st1 t m).1 (st1 t m).2 = true
  | 0, _ => go1_ok t ht
  | m + 1, h => by
    have ih := st1_go ht m (by omega)
    have e : 180 - m = (180 - (m + 1)) + 1 := by omega
    rw [e, go1] at ih
    simp only [Bool.and_eq_true] at ih
    exact ih.2
theorem st1_cond {t : Nat} (ht : t < 4) (m : Nat) (h : m < 180) : cond1 m (c1 t m) (st1 t m).1 = true := by
  have ih := st1_go ht m (by omega)
  have e : 180 - m = (180 - (m + 1)) + 1 := by omega
  rw [e, go1] at ih
  simp only [Bool.and_eq_true] at ih
  exact ih.1
theorem st1_end {t : Nat} (ht : t < 4) : (st1 t 180).1 = csize t - 1 ∧ 2 ^ (st1 t 180).2 = csize t ∧ (st1 t 180).2 ≤ 16 := by
  have := st1_go ht 180 (Nat.le_refl _)
  rw [Nat.sub_self, go1] at this
  simp only [Bool.and_eq_true, beq_iff_eq, decide_eq_true_eq] at this
  exact ⟨this.1.1, this.1.2, this.2⟩
theorem st1_le {t : Nat} (m : Nat) (h : m ≤ 180) : (st1 t m).2 ≤ m := by
  induction m with
  | zero => exact Nat.le_refl _
  | succ m ih => rw [st1]; dsimp only; have := ih (by omega); split <;> omega
theorem and_i64 (a b : Nat) (ha : a < 65536) (hb : b < 65536) : bits .and .i64 (a : Int) (b : Int) = ((a &&& b : Nat) : Int) ∧ bits .or .i64 (a : Int) (b : Int) = ((a ||| b : Nat) : Int) :=
  bits_nat .i64 63 (by decide) (fun n h0 h1 => by rw [IntKind.wrap_i64]; omega) a b (by omega) (by omega)
end Go.Bm
namespace Go.Proofs.Ytknhgenhknjkoaa
open Go.RowKit Go.Bm

theorem white_one (w : World) : Calls Try.prog 26 #[.int .i64 20, .int .i64 9] w fun e w' => ∃ g, e = .returned (.agg #[.int .i64 20, .int .i64 9, .slice (some ⟨g, 0, none⟩) 9 9]) ∧ IsOwn w' g 9 (fun _ => 0) ∧ w.heap.size ≤ g ∧ Below w.heap.size w w' := by
  have h := white0 20 9 w (by decide) (by decide)
  rw [show 9 * wd 20 = 9 from rfl] at h
  exact h
theorem put_one (g : Nat) (w : World) (h : IsOwn w g 9 (fun _ => 0)) : Calls Try.prog 24 #[.agg #[.int .i64 20, .int .i64 9, .slice (some ⟨g, 0, none⟩) 9 9], .int .i64 10, .int .i64 4, .int .i64 1] w fun e w' => e = .returned (.tuple #[]) ∧ IsOwn w' g 9 B1 ∧ w.grownBy w' (some g) :=
  put0 20 9 g 9 9 (fun _ => 0) 10 4 1 w (by decide) (by decide) rfl h (by decide) (by decide) (by decide)
theorem at_one (t x y g : Nat) (ht : t < 4) (hx : x < 20) (w : World) (h : IsOwn w g 9 B1) : Calls Try.prog 14 #[.agg #[.int .i64 20, .int .i64 9, .slice (some ⟨g, 0, none⟩) 9 9], .int .i64 (t : Int), .int .i64 (x : Int), .int .i64 (y : Int)] w
    fun e w' => e = .returned (.tuple #[.int .i64 (c1 t (y * 20 + x) : Nat), .int .i64 0]) ∧ Below w.heap.size w w' := by
  have h2 := at_ok 20 9 (some ⟨g, 0, none⟩) 9 9 B1 t x y w (h.words (by decide) (by decide)) okB_B1 ht
  rw [ctx_B1 ht x y hx] at h2
  exact h2

/-- what holds of the boxed bitmap -/
structure OInv (w : World) (gb g : Nat) (W' : World) : Prop where
  ge : w.heap.size ≤ gb
  lt : gb < W'.heap.size
  c0 : W'.cell? ⟨gb, 0, none⟩ = some (.int .i64 20)
  c1 : W'.cell? ⟨gb, 1, none⟩ = some (.int .i64 9)
  c2 : W'.cell? ⟨gb, 2, none⟩ = some (.slice (some ⟨g, 0, none⟩) 9 9)
  own : IsOwn W' g 9 B1
  bel : Below w.heap.size w W'
theorem OInv.step {w : World} {gb g : Nat} {W1 W2 : World} (h : OInv w gb g W1) (hb : Below W1.heap.size W1 W2) : OInv w gb g W2 :=
  ⟨h.ge, Nat.lt_of_lt_of_le h.lt hb.size, (hb.cell (p := ⟨gb, 0, none⟩) h.lt).trans h.c0, (hb.cell (p := ⟨gb, 1, none⟩) h.lt).trans h.c1, (hb.cell (p := ⟨gb, 2, none⟩) h.lt).trans h.c2, h.own.below hb, h.bel.trans (hb.mono (Nat.le_trans h.ge (Nat.le_of_lt h.lt)))⟩

set_option maxRecDepth 100000 in
set_option maxHeartbeats 8000000 in
theorem one_walk (w : World) : Calls Try.prog 7 #[] w fun e w' => e = .returned (.bool true) ∧ Below w.heap.size w w' := by
  go_enter Try.func7, Try.ntmps7
  go_upto_region 2 with (go_at_call 26; refine (white_one _).mono ?_; rintro e w1 ⟨g, rfl, hown, hge, hbel⟩)
  have hbx := (Below.refl w1.heap.size w1).alloc (Nat.le_refl _) (.cells #[.int .i64 20, .int .i64 9, .slice (some ⟨g, 0, none⟩) 9 9] 24)
  have HOW := Lib.hid (hown.below hbx)
  have HBE := Lib.hid (hbel.trans (hbx.mono hbel.size))
  have e0 : (w1.alloc (.cells #[.int .i64 20, .int .i64 9, .slice (some ⟨g, 0, none⟩) 9 9] 24)).cell? ⟨w1.heap.size, 0, none⟩ = some (.int .i64 20) := by rw [World.cell?_alloc_at _ _ _ _ rfl]; rfl
  have e1 : (w1.alloc (.cells #[.int .i64 20, .int .i64 9, .slice (some ⟨g, 0, none⟩) 9 9] 24)).cell? ⟨w1.heap.size, 1, none⟩ = some (.int .i64 9) := by rw [World.cell?_alloc_at _ _ _ _ rfl]; rfl
  have e2 : (w1.alloc (.cells #[.int .i64 20, .int .i64 9, .slice (some ⟨g, 0, none⟩) 9 9] 24)).cell? ⟨w1.heap.size, 2, none⟩ = some (.slice (some ⟨g, 0, none⟩) 9 9) := by rw [World.cell?_alloc_at _ _ _ _ rfl]; rfl
  have hgc : g < w1.heap.size := hown.lt
  have hgw : w.heap.size ≤ w1.heap.size := hbel.size
  obtain ⟨gb, hgb⟩ : ∃ gb, w1.heap.size = gb := ⟨_, rfl⟩
  rw [hgb] at e0 e1 e2 hgc hgw ⊢
  clear hgb hbx hown hbel
  generalize w1.alloc (.cells #[.int .i64 20, .int .i64 9, .slice (some ⟨g, 0, none⟩) 9 9] 24) = w2 at *
  go_upto_region 3 with (go_at_call 24; refine (put_one g _ HOW.out).mono ?_; rintro e w3 ⟨rfl, ho3, hg3⟩)
  have hl2 : gb < w2.heap.size := World.block_lt_of_cell? w2 _ e0
  have hI := Lib.hid (OInv.mk (w := w) (gb := gb) (g := g) (W' := w3) hgw (Nat.lt_of_lt_of_le hl2 hg3.size) ((hg3.cell_far ⟨gb, 0, none⟩ hl2 (by simp; omega)).trans e0) ((hg3.cell_far ⟨gb, 1, none⟩ hl2 (by simp; omega)).trans e1)
    ((hg3.cell_far ⟨gb, 2, none⟩ hl2 (by simp; omega)).trans e2) ho3 (HBE.out.grown hg3 HBE.out.size (fun k e => by cases e; exact hge)))
  clear e0 e1 e2 hl2 ho3 hg3 HOW HBE hgw hge
  go_wp2_with fail
  go_loopw [2] (fun v wr => ∃ t : Nat, t ≤ 4 ∧ v = .int .i64 t ∧ Hid (OInv w gb g wr)) (fun v _ => 4 - (intOf v).toNat)
  case atStart => exact ⟨0, by omega, rfl, hI⟩
  case round =>
    obtain ⟨t, ht4, rfl, hi⟩ := hrel
    by_cases hlt : t < 4
    · have htd : decide ((t : Int) < 4) = true := by simp; omega
      go_wp2_with fail
      go_loopw [3, 4, 5] (fun s c v wr => ∃ y : Nat, y ≤ 9 ∧ v = .int .i64 y ∧ s = .int .i64 ((st1 t (y * 20)).1 : Nat) ∧ c = .int .i64 ((st1 t (y * 20)).2 : Nat) ∧ Hid (OInv w gb g wr)) (fun _ _ v _ => 9 - (intOf v).toNat)
      case atStart => exact ⟨0, by omega, rfl, rfl, rfl, hi⟩
      case round =>
        obtain ⟨y, hy, rfl, rfl, rfl, hi⟩ := hrel
        by_cases hyl : y < 9
        · have hyd : decide ((y : Int) < 9) = true := by simp; omega
          go_wp2_with fail
          go_loopw [3, 4, 6] (fun s c v wr => ∃ x : Nat, x ≤ 20 ∧ v = .int .i64 x ∧ s = .int .i64 ((st1 t (y * 20 + x)).1 : Nat) ∧ c = .int .i64 ((st1 t (y * 20 + x)).2 : Nat) ∧ Hid (OInv w gb g wr)) (fun _ _ v _ => 20 - (intOf v).toNat)
          case atStart => exact ⟨0, by omega, rfl, rfl, rfl, hi⟩
          case round =>
            obtain ⟨x, hx, rfl, rfl, rfl, hi⟩ := hrel
            have d0 := hi.out.c0
            have d1 := hi.out.c1
            have d2 := hi.out.c2
            by_cases hxl : x < 20
            · go_upto_region 15 with (go_at_call 14; refine (at_one t x y g hlt hxl _ hi.out.own).mono ?_; rintro e w4 ⟨rfl, hb4⟩)
              have hi4 := Lib.hid (hi.out.step hb4)
              have hc := st1_cond hlt (y * 20 + x) (by omega)
              have hcl := st1_le (t := t) (y * 20 + x) (by omega)
              have hs1 : Hid (st1 t (y * 20 + x + 1) = ((st1 t (y * 20 + x)).1 ||| c1 t (y * 20 + x), if c1 t (y * 20 + x) = 0 then (st1 t (y * 20 + x)).2 else (st1 t (y * 20 + x)).2 + 1)) := rfl
              have hm1 : (y * 20 + x) / 20 = y := by omega
              have hm2 : (y * 20 + x) % 20 = x := by omega
              unfold cond1 at hc
              rw [hm1, hm2] at hc
              clear hb4 hi d0 d1 d2 hm1 hm2
              generalize c1 t (y * 20 + x) = v at *
              generalize (st1 t (y * 20 + x)).1 = s at *
              generalize (st1 t (y * 20 + x)).2 = c at *
              simp only [Bool.and_eq_true, Bool.or_eq_true, decide_eq_true_eq, beq_iff_eq] at hc
              obtain ⟨⟨hsl, hvl⟩, hc⟩ := hc
              by_cases hv : v = 0
              · subst hv
                clear hc
                have hs2 : Hid (st1 t (y * 20 + (x + 1)) = (s, c)) := by
                  show _ = _
                  rw [← Nat.add_assoc, hs1.out, if_pos rfl, Nat.or_zero]
                have hor := (and_i64 s 0 hsl (by decide)).2
                rw [Nat.or_zero] at hor
                have HOR := Lib.hid hor
                clear hs1 hor
                go_wp2_with fail
                go_roundw
                case rel => exact ⟨x + 1, by omega, by go_num, by rw [hs2.out]; exact congrArg (Value.int .i64) HOR.out, by rw [hs2.out], hi4⟩
                case measure => simp [intOf]; omega
              · have hc2 := hc.resolve_left hv
                obtain ⟨⟨⟨⟨q1, q2⟩, q3⟩, q4⟩, q5⟩ := hc2
                have hs2 : Hid (st1 t (y * 20 + (x + 1)) = (s ||| v, c + 1)) := by
                  show _ = _
                  rw [← Nat.add_assoc, hs1.out, if_neg hv]
                have hor := (and_i64 s v hsl hvl).2
                have ha1 := (and_i64 v (v - 1) hvl (by omega)).1
                have ha2 := (and_i64 s v hsl hvl).1
                rw [q1, show ((v - 1 : Nat) : Int) = (v : Int) - 1 by omega] at ha1
                rw [q2] at ha2
                have hv0 : (0 : Int) < (v : Int) := by omega
                have hv1 : 0 < v := by omega
                have hy4 : 4 ≤ y := q3
                have hy6 : y ≤ 6 := q4
                have hx10 : ((decide ((y : Int) = 4) && decide (x ≤ 10)) : Bool) = false := by
                  rcases q5 with h | h
                  · rw [decide_eq_false (by omega)]; rfl
                  · rw [decide_eq_false (show ¬ x ≤ 10 by omega)]; simp
                clear hs1 hc q1 q2 q3 q4 hv
                by_cases y4 : y = 4
                · have hx : 10 < x := by omega
                  have hyf : ((y : Int) == 4) = true := by simp; omega
                  have hx1 : decide (x ≤ 10) = false := by simp; omega
                  clear q5 hx10
                  go_wp2_with fail
                  go_roundw
                  case rel => exact ⟨x + 1, by omega, by go_num, by rw [hs2.out], by rw [hs2.out]; go_num, hi4⟩
                  case measure => simp [intOf]; omega
                · have hyf : ((y : Int) == 4) = false := by simp; omega
                  clear q5 hx10
                  go_wp2_with fail
                  go_roundw
                  case rel => exact ⟨x + 1, by omega, by go_num, by rw [hs2.out], by rw [hs2.out]; go_num, hi4⟩
                  case measure => simp [intOf]; omega
            · obtain rfl : x = 20 := by omega
              go_wp2_with fail
              go_roundw
              case rel => exact ⟨y + 1, by omega, by go_num, by rw [Nat.add_mul], by rw [Nat.add_mul], hi⟩
              case measure => simp [intOf]; omega
        · obtain rfl : y = 9 := by omega
          obtain ⟨he1, he2, he3⟩ := st1_end hlt
          have hz := csize_le t hlt
          have hcs : 1 ≤ csize t := Nat.one_le_two_pow
          have hc16 : csize t ≤ 65536 := Nat.le_trans (Nat.pow_le_pow_right (by decide) hz) (by decide)
          have h1 : ((csize t - 1 : Nat) : Int) = (csize t : Int) - 1 := by omega
          have h2 := wrap_pow _ he3
          rw [he2] at h2
          have H1 := Lib.hid h1
          have H2 := Lib.hid h2
          rw [show 9 * 20 = 180 from rfl, he1]
          clear he1 he2 h1 h2 hz
          generalize (st1 t 180).2 = c at *
          go_upto_region 21 with (go_at_call 10; refine (size_ok t hlt _).mono ?_; rintro e w5 ⟨rfl, hb5⟩)
          rw [H1.out]
          have h2 := H2.out
          have hi5 := Lib.hid (hi.out.step hb5)
          clear H1 H2 hb5 hi
          generalize csize t = z at *
          go_wp2_with fail
          go_roundw
          case rel => exact ⟨t + 1, by omega, by go_num, hi5⟩
          case measure => simp [intOf]; omega
    · go_wp2_with (go_at_call 9; refine (wakes9 _).mono ?_; rintro e w' ⟨rfl, hbel⟩)
      go_ret
      exact ⟨rfl, hi.out.bel.trans (hbel.mono (Nat.le_trans hi.out.ge (Nat.le_of_lt hi.out.lt)))⟩
end Go.Proofs.Ytknhgenhknjkoaa
