/- The statement ContextRows: its walk; Small at one bitmap. Conditions: the bounds that each theorem names. -/
import Derived.Test.YtknhgenhknjkoaaCe
namespace Go.Proofs.Ytknhgenhknjkoaa
open Go.RowKit Go.Bm

set_option maxHeartbeats 1000000 in
theorem small1 (g n cap : Nat) (a : Option Addr) (most : Int) (b : Bool) (w : World) (hn : n ≤ 17179869184) (c2 : w.cell? ⟨g, 2, none⟩ = some (.slice a n cap)) (hb : b = decide (64 * (n : Int) + 64 ≤ most)) :
    Calls Try.prog 21 #[.slice (some ⟨g, 0, none⟩) 1 1, .int .i64 most] w fun e w' => e = .returned (.bool b) ∧ w = w' := by
  go_enter Try.func21, Try.ntmps21
  go_wp2
  go_loop [5, 6] (fun s i => (i = .int .i64 0 ∧ s = .int .i64 0) ∨ (i = .int .i64 1 ∧ 64 * (n : Int) + 64 ≤ most)) (fun _ i => (1 - intOf i).toNat)
  case atStart => exact Or.inl ⟨rfl, rfl⟩
  case round =>
    rcases hrel with ⟨rfl, rfl⟩ | ⟨rfl, hle⟩
    · by_cases hm : 64 * (n : Int) + 64 ≤ most
      · have HM := Lib.hid hm
        have HB := Lib.hid hb
        clear hb
        go_wp2
        go_round
        case rel => exact Or.inr ⟨rfl, HM.out⟩
        case measure => simp [intOf]
      · rw [decide_eq_false hm] at hb
        subst hb
        have hm2 : most < 64 * (n : Int) + 64 := by omega
        go_wp2
        go_ret
        exact ⟨rfl, rfl⟩
    · rw [decide_eq_true hle] at hb
      subst hb
      go_wp2
      go_ret
      exact ⟨rfl, rfl⟩

/-- what holds of a boxed bitmap in every world from then on -/
structure BInv (w : World) (W0 : Nat) (W H : Int) (a : Option Addr) (n cap : Nat) (B : Nat → Nat) (W' : World) : Prop where
  lt : W0 < W'.heap.size
  c0 : W'.cell? ⟨W0, 0, none⟩ = some (.int .i64 W)
  c1 : W'.cell? ⟨W0, 1, none⟩ = some (.int .i64 H)
  c2 : W'.cell? ⟨W0, 2, none⟩ = some (.slice a n cap)
  k : IsWords W' a n cap B
  bel : Below W0 w W'
theorem BInv.step {w : World} {W0 : Nat} {W H : Int} {a : Option Addr} {n cap : Nat} {B : Nat → Nat} {W1 W2 : World} (h : BInv w W0 W H a n cap B W1) (hb : Below W1.heap.size W1 W2) : BInv w W0 W H a n cap B W2 :=
  ⟨Nat.lt_of_lt_of_le h.lt hb.size, (hb.cell (p := ⟨W0, 0, none⟩) h.lt).trans h.c0, (hb.cell (p := ⟨W0, 1, none⟩) h.lt).trans h.c1, (hb.cell (p := ⟨W0, 2, none⟩) h.lt).trans h.c2, h.k.below hb,
    h.bel.trans (hb.mono (Nat.le_of_lt h.lt))⟩
theorem BInv.new {w : World} {W H : Int} {a : Option Addr} {n cap : Nat} {B : Nat → Nat} (h : IsWords w a n cap B) : BInv w w.heap.size W H a n cap B (w.alloc (.cells #[.int .i64 W, .int .i64 H, .slice a n cap] 24)) :=
  ⟨by simp, by rw [World.cell?_alloc_at _ _ _ _ rfl]; rfl, by rw [World.cell?_alloc_at _ _ _ _ rfl]; rfl, by rw [World.cell?_alloc_at _ _ _ _ rfl]; rfl,
    h.below ((Below.refl _ _).alloc (Nat.le_refl _) _), (Below.refl _ _).alloc (Nat.le_refl _) _⟩
theorem ctx_lt {t : Nat} (W H : Nat) (B : Nat → Nat) (x y : Int) : ctx t (px W H B) x y < csize t := ctxK_lt (px_le W H B) t x y (spn t)

set_option maxRecDepth 100000 in
set_option maxHeartbeats 4000000 in
theorem rows_main (W H : Nat) (a : Option Addr) (n cap : Nat) (B : Nat → Nat) (w : World) (hB : IsWords w a n cap B) (ho : okB W H n B) (h1 : (W : Int) * (H : Int) ≤ 8000) (h2 : 64 * (n : Int) + 64 ≤ 160000) :
    Calls Try.prog 4 #[.agg #[.int .i64 (W : Int), .int .i64 (H : Int), .slice a n cap]] w fun e w' => e = .returned (.bool true) ∧ Below w.heap.size w w' := by
  have hw0 : 1 ≤ W := by have := ho.1.1; omega
  have hh0 : 1 ≤ H := by have := ho.1.2.1; omega
  have hw1 : W ≤ 1048576 := by have := (okS_le ho.1).1; omega
  have hw2 : H ≤ 1048576 := by have := (okS_le ho.1).2; omega
  have hp : 0 ≤ (W : Int) * (H : Int) := Int.mul_nonneg (by omega) (by omega)
  have hwr : IntKind.i64.wrap ((W : Int) * (H : Int)) = (W : Int) * (H : Int) := IntWalk.i64_in _ (by omega)
  have HO := Lib.hid ho
  have hi := BInv.new (W := W) (H := H) hB
  have HI := Lib.hid hi
  clear hB ho hi
  go_enter Try.func4, Try.ntmps4
  go_upto_region 1 with fail
  obtain ⟨W0, hW0⟩ : ∃ W0, w.heap.size = W0 := ⟨_, rfl⟩
  have HI := Lib.hid (hW0 ▸ HI.out)
  rw [hW0]
  generalize w.alloc (.cells #[.int .i64 (W : Int), .int .i64 (H : Int), .slice a n cap] 24) = w0 at *
  have c0 := HI.out.c0
  have c1 := HI.out.c1
  have c2 := HI.out.c2
  have h2' : decide (64 * (n : Int) + 64 ≤ 160000) = true := decide_eq_true h2
  have HN := Lib.hid (show n ≤ 17179869184 by omega)
  have H2 := Lib.hid h2'
  have h3 : decide ((8000 : Int) < (W : Int) * (H : Int)) = false := by simp; omega
  have H1 := Lib.hid h1
  clear h2' h2 h1
  go_upto_region 3 with (first
    | (go_at_call 8; refine (may0 W H a n cap B true _ HI.out.k (by simp [HO.out])).mono ?_; rintro e w1 ⟨rfl, hbel⟩; have HI1 := Lib.hid (HI.out.step hbel); have c0 := HI1.out.c0; have c1 := HI1.out.c1; have c2 := HI1.out.c2; clear hbel)
    | (go_at_call 21; refine (small1 w1.heap.size n cap a 160000 true _ HN.out (by rw [World.cell?_alloc_at _ _ _ _ rfl]; rfl) H2.out.symm).mono ?_; rintro e w' ⟨rfl, rfl⟩))
  have HI2 := Lib.hid (HI1.out.step ((Below.refl w1.heap.size w1).alloc (Nat.le_refl _) (.cells #[.int .i64 (W : Int), .int .i64 (H : Int), .slice a n cap] 24)))
  clear HI HI1 c0 c1 c2 hwr hp h3 H1 H2 HN
  generalize w1.alloc (.cells #[.int .i64 (W : Int), .int .i64 (H : Int), .slice a n cap] 24) = w2 at *
  go_wp2_with fail
  go_loopw [3] (fun i wr => ∃ t : Nat, t ≤ 4 ∧ i = .int .i64 t ∧ Hid (BInv w W0 W H a n cap B wr)) (fun i _ => 4 - (intOf i).toNat)
  case atStart => exact ⟨0, by omega, rfl, HI2⟩
  case round =>
    obtain ⟨t, ht, rfl, hi⟩ := hrel
    by_cases hlt : t < 4
    · go_upto_region 7 with (go_at_call 10; refine (size_ok t hlt _).mono ?_; rintro e w3 ⟨rfl, hbel⟩)
      have hi3 := Lib.hid (hi.out.step hbel)
      clear hi hbel HI2
      go_wp2_with fail
      go_loopw [6] (fun i wr => ∃ y : Nat, y ≤ H ∧ i = .int .i64 y ∧ Hid (BInv w W0 W H a n cap B wr)) (fun i _ => H - (intOf i).toNat)
      case atStart => exact ⟨0, by omega, rfl, hi3⟩
      case round =>
        obtain ⟨y, hy, rfl, hi⟩ := hrel
        have c0 := hi.out.c0
        have c1 := hi.out.c1
        have c2 := hi.out.c2
        by_cases hyl : y < H
        · go_upto_region 13 with (go_at_call 15; refine (row_ok W H a n cap B t y _ hi.out.k HO.out hlt hyl).mono ?_; rintro e w4 ⟨g, _, rfl, hh, hbel⟩)
          have hi4 := Lib.hid (hi.out.step hbel)
          have HG := Lib.hid (isInts_ivals hh)
          clear hi hbel hh c0 c1 c2 hi3
          have c0 := hi4.out.c0
          have c1 := hi4.out.c1
          go_wp2_with fail
          clear c0 c1
          go_loopw [9] (fun i wr => ∃ x : Nat, x ≤ W ∧ i = .int .i64 x ∧ Hid (BInv w W0 W H a n cap B wr) ∧ Hid (IsInts wr (some ⟨g, 0, none⟩) W (fun x => (ctx t (px W H B) x y : Nat)))) (fun i _ => W - (intOf i).toNat)
          case atStart => exact ⟨0, by omega, rfl, hi4, HG⟩
          case round =>
            obtain ⟨x, hx, rfl, hi, hg⟩ := hrel
            have c0 := hi.out.c0
            have c1 := hi.out.c1
            have c2 := hi.out.c2
            by_cases hxl : x < W
            · go_upto_region 19 with (go_at_call 14; refine (at_ok W H a n cap B t x y _ hi.out.k HO.out hlt).mono ?_; rintro e w5 ⟨rfl, hbel⟩)
              have hi5 := Lib.hid (hi.out.step hbel)
              have hg5 := Lib.hid (hg.out.below hbel)
              rcases hg5.out with h0 | ⟨b, off, hb1, hb2, hb3⟩
              · omega
              · cases hb1
                have d : w5.cell? ⟨g, x, none⟩ = some (.int .i64 (ctx t (px W H B) x y : Nat)) := by
                  have := hb3 x hxl
                  rwa [Nat.zero_add] at this
                have hcl := ctx_lt (t := t) W H B x y
                have hcl2 : ((ctx t (px W H B) x y : Nat) : Int) < (csize t : Int) := by omega
                clear hb3 hbel hi hg c0 c1 c2
                generalize ctx t (px W H B) x y = c at *
                go_wp2_with fail
                go_roundw
                case rel => exact ⟨x + 1, by omega, by go_num, hi5, hg5⟩
                case measure => simp [intOf]; omega
            · go_wp2_with fail
              go_roundw
              case rel => exact ⟨y + 1, by omega, by go_num, hi⟩
              case measure => simp [intOf]; omega
        · go_wp2_with fail
          go_roundw
          case rel => exact ⟨t + 1, by omega, by go_num, hi⟩
          case measure => simp [intOf]; omega
    · go_wp2_with (go_at_call 9; refine (wakes9 _).mono ?_; rintro e w' ⟨rfl, hbel⟩)
      go_ret
      rw [← hW0] at hi
      exact ⟨rfl, hi.out.bel.trans (hbel.mono (Nat.le_of_lt hi.out.lt))⟩

set_option maxRecDepth 100000 in
set_option maxHeartbeats 2000000 in
theorem rows_no (W H : Int) (a : Option Addr) (n cap : Nat) (B : Nat → Nat) (w : World) (hB : IsWords w a n cap B) (ho : ¬ okB W H n B) :
    Calls Try.prog 4 #[.agg #[.int .i64 W, .int .i64 H, .slice a n cap]] w fun e w' => e = .returned (.bool true) ∧ Below w.heap.size w w' := by
  have HO := Lib.hid ho
  have hi := BInv.new (W := W) (H := H) hB
  have HI := Lib.hid hi
  clear hB ho hi
  go_enter Try.func4, Try.ntmps4
  go_upto_region 1 with fail
  obtain ⟨W0, hW0⟩ : ∃ W0, w.heap.size = W0 := ⟨_, rfl⟩
  have HI := Lib.hid (hW0 ▸ HI.out)
  rw [hW0]
  generalize w.alloc (.cells #[.int .i64 W, .int .i64 H, .slice a n cap] 24) = w0 at *
  have c0 := HI.out.c0
  have c1 := HI.out.c1
  have c2 := HI.out.c2
  go_wp2_with (first
    | (go_at_call 8; refine (may0 W H a n cap B false _ HI.out.k (by simp [HO.out])).mono ?_; rintro e w1 ⟨rfl, hbel⟩; have HI1 := Lib.hid (HI.out.step hbel); clear hbel)
    | (go_at_call 9; refine (wakes9 _).mono ?_; rintro e w' ⟨rfl, hbel⟩))
  go_ret
  rw [← hW0] at HI1
  exact ⟨rfl, HI1.out.bel.trans (hbel.mono (Nat.le_of_lt HI1.out.lt))⟩

set_option maxRecDepth 100000 in
set_option maxHeartbeats 2000000 in
theorem rows_big (W H : Nat) (a : Option Addr) (n cap : Nat) (B : Nat → Nat) (w : World) (hB : IsWords w a n cap B) (ho : okB W H n B) (h1 : ¬ (W : Int) * (H : Int) ≤ 8000) :
    Calls Try.prog 4 #[.agg #[.int .i64 (W : Int), .int .i64 (H : Int), .slice a n cap]] w fun e w' => e = .returned (.bool true) ∧ Below w.heap.size w w' := by
  have hp : (W : Int) * (H : Int) ≤ 1048576 := ho.1.2.2
  have hwr : IntKind.i64.wrap ((W : Int) * (H : Int)) = (W : Int) * (H : Int) := IntWalk.i64_in _ (by omega)
  have h3 : decide ((8000 : Int) < (W : Int) * (H : Int)) = true := by simp; omega
  have HO := Lib.hid ho
  have hi := BInv.new (W := W) (H := H) hB
  have HI := Lib.hid hi
  clear hB ho hi h1 hp
  go_enter Try.func4, Try.ntmps4
  go_upto_region 1 with fail
  obtain ⟨W0, hW0⟩ : ∃ W0, w.heap.size = W0 := ⟨_, rfl⟩
  have HI := Lib.hid (hW0 ▸ HI.out)
  rw [hW0]
  generalize w.alloc (.cells #[.int .i64 (W : Int), .int .i64 (H : Int), .slice a n cap] 24) = w0 at *
  have c0 := HI.out.c0
  have c1 := HI.out.c1
  have c2 := HI.out.c2
  go_wp2_with (first
    | (go_at_call 8; refine (may0 W H a n cap B true _ HI.out.k (by simp [HO.out])).mono ?_; rintro e w1 ⟨rfl, hbel⟩; have HI1 := Lib.hid (HI.out.step hbel); have c0 := HI1.out.c0; have c1 := HI1.out.c1; clear hbel)
    | (go_at_call 9; refine (wakes9 _).mono ?_; rintro e w' ⟨rfl, hbel⟩))
  go_ret
  rw [← hW0] at HI1
  exact ⟨rfl, HI1.out.bel.trans (hbel.mono (Nat.le_of_lt HI1.out.lt))⟩

set_option maxRecDepth 100000 in
set_option maxHeartbeats 2000000 in
theorem rows_long (W H : Nat) (a : Option Addr) (n cap : Nat) (B : Nat → Nat) (w : World) (hB : IsWords w a n cap B) (ho : okB W H n B) (h1 : (W : Int) * (H : Int) ≤ 8000) (hn : n ≤ 17179869184) (h2 : ¬ 64 * (n : Int) + 64 ≤ 160000) :
    Calls Try.prog 4 #[.agg #[.int .i64 (W : Int), .int .i64 (H : Int), .slice a n cap]] w fun e w' => e = .returned (.bool true) ∧ Below w.heap.size w w' := by
  have hp : 0 ≤ (W : Int) * (H : Int) := Int.mul_nonneg (by omega) (by omega)
  have hwr : IntKind.i64.wrap ((W : Int) * (H : Int)) = (W : Int) * (H : Int) := IntWalk.i64_in _ (by omega)
  have h3 : decide ((8000 : Int) < (W : Int) * (H : Int)) = false := by simp; omega
  have H2 := Lib.hid (decide_eq_false h2)
  have HN := Lib.hid hn
  have HO := Lib.hid ho
  have hi := BInv.new (W := W) (H := H) hB
  have HI := Lib.hid hi
  clear hB ho hi h1 hp h2 hn
  go_enter Try.func4, Try.ntmps4
  go_upto_region 1 with fail
  obtain ⟨W0, hW0⟩ : ∃ W0, w.heap.size = W0 := ⟨_, rfl⟩
  have HI := Lib.hid (hW0 ▸ HI.out)
  rw [hW0]
  generalize w.alloc (.cells #[.int .i64 (W : Int), .int .i64 (H : Int), .slice a n cap] 24) = w0 at *
  have c0 := HI.out.c0
  have c1 := HI.out.c1
  have c2 := HI.out.c2
  go_wp2_with (first
    | (go_at_call 8; refine (may0 W H a n cap B true _ HI.out.k (by simp [HO.out])).mono ?_; rintro e w1 ⟨rfl, hbel⟩; have HI1 := Lib.hid (HI.out.step hbel); have c0 := HI1.out.c0; have c1 := HI1.out.c1; have c2 := HI1.out.c2; clear hbel)
    | (go_at_call 21; refine (small1 w1.heap.size n cap a 160000 false _ HN.out (by rw [World.cell?_alloc_at _ _ _ _ rfl]; rfl) H2.out.symm).mono ?_; rintro e w' ⟨rfl, rfl⟩)
    | (go_at_call 9; refine (wakes9 _).mono ?_; rintro e w' ⟨rfl, hbel⟩))
  go_ret
  rw [← hW0] at HI1
  have HI2 := HI1.out.step ((Below.refl w1.heap.size w1).alloc (Nat.le_refl _) (.cells #[.int .i64 (W : Int), .int .i64 (H : Int), .slice a n cap] 24))
  exact ⟨rfl, HI2.bel.trans (hbel.mono (Nat.le_of_lt HI2.lt))⟩

/-- ContextRows: its walk -/
theorem rows_walk (W H : Int) (a : Option Addr) (n cap : Nat) (B : Nat → Nat) (w : World) (hB : IsWords w a n cap B) :
    Calls Try.prog 4 #[.agg #[.int .i64 W, .int .i64 H, .slice a n cap]] w fun e w' => e = .returned (.bool true) ∧ Below w.heap.size w w' := by
  by_cases ho : okB W H n B
  · obtain ⟨W, rfl⟩ : ∃ i : Nat, W = i := ⟨W.toNat, by have := ho.1.1; omega⟩
    obtain ⟨H, rfl⟩ : ∃ i : Nat, H = i := ⟨H.toNat, by have := ho.1.2.1; omega⟩
    have hn : n ≤ 17179869184 := by
      have h1 : n = H * wd W := by have := ho.2.1; simpa using this
      have h2 := (okS_le ho.1)
      rw [h1]
      exact Nat.le_trans (Nat.mul_le_mul (show H ≤ 1048576 by omega) (wd_le (W := W) (by omega))) (by decide)
    by_cases h1 : (W : Int) * (H : Int) ≤ 8000
    · by_cases h2 : 64 * (n : Int) + 64 ≤ 160000
      · exact rows_main W H a n cap B w hB ho h1 h2
      · exact rows_long W H a n cap B w hB ho h1 hn h2
    · exact rows_big W H a n cap B w hB ho h1
  · exact rows_no W H a n cap B w hB ho
end Go.Proofs.Ytknhgenhknjkoaa
