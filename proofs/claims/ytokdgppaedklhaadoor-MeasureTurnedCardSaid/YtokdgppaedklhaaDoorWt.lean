/- The walk of MeasureTurned. Conditions: the bounds that each theorem names. -/
import Derived.Test.YtokdgppaedklhaaDoorWm
import Derived.Test.YtokdgppaedklhaaDoorWn
import Derived.Test.YtokdgppaedklhaaDoorFt
import Derived.Test.YtokdgppaedklhaaDoorFu
import Derived.Test.YtokdgppaedklhaaDoorFv
import Derived.Test.YtokdgppaedklhaaDoorWk
namespace Go.Proofs.YtokdgppaedklhaaDoor
open Go.ChangeShapes Go.WideShapes Go.ChangeAt Go.RowKit Go.Bm Fl Go.FlW

/-- two bitmaps that came in, in one struct -/
def IsTwo (W : World) (m m2 : BM) : Prop := (IsWords W m.a m.n m.c m.L ∧ (m.a = none → m.n = 0 ∧ m.c = 0)) ∧ (IsWords W m2.a m2.n m2.c m2.L ∧ (m2.a = none → m2.n = 0 ∧ m2.c = 0))
theorem two_of_arg {H : Type} {enc : TypeId × Value → H} {W : World} {v : Value} {d : DataW H} {p : List MemPlace}
    (hv : Value.okWide Tryd.prog W .any 0 45 v) (h : DataW.Trod enc Tryd.prog W 0 (fun _ => true) true 45 v d p) :
    ∃ m m2 : BM, v = .agg #[.int .i64 m.w, .int .i64 m.h, .slice m.a m.n m.c, .int .i64 m2.w, .int .i64 m2.h, .slice m2.a m2.n m2.c] ∧ IsTwo W m m2 := by
  obtain ⟨cs, rfl, hsz⟩ := okWide_struct Tryd.underlying45 hv
  obtain ⟨fuel, hf⟩ := h
  have hsz1 : cs.size = 6 := hsz.trans (by kernel_rfl)
  obtain ⟨l⟩ := cs
  match l, hsz1 with
  | [c0, c1, c2, c3, c4, c5], _ =>
    obtain ⟨xs, n, hd, _, _, hxl, hfld⟩ := DataW.trod_struct Tryd.underlying45 hf
    match xs, hxl with
    | [y0, y1], _ =>
      have k25 : Tryd.prog.cellsOf 25 = 3 := by kernel_rfl
      have g0 := hfld 0 _ rfl
      have g1 := hfld 1 _ rfl
      simp [Value.cells, k25] at g0 g1
      obtain ⟨q, e0, e1, e2, hq, hno⟩ := map_of_cells g0
      obtain ⟨q2, e3, e4, e5, hq2, hno2⟩ := map_of_cells g1
      subst e0; subst e1; subst e2; subst e3; subst e4; subst e5
      exact ⟨q, q2, rfl, ⟨hq, hno⟩, hq2, hno2⟩
/-- what holds in the call: the box of the two that came in, their words, the table -/
structure PI (w : World) (W0 : Nat) (W H : Int) (a : Option Addr) (n cap : Nat) (A : Nat → Nat) (W2 H2 : Int) (c : Option Addr) (m cap2 : Nat) (B : Nat → Nat) (W1 : World) : Prop where
  c0 : W1.cell? ⟨W0, 0, none⟩ = some (.int .i64 W)
  c1 : W1.cell? ⟨W0, 1, none⟩ = some (.int .i64 H)
  c2 : W1.cell? ⟨W0, 2, none⟩ = some (.slice a n cap)
  c3 : W1.cell? ⟨W0, 3, none⟩ = some (.int .i64 W2)
  c4 : W1.cell? ⟨W0, 4, none⟩ = some (.int .i64 H2)
  c5 : W1.cell? ⟨W0, 5, none⟩ = some (.slice c m cap2)
  ka : IsWords W1 a n cap A
  kb : IsWords W1 c m cap2 B
  kt : TabW W1
  bel : Below w.heap.size w W1
theorem PI.step {w : World} {W0 : Nat} {W H : Int} {a : Option Addr} {n cap : Nat} {A : Nat → Nat} {W2 H2 : Int} {c : Option Addr} {m cap2 : Nat} {B : Nat → Nat} {W1 W3 : World} (h : PI w W0 W H a n cap A W2 H2 c m cap2 B W1) (hb : Below W1.heap.size W1 W3) : PI w W0 W H a n cap A W2 H2 c m cap2 B W3 :=
  have l : W0 < W1.heap.size := World.block_lt_of_cell? W1 _ h.c0
  ⟨(hb.cell (p := ⟨W0, 0, none⟩) l).trans h.c0, (hb.cell (p := ⟨W0, 1, none⟩) l).trans h.c1, (hb.cell (p := ⟨W0, 2, none⟩) l).trans h.c2, (hb.cell (p := ⟨W0, 3, none⟩) l).trans h.c3, (hb.cell (p := ⟨W0, 4, none⟩) l).trans h.c4, (hb.cell (p := ⟨W0, 5, none⟩) l).trans h.c5, h.ka.below hb, h.kb.below hb, h.kt.below hb, h.bel.trans (hb.mono h.bel.size)⟩
theorem PI.new {w : World} {W H : Int} {a : Option Addr} {n cap : Nat} {A : Nat → Nat} {W2 H2 : Int} {c : Option Addr} {m cap2 : Nat} {B : Nat → Nat} (h : IsWords w a n cap A) (k : IsWords w c m cap2 B) (hT : TabW w) : PI w w.heap.size W H a n cap A W2 H2 c m cap2 B (w.alloc (.cells #[.int .i64 W, .int .i64 H, .slice a n cap, .int .i64 W2, .int .i64 H2, .slice c m cap2] 45)) :=
  have hb := (Below.refl w.heap.size w).alloc (Nat.le_refl _) (.cells #[.int .i64 W, .int .i64 H, .slice a n cap, .int .i64 W2, .int .i64 H2, .slice c m cap2] 45)
  have two : ∀ j, (w.alloc (.cells #[.int .i64 W, .int .i64 H, .slice a n cap, .int .i64 W2, .int .i64 H2, .slice c m cap2] 45)).cell? ⟨w.heap.size, j, none⟩ = (#[.int .i64 W, .int .i64 H, .slice a n cap, .int .i64 W2, .int .i64 H2, .slice c m cap2] : Array Value)[j]? := fun j => by rw [World.cell?_alloc_at _ _ _ _ rfl]
  ⟨two 0, two 1, two 2, two 3, two 4, two 5, h.below hb, k.below hb, hT.below hb, hb⟩

set_option maxRecDepth 100000 in
set_option maxHeartbeats 4000000 in
theorem turned_no1 (W H : Int) (a : Option Addr) (n cap : Nat) (A : Nat → Nat) (W2 H2 : Int) (c : Option Addr) (m cap2 : Nat) (B : Nat → Nat) (w : World) (hA : IsWords w a n cap A) (hB : IsWords w c m cap2 B) (hT : TabW w) (ha : ¬ okB W H n A) :
    Calls Tryd.prog 4 #[.agg #[.int .i64 W, .int .i64 H, .slice a n cap, .int .i64 W2, .int .i64 H2, .slice c m cap2]] w fun e w' => e = .returned (.bool true) ∧ Below w.heap.size w w' := by
  have hi := PI.new (W := W) (H := H) (W2 := W2) (H2 := H2) hA hB hT
  have HI := Lib.hid hi
  have HA := Lib.hid ha
  clear hA hB hT hi ha
  go_enter Tryd.func4, Tryd.ntmps4
  go_upto_region 1 with fail
  obtain ⟨W0, hW0⟩ : ∃ W0, w.heap.size = W0 := ⟨_, rfl⟩
  have HI := Lib.hid (hW0 ▸ HI.out)
  rw [hW0]
  have HW0 := Lib.hid hW0
  clear hW0
  generalize w.alloc (.cells #[.int .i64 W, .int .i64 H, .slice a n cap, .int .i64 W2, .int .i64 H2, .slice c m cap2] 45) = w0 at *
  have c0 := HI.out.c0
  have c1 := HI.out.c1
  have c2 := HI.out.c2
  go_wp2_with (first
    | (go_at_call 10; refine (may0 W H a n cap A false _ HI.out.ka (by simp [HA.out])).mono ?_; rintro e w1 ⟨rfl, hbel⟩; have HI1 := Lib.hid (HI.out.step hbel); clear hbel)
    | (go_at_call 17; refine (wakes14 _).mono ?_; rintro e w2 ⟨rfl, k, rfl⟩))
  go_ret
  exact ⟨rfl, below_drewN HI1.out.bel _⟩

set_option maxRecDepth 100000 in
set_option maxHeartbeats 4000000 in
theorem turned_no2 (W H : Int) (a : Option Addr) (n cap : Nat) (A : Nat → Nat) (W2 H2 : Int) (c : Option Addr) (m cap2 : Nat) (B : Nat → Nat) (w : World) (hA : IsWords w a n cap A) (hB : IsWords w c m cap2 B) (hT : TabW w) (ha : okB W H n A) (hb : ¬ okB W2 H2 m B) :
    Calls Tryd.prog 4 #[.agg #[.int .i64 W, .int .i64 H, .slice a n cap, .int .i64 W2, .int .i64 H2, .slice c m cap2]] w fun e w' => e = .returned (.bool true) ∧ Below w.heap.size w w' := by
  have hi := PI.new (W := W) (H := H) (W2 := W2) (H2 := H2) hA hB hT
  have HI := Lib.hid hi
  have HA := Lib.hid ha
  have HB := Lib.hid hb
  clear hA hB hT hi ha hb
  go_enter Tryd.func4, Tryd.ntmps4
  go_upto_region 1 with fail
  obtain ⟨W0, hW0⟩ : ∃ W0, w.heap.size = W0 := ⟨_, rfl⟩
  have HI := Lib.hid (hW0 ▸ HI.out)
  rw [hW0]
  have HW0 := Lib.hid hW0
  clear hW0
  generalize w.alloc (.cells #[.int .i64 W, .int .i64 H, .slice a n cap, .int .i64 W2, .int .i64 H2, .slice c m cap2] 45) = w0 at *
  have c0 := HI.out.c0
  have c1 := HI.out.c1
  have c2 := HI.out.c2
  go_wp2_with fail
  refine (may0 W H a n cap A true _ HI.out.ka (by simp [HA.out])).mono ?_
  rintro e w1 ⟨rfl, hbel⟩
  have HI1 := Lib.hid (HI.out.step hbel)
  clear hbel c0 c1 c2 HI
  have c3 := HI1.out.c3
  have c4 := HI1.out.c4
  have c5 := HI1.out.c5
  go_wp2_with fail
  refine (may0 W2 H2 c m cap2 B false _ HI1.out.kb (by simp [HB.out])).mono ?_
  rintro e w2 ⟨rfl, hbel⟩
  have HI2 := Lib.hid (HI1.out.step hbel)
  clear hbel
  go_wp2_with (go_at_call 17; refine (wakes14 _).mono ?_; rintro e w3 ⟨rfl, k, rfl⟩)
  go_ret
  exact ⟨rfl, below_drewN HI2.out.bel _⟩
/-- a turned bitmap's words -/
theorem turned_words {W H n : Nat} (h : n = H * wd W) (hn : 64 * n ≤ 20000 - 128) : W * wd H ≤ 20000 := by
  have h6 : W ≤ wd W * 64 := by unfold wd; omega
  have h7 : wd H * 64 ≤ H + 63 := by unfold wd; omega
  have h8 : W * wd H ≤ wd W * 64 * wd H := Nat.mul_le_mul_right _ h6
  have h9 : wd W * (wd H * 64) ≤ wd W * (H + 63) := Nat.mul_le_mul_left _ h7
  have h10 : wd W * 64 * wd H = wd W * (wd H * 64) := by rw [Nat.mul_assoc, Nat.mul_comm 64]
  by_cases h0 : H = 0
  · subst h0; rw [show wd 0 = 0 from rfl]; omega
  · have h11 : 1 * wd W ≤ H * wd W := Nat.mul_le_mul_right _ (by omega)
    have h12 : wd W * (H + 63) = H * wd W + 63 * wd W := by rw [Nat.mul_add, Nat.mul_comm, Nat.mul_comm (wd W) 63]
    omega

set_option maxRecDepth 100000 in
set_option maxHeartbeats 4000000 in
theorem turned_no3 (W H : Int) (a : Option Addr) (n cap : Nat) (A : Nat → Nat) (W2 H2 : Int) (c : Option Addr) (m cap2 : Nat) (B : Nat → Nat) (w : World) (hA : IsWords w a n cap A) (hB : IsWords w c m cap2 B) (hT : TabW w) (ha : okB W H n A) (hb : okB W2 H2 m B) (hn : n ≤ 17179869184) (hm : m ≤ 17179869184) (hs : ¬ 64 * (n : Int) + 64 * (m : Int) + 128 ≤ 20000) :
    Calls Tryd.prog 4 #[.agg #[.int .i64 W, .int .i64 H, .slice a n cap, .int .i64 W2, .int .i64 H2, .slice c m cap2]] w fun e w' => e = .returned (.bool true) ∧ Below w.heap.size w w' := by
  have HA := Lib.hid ha
  have HB := Lib.hid hb
  have HN := Lib.hid hn
  have HM := Lib.hid hm
  have HS := Lib.hid (decide_eq_false hs).symm
  clear ha hb hn hm hs
  have hi := PI.new (W := W) (H := H) (W2 := W2) (H2 := H2) hA hB hT
  have HI := Lib.hid hi
  clear hA hB hT hi
  go_enter Tryd.func4, Tryd.ntmps4
  go_upto_region 1 with fail
  obtain ⟨W0, hW0⟩ : ∃ W0, w.heap.size = W0 := ⟨_, rfl⟩
  have HI := Lib.hid (hW0 ▸ HI.out)
  rw [hW0]
  clear hW0
  generalize w.alloc (.cells #[.int .i64 W, .int .i64 H, .slice a n cap, .int .i64 W2, .int .i64 H2, .slice c m cap2] 45) = w0 at *
  have c0 := HI.out.c0
  have c1 := HI.out.c1
  have c2 := HI.out.c2
  have c3 := HI.out.c3
  have c4 := HI.out.c4
  have c5 := HI.out.c5
  go_wp2_with fail
  refine (may0 W H a n cap A true _ HI.out.ka (by simp [HA.out])).mono ?_
  rintro e w1 ⟨rfl, hbel⟩
  have HI1 := Lib.hid (HI.out.step hbel)
  clear hbel c0 c1 c2 c3 c4 c5 HI
  have c0 := HI1.out.c0
  have c1 := HI1.out.c1
  have c2 := HI1.out.c2
  have c3 := HI1.out.c3
  have c4 := HI1.out.c4
  have c5 := HI1.out.c5
  go_wp2_with fail
  refine (may0 W2 H2 c m cap2 B true _ HI1.out.kb (by simp [HB.out])).mono ?_
  rintro e w2 ⟨rfl, hbel⟩
  have HI2 := Lib.hid (HI1.out.step hbel)
  clear hbel c0 c1 c2 c3 c4 c5 HI1
  have c0 := HI2.out.c0
  have c1 := HI2.out.c1
  have c2 := HI2.out.c2
  have c3 := HI2.out.c3
  have c4 := HI2.out.c4
  have c5 := HI2.out.c5
  go_wp2_with fail
  obtain ⟨G, hG⟩ : ∃ G, w2.heap.size = G := ⟨_, rfl⟩
  have hst := (Below.refl w2.heap.size w2).alloc (Nat.le_refl _) (.cells #[.int .i64 W, .int .i64 H, .slice a n cap, .int .i64 W2, .int .i64 H2, .slice c m cap2] 25)
  have HI3 := Lib.hid (HI2.out.step hst)
  have d2 : (w2.alloc (.cells #[.int .i64 W, .int .i64 H, .slice a n cap, .int .i64 W2, .int .i64 H2, .slice c m cap2] 25)).cell? ⟨G, 2, none⟩ = some (.slice a n cap) := by rw [World.cell?_alloc_at _ _ _ _ hG.symm]; rfl
  have d5 : (w2.alloc (.cells #[.int .i64 W, .int .i64 H, .slice a n cap, .int .i64 W2, .int .i64 H2, .slice c m cap2] 25)).cell? ⟨G, 5, none⟩ = some (.slice c m cap2) := by rw [World.cell?_alloc_at _ _ _ _ hG.symm]; rfl
  rw [hG]
  clear c0 c1 c2 c3 c4 c5 hst HI2 hG
  generalize w2.alloc (.cells #[.int .i64 W, .int .i64 H, .slice a n cap, .int .i64 W2, .int .i64 H2, .slice c m cap2] 25) = w3 at *
  refine (small2 G n cap m cap2 a c false _ HN.out HM.out d2 d5 HS.out).mono ?_
  rintro e w4 ⟨rfl, rfl⟩
  clear d2 d5
  go_wp2_with (go_at_call 17; refine (wakes14 _).mono ?_; rintro e w3 ⟨rfl, k, rfl⟩)
  go_ret
  exact ⟨rfl, below_drewN HI3.out.bel _⟩

set_option maxRecDepth 100000 in
set_option maxHeartbeats 4000000 in
theorem turned_main (W H : Nat) (a : Option Addr) (n cap : Nat) (A : Nat → Nat) (W2 H2 : Int) (c : Option Addr) (m cap2 : Nat) (B : Nat → Nat) (w : World) (hA : IsWords w a n cap A) (hB : IsWords w c m cap2 B) (hT : TabW w) (ha : okB W H n A) (hb : okB W2 H2 m B) (hs : 64 * (n : Int) + 64 * (m : Int) + 128 ≤ 20000) :
    Calls Tryd.prog 4 #[.agg #[.int .i64 (W : Int), .int .i64 (H : Int), .slice a n cap, .int .i64 W2, .int .i64 H2, .slice c m cap2]] w fun e w' => e = .returned (.bool true) ∧ Below w.heap.size w w' := by
  have HA := Lib.hid ha
  have HB := Lib.hid hb
  have HN : Hid (n ≤ 17179869184) := by show _ ≤ _; omega
  have HM : Hid (m ≤ 17179869184) := by show _ ≤ _; omega
  have HN2 : Hid (n ≤ 10000) := by show _ ≤ _; omega
  have HM2 : Hid (m ≤ 10000) := by show _ ≤ _; omega
  have HS := Lib.hid (decide_eq_true hs).symm
  obtain ⟨q0, q1, q2, q3, q4, q5⟩ := okB_area ha (show n ≤ 10000 by omega)
  have HW9 := Lib.hid (show W ≤ 9007199254740992 by omega)
  have HH9 := Lib.hid (show H ≤ 9007199254740992 by omega)
  have HNT : Hid (W * wd H ≤ 20000) := turned_words q0 (by omega)
  have HNW : Hid (n = H * wd W) := q0
  have HQ : Hid (1 ≤ W ∧ 1 ≤ H ∧ W ≤ 640000 ∧ H ≤ 10000 ∧ H * W ≤ 640000) := ⟨q1, q2, q3, q4, q5⟩
  clear ha hb hs q0 q1 q2 q3 q4 q5
  have hi := PI.new (W := (W : Int)) (H := (H : Int)) (W2 := W2) (H2 := H2) hA hB hT
  have HI := Lib.hid hi
  clear hA hB hT hi
  go_enter Tryd.func4, Tryd.ntmps4
  go_upto_region 1 with fail
  obtain ⟨W0, hW0⟩ : ∃ W0, w.heap.size = W0 := ⟨_, rfl⟩
  have HI := Lib.hid (hW0 ▸ HI.out)
  rw [hW0]
  clear hW0
  generalize w.alloc (.cells #[.int .i64 (W : Int), .int .i64 (H : Int), .slice a n cap, .int .i64 W2, .int .i64 H2, .slice c m cap2] 45) = w0 at *
  have c0 := HI.out.c0
  have c1 := HI.out.c1
  have c2 := HI.out.c2
  have c3 := HI.out.c3
  have c4 := HI.out.c4
  have c5 := HI.out.c5
  go_wp2_with fail
  refine (may0 (W : Int) (H : Int) a n cap A true _ HI.out.ka (by simp [HA.out])).mono ?_
  rintro e w1 ⟨rfl, hbel⟩
  have HI1 := Lib.hid (HI.out.step hbel)
  clear hbel c0 c1 c2 c3 c4 c5 HI
  have c0 := HI1.out.c0
  have c1 := HI1.out.c1
  have c2 := HI1.out.c2
  have c3 := HI1.out.c3
  have c4 := HI1.out.c4
  have c5 := HI1.out.c5
  go_wp2_with fail
  refine (may0 W2 H2 c m cap2 B true _ HI1.out.kb (by simp [HB.out])).mono ?_
  rintro e w2 ⟨rfl, hbel⟩
  have HI2 := Lib.hid (HI1.out.step hbel)
  clear hbel c0 c1 c2 c3 c4 c5 HI1
  have c0 := HI2.out.c0
  have c1 := HI2.out.c1
  have c2 := HI2.out.c2
  have c3 := HI2.out.c3
  have c4 := HI2.out.c4
  have c5 := HI2.out.c5
  go_wp2_with fail
  obtain ⟨G, hG⟩ : ∃ G, w2.heap.size = G := ⟨_, rfl⟩
  have hst := (Below.refl w2.heap.size w2).alloc (Nat.le_refl _) (.cells #[.int .i64 (W : Int), .int .i64 (H : Int), .slice a n cap, .int .i64 W2, .int .i64 H2, .slice c m cap2] 25)
  have HI3 := Lib.hid (HI2.out.step hst)
  have d2 : (w2.alloc (.cells #[.int .i64 (W : Int), .int .i64 (H : Int), .slice a n cap, .int .i64 W2, .int .i64 H2, .slice c m cap2] 25)).cell? ⟨G, 2, none⟩ = some (.slice a n cap) := by rw [World.cell?_alloc_at _ _ _ _ hG.symm]; rfl
  have d5 : (w2.alloc (.cells #[.int .i64 (W : Int), .int .i64 (H : Int), .slice a n cap, .int .i64 W2, .int .i64 H2, .slice c m cap2] 25)).cell? ⟨G, 5, none⟩ = some (.slice c m cap2) := by rw [World.cell?_alloc_at _ _ _ _ hG.symm]; rfl
  rw [hG]
  clear c0 c1 c2 c3 c4 c5 hst HI2 hG
  generalize w2.alloc (.cells #[.int .i64 (W : Int), .int .i64 (H : Int), .slice a n cap, .int .i64 W2, .int .i64 H2, .slice c m cap2] 25) = w3 at *
  refine (small2 G n cap m cap2 a c true _ HN.out HM.out d2 d5 HS.out).mono ?_
  rintro e w4 ⟨rfl, rfl⟩
  clear d2 d5
  have c0 := HI3.out.c0
  have c1 := HI3.out.c1
  have c2 := HI3.out.c2
  have c3 := HI3.out.c3
  have c4 := HI3.out.c4
  have c5 := HI3.out.c5
  go_upto_region 4 with (go_at_call 19; refine (turn19 W H a n cap A _ HI3.out.ka HA.out).mono ?_; rintro e w5 ⟨gt, Ct, rfl, hown, hlaid, hg, hbel⟩)
  have HLT := Lib.hid hlaid
  have HI5 := Lib.hid (HI3.out.step hbel)
  have hbt := BInv.new (W := (H : Int)) (H := (W : Int)) (hown.words (Nat.le_refl _) (by have := HNT.out; omega))
  have hi5 := HI5.out.step ((Below.refl w5.heap.size w5).alloc (Nat.le_refl _) (.cells #[.int .i64 (H : Int), .int .i64 (W : Int), .slice (some ⟨gt, 0, none⟩) (W * wd H) (W * wd H)] 25))
  obtain ⟨T0, hT0⟩ : ∃ T0, w5.heap.size = T0 := ⟨_, rfl⟩
  rw [hT0] at hbt ⊢
  have HT6 := Lib.hid hbt
  have HI6 := Lib.hid hi5
  clear c0 c1 c2 c3 c4 c5 hown hlaid hg hbel HI3 HI5 hi5 hbt hT0
  obtain ⟨nt, hnt⟩ : ∃ nt, W * wd H = nt := ⟨_, rfl⟩
  rw [hnt] at HT6 HI6 HNT HLT ⊢
  clear hnt
  generalize w5.alloc (.cells #[.int .i64 (H : Int), .int .i64 (W : Int), .slice (some ⟨gt, 0, none⟩) nt nt] 25) = w6 at *
  have c0 := HI6.out.c0
  have c1 := HI6.out.c1
  have c2 := HI6.out.c2
  have c3 := HI6.out.c3
  have c4 := HI6.out.c4
  have c5 := HI6.out.c5
  go_upto_region 5 with (go_at_call 20; refine (mirror20 W H a n cap A _ HI6.out.ka HA.out).mono ?_; rintro e w7 ⟨gm, Cm, rfl, hown, hlaid, hg, hbel⟩)
  rw [← HNW.out] at hown hlaid ⊢
  have HLM := Lib.hid hlaid
  have HI7 := Lib.hid (HI6.out.step hbel)
  have HT7 := Lib.hid (HT6.out.step hbel)
  have hbm := BInv.new (W := (W : Int)) (H := (H : Int)) (hown.words (Nat.le_refl _) (by have := HN2.out; omega))
  have hab := (Below.refl w7.heap.size w7).alloc (Nat.le_refl _) (.cells #[.int .i64 (W : Int), .int .i64 (H : Int), .slice (some ⟨gm, 0, none⟩) n n] 25)
  have hi8 := HI7.out.step hab
  have ht8 := HT7.out.step hab
  clear hab
  obtain ⟨M0, hM0⟩ : ∃ M0, w7.heap.size = M0 := ⟨_, rfl⟩
  rw [hM0] at hbm ⊢
  have HM8 := Lib.hid hbm
  have HI8 := Lib.hid hi8
  have HT8 := Lib.hid ht8
  clear c0 c1 c2 c3 c4 c5 hown hlaid hg hbel HI6 HT6 HI7 HT7 hbm hi8 ht8 hM0
  generalize w7.alloc (.cells #[.int .i64 (W : Int), .int .i64 (H : Int), .slice (some ⟨gm, 0, none⟩) n n] 25) = w8 at *
  have t0 := HT8.out.c0
  have t1 := HT8.out.c1
  have t2 := HT8.out.c2
  have hokt := HLT.out.1
  go_upto_region 6 with (go_at_call 6; refine (aspect6 H W (some ⟨gt, 0, none⟩) nt nt Ct _ HT8.out.k hokt).mono ?_; rintro e w9 ⟨ra, rfl, HRA, hbel⟩)
  clear t0 t1 t2
  have HI9 := Lib.hid (HI8.out.step hbel)
  have HT9 := Lib.hid (HT8.out.step hbel)
  have HM9 := Lib.hid (HM8.out.step hbel)
  clear hbel HI8 HT8 HM8
  have c0 := HI9.out.c0
  have c1 := HI9.out.c1
  have c2 := HI9.out.c2
  have c3 := HI9.out.c3
  have c4 := HI9.out.c4
  have c5 := HI9.out.c5
  go_upto_region 7 with (go_at_call 21; refine (sh21 H W HH9.out HW9.out _).mono ?_; rintro e w10 ⟨rq, rfl, HRQ, k10, rfl⟩)
  clear c0 c1 c2 c3 c4 c5
  have HI10 := Lib.hid (HI9.out.step (below_drewN (Below.refl _ _) k10))
  have HT10 := Lib.hid (HT9.out.step (below_drewN (Below.refl _ _) k10))
  have HM10 := Lib.hid (HM9.out.step (below_drewN (Below.refl _ _) k10))
  clear HI9 HT9 HM9
  generalize w9.drewN k10 = w10 at *
  have t0 := HT10.out.c0
  have t1 := HT10.out.c1
  have t2 := HT10.out.c2
  go_upto_region 8 with (go_at_call 7; refine (density7w H W (some ⟨gt, 0, none⟩) nt nt Ct _ HT10.out.k hokt HNT.out).mono ?_; rintro e w11 ⟨rd, rfl, HRD, hbel⟩)
  clear t0 t1 t2
  have HI11 := Lib.hid (HI10.out.step hbel)
  have HT11 := Lib.hid (HT10.out.step hbel)
  have HM11 := Lib.hid (HM10.out.step hbel)
  clear hbel HI10 HT10 HM10
  have c0 := HI11.out.c0
  have c1 := HI11.out.c1
  have c2 := HI11.out.c2
  have c3 := HI11.out.c3
  have c4 := HI11.out.c4
  have c5 := HI11.out.c5
  go_upto_region 9 with (go_at_call 7; refine (density7 W H a n cap A _ HI11.out.ka HA.out HN2.out).mono ?_; rintro e w12 ⟨rc, rfl, HRC, hbel⟩)
  clear c0 c1 c2 c3 c4 c5
  have HI12 := Lib.hid (HI11.out.step hbel)
  have HT12 := Lib.hid (HT11.out.step hbel)
  have HM12 := Lib.hid (HM11.out.step hbel)
  clear hbel HI11 HT11 HM11
  have HX : Hid (rq = ra ∧ rd = rc) := by
    obtain ⟨h1, h2, h3, h4, h5⟩ := HQ.out
    have hd : W * H ≤ 9007199254740992 := by rw [Nat.mul_comm]; omega
    have hb : blackN W H A ≤ 9007199254740992 := by have := black_le W H A; omega
    have hp : 0 < W * H := Nat.mul_pos h1 h2
    refine ⟨q_agree HH9.out HW9.out h1 HRQ.out HRA.out, q_agree hb hd hp ?_ HRC.out⟩
    rw [← turn_black HLT.out, Nat.mul_comm]; exact HRD.out
  obtain ⟨rfl, rfl⟩ := HX.out
  clear HX HRQ HRD
  have HP : Hid (0 < W * H ∧ W * H ≤ 9007199254740992 ∧ blackN W H A ≤ W * H ∧ W * H ≤ 640000) := by
    obtain ⟨h1, h2, h3, h4, h5⟩ := HQ.out
    have := black_le W H A
    rw [Nat.mul_comm H W] at this h5
    exact ⟨Nat.mul_pos h1 h2, by omega, this, h5⟩
  have f1 := q_ne_self HH9.out HW9.out HQ.out.1 HRA.out
  have f2 := q_ne_self (Nat.le_trans HP.out.2.2.1 HP.out.2.1) HP.out.2.1 HP.out.1 HRC.out
  have f3 := q_lt0 (Nat.le_trans HP.out.2.2.1 HP.out.2.1) HP.out.2.1 HP.out.1 HRC.out
  have f4 := q_gt1 (Nat.le_trans HP.out.2.2.1 HP.out.2.1) HP.out.2.1 HP.out.1 HP.out.2.2.1 HRC.out
  have c0 := HI12.out.c0
  have c1 := HI12.out.c1
  have c2 := HI12.out.c2
  have c3 := HI12.out.c3
  have c4 := HI12.out.c4
  have c5 := HI12.out.c5
  go_upto_region 12 with (go_at_call 8; refine (center8 W H a n cap A _ HI12.out.ka HA.out HN2.out HI12.out.kt).mono ?_; rintro e w13 ⟨rx, ry, rfl, HRX, HRY, hbel⟩)
  clear c0 c1 c2 c3 c4 c5 f1 f2 f3 f4 HRA HRC
  have HI13 := Lib.hid (HI12.out.step hbel)
  have HT13 := Lib.hid (HT12.out.step hbel)
  have HM13 := Lib.hid (HM12.out.step hbel)
  clear hbel HI12 HT12 HM12
  have m0 := HM13.out.c0
  have m1 := HM13.out.c1
  have m2 := HM13.out.c2
  go_upto_region 13 with (go_at_call 8; refine (center8 W H (some ⟨gm, 0, none⟩) n n Cm _ HM13.out.k HLM.out.1 HN2.out HI13.out.kt).mono ?_; rintro e w14 ⟨ru, rv, rfl, HRU, HRV, hbel⟩)
  clear m0 m1 m2
  have HI14 := Lib.hid (HI13.out.step hbel)
  have HT14 := Lib.hid (HT13.out.step hbel)
  have HM14 := Lib.hid (HM13.out.step hbel)
  clear hbel HI13 HT13 HM13
  have HU : Hid (IsQ (sumX W H Cm) (blackN W H A) ru) := by have := HRU.out; rw [mirror_black HLM.out] at this; exact this
  have HV : Hid (IsQ (sumY W H A) (blackN W H A) rv) := by have := HRV.out; rw [mirror_black HLM.out, mirror_sumY HLM.out] at this; exact this
  have HSX : Hid (sumX W H A + sumX W H Cm = (W - 1) * blackN W H A) := mirror_sumX HLM.out
  have HSL : Hid (sumX W H A ≤ (W - 1) * blackN W H A) := sumX_le W H A
  obtain ⟨bn, hbn⟩ : ∃ bn, blackN W H A = bn := ⟨_, rfl⟩
  rw [hbn] at HU HV HSX HSL HRX HRY HP
  have HBN := Lib.hid hbn
  clear hbn HRU HRV HT14 HM14 HLT HLM
  obtain ⟨p, hp⟩ : ∃ p, W = p + 1 := ⟨W - 1, by have := HQ.out.1; omega⟩
  have HPW := Lib.hid hp
  have hpb : p ≤ 1048576 := by have := HQ.out; omega
  have HPB := Lib.hid hpb
  have hsub : (W : Int) - 1 = (p : Int) := by omega
  have hsubw : wrap64 ((W : Int) - 1) = (p : Int) := by rw [hsub]; exact Go.IntWalk.wrap64_in _ ⟨by omega, by omega⟩
  have hsubi : IntKind.i64.wrap ((W : Int) - 1) = (p : Int) := by rw [hsub]; exact IntWalk.i64_in _ (by omega)
  have hwp1 : IntKind.i64.wrap (p : Int) = (p : Int) := IntWalk.i64_in _ (by omega)
  have hwp2 : wrap64 (p : Int) = (p : Int) := Go.IntWalk.wrap64_in _ ⟨by omega, by omega⟩
  clear hpb hp hsub
  by_cases hz : bn = 0
  · have hgt : ¬ (0 : Int) < (bn : Int) := by omega
    have HZ := Lib.hid hz
    clear hz
    have f5 : (FloatKind.f64.format.order rx rx == some .eq) = false := by
      have h := HRX.out
      have hz := HZ.out
      have hs := HSL.out
      rw [hz, Nat.mul_zero] at hs
      rw [hz, Nat.le_zero.1 hs] at h
      exact q_nan_self h
    have c0 := HI14.out.c0
    have c1 := HI14.out.c1
    have c2 := HI14.out.c2
    have c3 := HI14.out.c3
    have c4 := HI14.out.c4
    have c5 := HI14.out.c5
    go_upto_region 15 with (first
      | (go_at_call 22; refine (count22' W H a n cap A _ bn HBN.out HI14.out.ka HA.out HN2.out).mono ?_; rintro e w15 ⟨rfl, hbel⟩; have HI15 := Lib.hid (HI14.out.step hbel); clear hbel)
      | (go_at_call 13; refine (sameq HRY.out HV.out _).mono ?_; rintro e w16 ⟨rfl, k16, rfl⟩))
    clear c0 c1 c2 c3 c4 c5
    have HI16 := Lib.hid (HI15.out.step (below_drewN (Below.refl _ _) k16))
    generalize w15.drewN k16 = w16 at *
    clear HI15 HI14
    go_upto_region 17 with fail
    clear f5 HRX HRY HU HV hgt hsubw hsubi hwp1 hwp2
    have HI20 := HI16
    clear HI16
    by_cases hne : (W : Int) = W2 ∧ (H : Int) = H2
    · obtain ⟨rfl, rfl⟩ := hne
      have hen : n = m := HA.out.2.1.trans HB.out.2.1.symm
      subst hen
      have c0 := HI20.out.c0
      have c1 := HI20.out.c1
      have c2 := HI20.out.c2
      have c3 := HI20.out.c3
      have c4 := HI20.out.c4
      have c5 := HI20.out.c5
      go_upto_region 18 with (go_at_call 15; refine (unlike15 W H a n cap A c cap2 B _ HI20.out.ka HI20.out.kb HA.out HB.out HN2.out).mono ?_; rintro e w21 ⟨rs, rfl, HRS, hbel⟩)
      have HI21 := Lib.hid (HI20.out.step hbel)
      clear hbel HI20
      clear c0 c1 c2 c3 c4 c5
      have c0 := HI21.out.c0
      have c1 := HI21.out.c1
      have c2 := HI21.out.c2
      have c3 := HI21.out.c3
      have c4 := HI21.out.c4
      have c5 := HI21.out.c5
      go_upto_region 19 with (go_at_call 15; refine (unlike15 W H c n cap2 B a cap A _ HI21.out.kb HI21.out.ka HB.out HA.out HN2.out).mono ?_; rintro e w22 ⟨rr, rfl, HRR, hbel⟩)
      have HI22 := Lib.hid (HI21.out.step hbel)
      clear hbel HI21
      clear c0 c1 c2 c3 c4 c5
      have HX : Hid (rr = rs) := by
        refine q_agree (Nat.le_trans (diff_le W H B A) HP.out.2.1) HP.out.2.1 HP.out.1 HRR.out ?_
        rw [diff_comm]; exact HRS.out
      obtain rfl := HX.out
      clear HX HRR
      have f1 := q_ne_self (Nat.le_trans (diff_le W H A B) HP.out.2.1) HP.out.2.1 HP.out.1 HRS.out
      have f3 := q_lt0 (Nat.le_trans (diff_le W H A B) HP.out.2.1) HP.out.2.1 HP.out.1 HRS.out
      have f4 := q_le1 (Nat.le_trans (diff_le W H A B) HP.out.2.1) HP.out.2.1 HP.out.1 (diff_le W H A B) HRS.out
      have f2 := q_eq0 (Nat.le_trans (diff_le W H A B) HP.out.2.1) HP.out.2.1 HP.out.1 HRS.out
      have hdz := diff_zero HA.out HB.out (IsWords.lt HI22.out.ka) (IsWords.lt HI22.out.kb)
      by_cases hdf : diffN W H A B = 0
      · rw [decide_eq_true hdf] at f2
        have HEQ : Hid (true = true ↔ (W : Int) = (W : Int) ∧ (H : Int) = (H : Int) ∧ eqL n n A B) := ⟨fun _ => ⟨rfl, rfl, rfl, hdz.1 hdf⟩, fun _ => rfl⟩
        clear hdf hdz HRS
        have c0 := HI22.out.c0
        have c1 := HI22.out.c1
        have c2 := HI22.out.c2
        have c3 := HI22.out.c3
        have c4 := HI22.out.c4
        have c5 := HI22.out.c5
        go_upto_region 21 with (go_at_call 24; refine (eqbitmap0 (W : Int) (H : Int) a n cap A (W : Int) (H : Int) c n cap2 B true _ HI22.out.ka HI22.out.kb HEQ.out (Nat.le_trans HN2.out (by decide))).mono ?_; rintro e w23 ⟨rfl, hbel⟩; have HI23 := Lib.hid (HI22.out.step hbel); clear hbel)
        clear c0 c1 c2 c3 c4 c5
        have c0 := HI23.out.c0
        have c1 := HI23.out.c1
        have c2 := HI23.out.c2
        have c3 := HI23.out.c3
        have c4 := HI23.out.c4
        have c5 := HI23.out.c5
        go_wp2_with (go_at_call 17; refine (wakes14 _).mono ?_; rintro e w3 ⟨rfl, k, rfl⟩)
        go_ret
        exact ⟨rfl, below_drewN HI23.out.bel _⟩
      · rw [decide_eq_false hdf] at f2
        have HEQ : Hid (false = true ↔ (W : Int) = (W : Int) ∧ (H : Int) = (H : Int) ∧ eqL n n A B) := ⟨fun h => (by cases h), fun h => absurd (hdz.2 h.2.2.2) hdf⟩
        clear hdf hdz HRS
        have c0 := HI22.out.c0
        have c1 := HI22.out.c1
        have c2 := HI22.out.c2
        have c3 := HI22.out.c3
        have c4 := HI22.out.c4
        have c5 := HI22.out.c5
        go_upto_region 21 with (go_at_call 24; refine (eqbitmap0 (W : Int) (H : Int) a n cap A (W : Int) (H : Int) c n cap2 B false _ HI22.out.ka HI22.out.kb HEQ.out (Nat.le_trans HN2.out (by decide))).mono ?_; rintro e w23 ⟨rfl, hbel⟩; have HI23 := Lib.hid (HI22.out.step hbel); clear hbel)
        clear c0 c1 c2 c3 c4 c5
        have c0 := HI23.out.c0
        have c1 := HI23.out.c1
        have c2 := HI23.out.c2
        have c3 := HI23.out.c3
        have c4 := HI23.out.c4
        have c5 := HI23.out.c5
        go_wp2_with (go_at_call 17; refine (wakes14 _).mono ?_; rintro e w3 ⟨rfl, k, rfl⟩)
        go_ret
        exact ⟨rfl, below_drewN HI23.out.bel _⟩
    · have HNE := Lib.hid hne
      have HNE2 : Hid (¬ (W2 = (W : Int) ∧ H2 = (H : Int))) := fun h => hne ⟨h.1.symm, h.2.symm⟩
      have HEQ : Hid (false = true ↔ (W : Int) = W2 ∧ (H : Int) = H2 ∧ eqL n m A B) := ⟨fun h => (by cases h), fun h => absurd ⟨h.1, h.2.1⟩ hne⟩
      clear hne
      obtain ⟨f1, f2, f3, f4⟩ := inf_facts
      have c0 := HI20.out.c0
      have c1 := HI20.out.c1
      have c2 := HI20.out.c2
      have c3 := HI20.out.c3
      have c4 := HI20.out.c4
      have c5 := HI20.out.c5
      go_upto_region 18 with (go_at_call 15; refine (unlike_far (W : Int) (H : Int) a n cap A W2 H2 c m cap2 B _ HI20.out.ka HI20.out.kb HA.out HB.out HNE.out).mono ?_; rintro e w21 ⟨rfl, hbel⟩)
      have HI21 := Lib.hid (HI20.out.step hbel)
      clear hbel HI20
      clear c0 c1 c2 c3 c4 c5
      have c0 := HI21.out.c0
      have c1 := HI21.out.c1
      have c2 := HI21.out.c2
      have c3 := HI21.out.c3
      have c4 := HI21.out.c4
      have c5 := HI21.out.c5
      go_upto_region 19 with (go_at_call 15; refine (unlike_far W2 H2 c m cap2 B (W : Int) (H : Int) a n cap A _ HI21.out.kb HI21.out.ka HB.out HA.out HNE2.out).mono ?_; rintro e w22 ⟨rfl, hbel⟩)
      have HI22 := Lib.hid (HI21.out.step hbel)
      clear hbel HI21
      clear c0 c1 c2 c3 c4 c5
      have c0 := HI22.out.c0
      have c1 := HI22.out.c1
      have c2 := HI22.out.c2
      have c3 := HI22.out.c3
      have c4 := HI22.out.c4
      have c5 := HI22.out.c5
      go_upto_region 21 with (go_at_call 24; refine (eqbitmap0 (W : Int) (H : Int) a n cap A W2 H2 c m cap2 B false _ HI22.out.ka HI22.out.kb HEQ.out (Nat.le_trans HN2.out (by decide))).mono ?_; rintro e w23 ⟨rfl, hbel⟩; have HI23 := Lib.hid (HI22.out.step hbel); clear hbel)
      clear c0 c1 c2 c3 c4 c5
      have c0 := HI23.out.c0
      have c1 := HI23.out.c1
      have c2 := HI23.out.c2
      have c3 := HI23.out.c3
      have c4 := HI23.out.c4
      have c5 := HI23.out.c5
      by_cases hw : (W : Int) = W2
      · have hh : ¬ (H : Int) = H2 := fun h => HNE.out ⟨hw, h⟩
        subst hw
        go_wp2_with (go_at_call 17; refine (wakes14 _).mono ?_; rintro e w3 ⟨rfl, k, rfl⟩)
        go_ret
        exact ⟨by simp [hh], below_drewN HI23.out.bel _⟩
      · go_wp2_with (go_at_call 17; refine (wakes14 _).mono ?_; rintro e w3 ⟨rfl, k, rfl⟩)
        go_ret
        exact ⟨rfl, below_drewN HI23.out.bel _⟩
  · have hgt : (0 : Int) < (bn : Int) := by omega
    have HZ := Lib.hid hz
    clear hz
    have HB9 : Hid (0 < bn ∧ bn ≤ 9007199254740992 ∧ sumX W H A ≤ p * bn ∧ sumX W H A ≤ 9007199254740992 ∧ sumX W H Cm ≤ 9007199254740992 ∧ sumX W H A + sumX W H Cm = p * bn ∧ p ≤ 1048576) := by
      have h1 := HP.out
      have h2 := HZ.out
      have h3 := HSL.out
      have h4 := HSX.out
      have h5 := HPB.out
      have h6 := HPW.out
      rw [h6, Nat.add_sub_cancel] at h3 h4
      rw [← h6] at h3 h4
      have h7 : p * bn ≤ 1048576 * 640000 := Nat.mul_le_mul h5 (by omega)
      exact ⟨by omega, by omega, h3, by omega, by omega, h4, h5⟩
    have f5 := q_eq_self HB9.out.2.2.2.1 HB9.out.2.1 HB9.out.1 HRX.out
    have f6 := q_lt0 HB9.out.2.2.2.1 HB9.out.2.1 HB9.out.1 HRX.out
    have f7 : (FloatKind.f64.format.order rx (floatOfInt FloatKind.f64 (p : Int)) == some .gt) = false := q_gt HB9.out.2.2.2.1 HB9.out.2.1 (Nat.le_trans HB9.out.2.2.2.2.2.2 (by decide)) HB9.out.1 HB9.out.2.2.1 HRX.out
    obtain ⟨sx, hadd, hsn, hwi⟩ := q_sum HB9.out.2.2.2.1 HB9.out.2.2.2.2.1 HB9.out.2.1 HB9.out.2.2.2.2.2.2 HB9.out.1 HB9.out.2.2.2.2.2.1 HRX.out HU.out
    have hrun := run_fl_some (P := Tryd.prog) .add _ _ _ hadd
    have HWI := Lib.hid hwi
    clear hadd hsn hwi
    have c0 := HI14.out.c0
    have c1 := HI14.out.c1
    have c2 := HI14.out.c2
    have c3 := HI14.out.c3
    have c4 := HI14.out.c4
    have c5 := HI14.out.c5
    go_upto_region 15 with (first
      | (go_at_call 22; refine (count22' W H a n cap A _ bn HBN.out HI14.out.ka HA.out HN2.out).mono ?_; rintro e w15 ⟨rfl, hbel⟩; have HI15 := Lib.hid (HI14.out.step hbel); clear hbel)
      | (go_at_call 13; refine (sameq HRY.out HV.out _).mono ?_; rintro e w16 ⟨rfl, k16, rfl⟩))
    clear c0 c1 c2 c3 c4 c5
    have HI16 := Lib.hid (HI15.out.step (below_drewN (Below.refl _ _) k16))
    generalize w15.drewN k16 = w16 at *
    have c0 := HI16.out.c0
    clear HI15 HI14
    go_upto_region 17 with (go_at_call 23; refine (within15 _ _ _ _).mono ?_; rintro e w17 ⟨rfl, k17, rfl⟩; rw [show withinB sx (floatOfInt FloatKind.f64 (p : Int)) 4517329193108106637 = true from HWI.out])
    clear f5 f6 f7 hrun HWI c0 HRX HRY HU HV hgt hsubw hsubi hwp1 hwp2
    have HI17 := Lib.hid (HI16.out.step (below_drewN (Below.refl _ _) k17))
    generalize w16.drewN k17 = w17 at *
    have HI20 := HI17
    clear HI17 HI16
    by_cases hne : (W : Int) = W2 ∧ (H : Int) = H2
    · obtain ⟨rfl, rfl⟩ := hne
      have hen : n = m := HA.out.2.1.trans HB.out.2.1.symm
      subst hen
      have c0 := HI20.out.c0
      have c1 := HI20.out.c1
      have c2 := HI20.out.c2
      have c3 := HI20.out.c3
      have c4 := HI20.out.c4
      have c5 := HI20.out.c5
      go_upto_region 18 with (go_at_call 15; refine (unlike15 W H a n cap A c cap2 B _ HI20.out.ka HI20.out.kb HA.out HB.out HN2.out).mono ?_; rintro e w21 ⟨rs, rfl, HRS, hbel⟩)
      have HI21 := Lib.hid (HI20.out.step hbel)
      clear hbel HI20
      clear c0 c1 c2 c3 c4 c5
      have c0 := HI21.out.c0
      have c1 := HI21.out.c1
      have c2 := HI21.out.c2
      have c3 := HI21.out.c3
      have c4 := HI21.out.c4
      have c5 := HI21.out.c5
      go_upto_region 19 with (go_at_call 15; refine (unlike15 W H c n cap2 B a cap A _ HI21.out.kb HI21.out.ka HB.out HA.out HN2.out).mono ?_; rintro e w22 ⟨rr, rfl, HRR, hbel⟩)
      have HI22 := Lib.hid (HI21.out.step hbel)
      clear hbel HI21
      clear c0 c1 c2 c3 c4 c5
      have HX : Hid (rr = rs) := by
        refine q_agree (Nat.le_trans (diff_le W H B A) HP.out.2.1) HP.out.2.1 HP.out.1 HRR.out ?_
        rw [diff_comm]; exact HRS.out
      obtain rfl := HX.out
      clear HX HRR
      have f1 := q_ne_self (Nat.le_trans (diff_le W H A B) HP.out.2.1) HP.out.2.1 HP.out.1 HRS.out
      have f3 := q_lt0 (Nat.le_trans (diff_le W H A B) HP.out.2.1) HP.out.2.1 HP.out.1 HRS.out
      have f4 := q_le1 (Nat.le_trans (diff_le W H A B) HP.out.2.1) HP.out.2.1 HP.out.1 (diff_le W H A B) HRS.out
      have f2 := q_eq0 (Nat.le_trans (diff_le W H A B) HP.out.2.1) HP.out.2.1 HP.out.1 HRS.out
      have hdz := diff_zero HA.out HB.out (IsWords.lt HI22.out.ka) (IsWords.lt HI22.out.kb)
      by_cases hdf : diffN W H A B = 0
      · rw [decide_eq_true hdf] at f2
        have HEQ : Hid (true = true ↔ (W : Int) = (W : Int) ∧ (H : Int) = (H : Int) ∧ eqL n n A B) := ⟨fun _ => ⟨rfl, rfl, rfl, hdz.1 hdf⟩, fun _ => rfl⟩
        clear hdf hdz HRS
        have c0 := HI22.out.c0
        have c1 := HI22.out.c1
        have c2 := HI22.out.c2
        have c3 := HI22.out.c3
        have c4 := HI22.out.c4
        have c5 := HI22.out.c5
        go_upto_region 21 with (go_at_call 24; refine (eqbitmap0 (W : Int) (H : Int) a n cap A (W : Int) (H : Int) c n cap2 B true _ HI22.out.ka HI22.out.kb HEQ.out (Nat.le_trans HN2.out (by decide))).mono ?_; rintro e w23 ⟨rfl, hbel⟩; have HI23 := Lib.hid (HI22.out.step hbel); clear hbel)
        clear c0 c1 c2 c3 c4 c5
        have c0 := HI23.out.c0
        have c1 := HI23.out.c1
        have c2 := HI23.out.c2
        have c3 := HI23.out.c3
        have c4 := HI23.out.c4
        have c5 := HI23.out.c5
        go_wp2_with (go_at_call 17; refine (wakes14 _).mono ?_; rintro e w3 ⟨rfl, k, rfl⟩)
        go_ret
        exact ⟨rfl, below_drewN HI23.out.bel _⟩
      · rw [decide_eq_false hdf] at f2
        have HEQ : Hid (false = true ↔ (W : Int) = (W : Int) ∧ (H : Int) = (H : Int) ∧ eqL n n A B) := ⟨fun h => (by cases h), fun h => absurd (hdz.2 h.2.2.2) hdf⟩
        clear hdf hdz HRS
        have c0 := HI22.out.c0
        have c1 := HI22.out.c1
        have c2 := HI22.out.c2
        have c3 := HI22.out.c3
        have c4 := HI22.out.c4
        have c5 := HI22.out.c5
        go_upto_region 21 with (go_at_call 24; refine (eqbitmap0 (W : Int) (H : Int) a n cap A (W : Int) (H : Int) c n cap2 B false _ HI22.out.ka HI22.out.kb HEQ.out (Nat.le_trans HN2.out (by decide))).mono ?_; rintro e w23 ⟨rfl, hbel⟩; have HI23 := Lib.hid (HI22.out.step hbel); clear hbel)
        clear c0 c1 c2 c3 c4 c5
        have c0 := HI23.out.c0
        have c1 := HI23.out.c1
        have c2 := HI23.out.c2
        have c3 := HI23.out.c3
        have c4 := HI23.out.c4
        have c5 := HI23.out.c5
        go_wp2_with (go_at_call 17; refine (wakes14 _).mono ?_; rintro e w3 ⟨rfl, k, rfl⟩)
        go_ret
        exact ⟨rfl, below_drewN HI23.out.bel _⟩
    · have HNE := Lib.hid hne
      have HNE2 : Hid (¬ (W2 = (W : Int) ∧ H2 = (H : Int))) := fun h => hne ⟨h.1.symm, h.2.symm⟩
      have HEQ : Hid (false = true ↔ (W : Int) = W2 ∧ (H : Int) = H2 ∧ eqL n m A B) := ⟨fun h => (by cases h), fun h => absurd ⟨h.1, h.2.1⟩ hne⟩
      clear hne
      obtain ⟨f1, f2, f3, f4⟩ := inf_facts
      have c0 := HI20.out.c0
      have c1 := HI20.out.c1
      have c2 := HI20.out.c2
      have c3 := HI20.out.c3
      have c4 := HI20.out.c4
      have c5 := HI20.out.c5
      go_upto_region 18 with (go_at_call 15; refine (unlike_far (W : Int) (H : Int) a n cap A W2 H2 c m cap2 B _ HI20.out.ka HI20.out.kb HA.out HB.out HNE.out).mono ?_; rintro e w21 ⟨rfl, hbel⟩)
      have HI21 := Lib.hid (HI20.out.step hbel)
      clear hbel HI20
      clear c0 c1 c2 c3 c4 c5
      have c0 := HI21.out.c0
      have c1 := HI21.out.c1
      have c2 := HI21.out.c2
      have c3 := HI21.out.c3
      have c4 := HI21.out.c4
      have c5 := HI21.out.c5
      go_upto_region 19 with (go_at_call 15; refine (unlike_far W2 H2 c m cap2 B (W : Int) (H : Int) a n cap A _ HI21.out.kb HI21.out.ka HB.out HA.out HNE2.out).mono ?_; rintro e w22 ⟨rfl, hbel⟩)
      have HI22 := Lib.hid (HI21.out.step hbel)
      clear hbel HI21
      clear c0 c1 c2 c3 c4 c5
      have c0 := HI22.out.c0
      have c1 := HI22.out.c1
      have c2 := HI22.out.c2
      have c3 := HI22.out.c3
      have c4 := HI22.out.c4
      have c5 := HI22.out.c5
      go_upto_region 21 with (go_at_call 24; refine (eqbitmap0 (W : Int) (H : Int) a n cap A W2 H2 c m cap2 B false _ HI22.out.ka HI22.out.kb HEQ.out (Nat.le_trans HN2.out (by decide))).mono ?_; rintro e w23 ⟨rfl, hbel⟩; have HI23 := Lib.hid (HI22.out.step hbel); clear hbel)
      clear c0 c1 c2 c3 c4 c5
      have c0 := HI23.out.c0
      have c1 := HI23.out.c1
      have c2 := HI23.out.c2
      have c3 := HI23.out.c3
      have c4 := HI23.out.c4
      have c5 := HI23.out.c5
      by_cases hw : (W : Int) = W2
      · have hh : ¬ (H : Int) = H2 := fun h => HNE.out ⟨hw, h⟩
        subst hw
        go_wp2_with (go_at_call 17; refine (wakes14 _).mono ?_; rintro e w3 ⟨rfl, k, rfl⟩)
        go_ret
        exact ⟨by simp [hh], below_drewN HI23.out.bel _⟩
      · go_wp2_with (go_at_call 17; refine (wakes14 _).mono ?_; rintro e w3 ⟨rfl, k, rfl⟩)
        go_ret
        exact ⟨rfl, below_drewN HI23.out.bel _⟩
theorem okB_len {W H : Int} {n : Nat} {B : Nat → Nat} (h : okB W H n B) : n ≤ 17179869184 := by
  have hs := okS_le h.1
  have h1 := h.1.1
  have h2 := h.1.2.1
  rw [h.2.1]
  have h3 : wd W.toNat ≤ 16384 := wd_le (by omega)
  have h4 : H.toNat ≤ 1048576 := by omega
  exact Nat.mul_le_mul h4 h3
theorem turned_walk (m m2 : BM) (w : World) (hA : IsTwo w m m2) (hT : TabW w) :
    Calls Tryd.prog 4 #[.agg #[.int .i64 m.w, .int .i64 m.h, .slice m.a m.n m.c, .int .i64 m2.w, .int .i64 m2.h, .slice m2.a m2.n m2.c]] w fun e w' => e = .returned (.bool true) ∧ Below w.heap.size w w' := by
  obtain ⟨⟨h1, _⟩, h2, _⟩ := hA
  by_cases ha : okB m.w m.h m.n m.L
  · by_cases hb : okB m2.w m2.h m2.n m2.L
    · by_cases hs : 64 * (m.n : Int) + 64 * (m2.n : Int) + 128 ≤ 20000
      · obtain ⟨W, hW⟩ : ∃ x : Nat, m.w = x := ⟨m.w.toNat, by have := ha.1.1; omega⟩
        obtain ⟨H, hH⟩ : ∃ x : Nat, m.h = x := ⟨m.h.toNat, by have := ha.1.2.1; omega⟩
        rw [hW, hH] at ha ⊢
        exact turned_main W H m.a m.n m.c m.L m2.w m2.h m2.a m2.n m2.c m2.L w h1 h2 hT ha hb hs
      · exact turned_no3 _ _ _ _ _ _ _ _ _ _ _ _ w h1 h2 hT ha hb (okB_len ha) (okB_len hb) hs
    · exact turned_no2 _ _ _ _ _ _ _ _ _ _ _ _ w h1 h2 hT ha hb
  · exact turned_no1 _ _ _ _ _ _ _ _ _ _ _ _ w h1 h2 hT ha
end Go.Proofs.YtokdgppaedklhaaDoor
