/- Unlike of package measure. Conditions: the bounds that each theorem names. -/
import Derived.Test.YtokdgppaedklhaaDoorWf
namespace Go.Proofs.YtokdgppaedklhaaDoor
open Go.RowKit Go.Bm Fl Go.FlW

/-- what holds of two boxed bitmaps in every world from then on -/
structure TInv (w : World) (W0 : Nat) (W H : Int) (a : Option Addr) (n cap : Nat) (A : Nat → Nat) (W2 H2 : Int) (c : Option Addr) (m cap2 : Nat) (B : Nat → Nat) (W' : World) : Prop where
  lt : W0 + 1 < W'.heap.size
  c0 : W'.cell? ⟨W0, 0, none⟩ = some (.int .i64 W)
  c1 : W'.cell? ⟨W0, 1, none⟩ = some (.int .i64 H)
  c2 : W'.cell? ⟨W0, 2, none⟩ = some (.slice a n cap)
  d0 : W'.cell? ⟨W0 + 1, 0, none⟩ = some (.int .i64 W2)
  d1 : W'.cell? ⟨W0 + 1, 1, none⟩ = some (.int .i64 H2)
  d2 : W'.cell? ⟨W0 + 1, 2, none⟩ = some (.slice c m cap2)
  ka : IsWords W' a n cap A
  kb : IsWords W' c m cap2 B
  bel : Below W0 w W'
theorem TInv.step {w : World} {W0 : Nat} {W H : Int} {a : Option Addr} {n cap : Nat} {A : Nat → Nat} {W2 H2 : Int} {c : Option Addr} {m cap2 : Nat} {B : Nat → Nat} {W1 W3 : World} (h : TInv w W0 W H a n cap A W2 H2 c m cap2 B W1) (hb : Below W1.heap.size W1 W3) : TInv w W0 W H a n cap A W2 H2 c m cap2 B W3 :=
  have l0 : W0 < W1.heap.size := Nat.lt_of_succ_lt h.lt
  ⟨Nat.lt_of_lt_of_le h.lt hb.size, (hb.cell (p := ⟨W0, 0, none⟩) l0).trans h.c0, (hb.cell (p := ⟨W0, 1, none⟩) l0).trans h.c1, (hb.cell (p := ⟨W0, 2, none⟩) l0).trans h.c2,
    (hb.cell (p := ⟨W0 + 1, 0, none⟩) h.lt).trans h.d0, (hb.cell (p := ⟨W0 + 1, 1, none⟩) h.lt).trans h.d1, (hb.cell (p := ⟨W0 + 1, 2, none⟩) h.lt).trans h.d2, h.ka.below hb, h.kb.below hb, h.bel.trans (hb.mono (Nat.le_of_lt l0))⟩
theorem TInv.stepd {w : World} {W0 : Nat} {W H : Int} {a : Option Addr} {n cap : Nat} {A : Nat → Nat} {W2 H2 : Int} {c : Option Addr} {m cap2 : Nat} {B : Nat → Nat} {W1 W3 : World} (h : TInv w W0 W H a n cap A W2 H2 c m cap2 B W1) (hb : Below W1.heap.size W1.drew W3) : TInv w W0 W H a n cap A W2 H2 c m cap2 B W3 :=
  h.step (Below.trans (Below.drew (Below.refl _ W1)) hb)
theorem TInv.new {w : World} {W H : Int} {a : Option Addr} {n cap : Nat} {A : Nat → Nat} {W2 H2 : Int} {c : Option Addr} {m cap2 : Nat} {B : Nat → Nat} (h : IsWords w a n cap A) (k : IsWords w c m cap2 B) :
    TInv w w.heap.size W H a n cap A W2 H2 c m cap2 B ((w.alloc (.cells #[.int .i64 W, .int .i64 H, .slice a n cap] 25)).alloc (.cells #[.int .i64 W2, .int .i64 H2, .slice c m cap2] 25)) := by
  have hb : Below w.heap.size w ((w.alloc (.cells #[.int .i64 W, .int .i64 H, .slice a n cap] 25)).alloc (.cells #[.int .i64 W2, .int .i64 H2, .slice c m cap2] 25)) := ((Below.refl _ _).alloc (Nat.le_refl _) _).alloc (by simp) _
  obtain ⟨t1, t2⟩ := two_cells w #[.int .i64 W, .int .i64 H, .slice a n cap] #[.int .i64 W2, .int .i64 H2, .slice c m cap2] 25 25
  exact ⟨by simp, t1 0, t1 1, t1 2, t2 0, t2 1, t2 2, h.below hb, k.below hb, hb⟩

set_option maxRecDepth 100000 in
set_option maxHeartbeats 2000000 in
theorem unlike_no1 (W H : Int) (a : Option Addr) (n cap : Nat) (A : Nat → Nat) (W2 H2 : Int) (c : Option Addr) (m cap2 : Nat) (B : Nat → Nat) (w : World) (hA : IsWords w a n cap A) (hB : IsWords w c m cap2 B) (ha : ¬ okB W H n A) :
    Calls Tryd.prog 15 #[.agg #[.int .i64 W, .int .i64 H, .slice a n cap], .agg #[.int .i64 W2, .int .i64 H2, .slice c m cap2]] w fun e w' => e = .returned (.tuple #[.float .f64 0, .int .i64 101]) ∧ Below w.heap.size w w' := by
  have hi := TInv.new (W := W) (H := H) (W2 := W2) (H2 := H2) hA hB
  have HI := Lib.hid hi
  have HA := Lib.hid ha
  clear hA hB hi ha
  go_enter Tryd.func15, Tryd.ntmps15
  go_upto_region 1 with fail
  obtain ⟨W0, hW0⟩ : ∃ W0, w.heap.size = W0 := ⟨_, rfl⟩
  have HI := Lib.hid (hW0 ▸ HI.out)
  rw [hW0]
  have HW0 := Lib.hid hW0
  clear hW0
  generalize (w.alloc (.cells #[.int .i64 W, .int .i64 H, .slice a n cap] 25)).alloc (.cells #[.int .i64 W2, .int .i64 H2, .slice c m cap2] 25) = w0 at *
  have c0 := HI.out.c0
  have c1 := HI.out.c1
  have c2 := HI.out.c2
  go_wp2_with (go_at_call 25; refine (check0 W H a n cap A false _ HI.out.ka (by simp [HA.out])).mono ?_; rintro e w1 ⟨rfl, hbel⟩; have HI1 := Lib.hid (HI.out.step hbel); clear hbel)
  go_ret2
  exact ⟨rfl, HI1.out.bel.mono (Nat.le_of_eq HW0.out)⟩

set_option maxRecDepth 100000 in
set_option maxHeartbeats 2000000 in
theorem unlike_no2 (W H : Int) (a : Option Addr) (n cap : Nat) (A : Nat → Nat) (W2 H2 : Int) (c : Option Addr) (m cap2 : Nat) (B : Nat → Nat) (w : World) (hA : IsWords w a n cap A) (hB : IsWords w c m cap2 B) (ha : okB W H n A) (hb : ¬ okB W2 H2 m B) :
    Calls Tryd.prog 15 #[.agg #[.int .i64 W, .int .i64 H, .slice a n cap], .agg #[.int .i64 W2, .int .i64 H2, .slice c m cap2]] w fun e w' => e = .returned (.tuple #[.float .f64 0, .int .i64 101]) ∧ Below w.heap.size w w' := by
  have hi := TInv.new (W := W) (H := H) (W2 := W2) (H2 := H2) hA hB
  have HI := Lib.hid hi
  have HA := Lib.hid ha
  have HB := Lib.hid hb
  clear hA hB hi ha hb
  go_enter Tryd.func15, Tryd.ntmps15
  go_upto_region 1 with fail
  obtain ⟨W0, hW0⟩ : ∃ W0, w.heap.size = W0 := ⟨_, rfl⟩
  have HI := Lib.hid (hW0 ▸ HI.out)
  rw [hW0]
  have HW0 := Lib.hid hW0
  clear hW0
  generalize (w.alloc (.cells #[.int .i64 W, .int .i64 H, .slice a n cap] 25)).alloc (.cells #[.int .i64 W2, .int .i64 H2, .slice c m cap2] 25) = w0 at *
  have c0 := HI.out.c0
  have c1 := HI.out.c1
  have c2 := HI.out.c2
  go_wp2_with fail
  refine (check0 W H a n cap A true _ HI.out.ka (by simp [HA.out])).mono ?_
  rintro e w1 ⟨rfl, hbel⟩
  have HI1 := Lib.hid (HI.out.step hbel)
  clear hbel c0 c1 c2 HI
  have d0 := HI1.out.d0
  have d1 := HI1.out.d1
  have d2 := HI1.out.d2
  go_wp2_with fail
  refine (check0 W2 H2 c m cap2 B false _ HI1.out.kb (by simp [HB.out])).mono ?_
  rintro e w2 ⟨rfl, hbel⟩
  have HI2 := Lib.hid (HI1.out.step hbel)
  clear hbel d0 d1 d2 HI1
  go_wp2_with fail
  go_ret2
  exact ⟨rfl, HI2.out.bel.mono (Nat.le_of_eq HW0.out)⟩

set_option maxRecDepth 100000 in
set_option maxHeartbeats 2000000 in
theorem unlike_far (W H : Int) (a : Option Addr) (n cap : Nat) (A : Nat → Nat) (W2 H2 : Int) (c : Option Addr) (m cap2 : Nat) (B : Nat → Nat) (w : World) (hA : IsWords w a n cap A) (hB : IsWords w c m cap2 B) (ha : okB W H n A) (hb : okB W2 H2 m B) (hne : ¬ (W = W2 ∧ H = H2)) :
    Calls Tryd.prog 15 #[.agg #[.int .i64 W, .int .i64 H, .slice a n cap], .agg #[.int .i64 W2, .int .i64 H2, .slice c m cap2]] w fun e w' => e = .returned (.tuple #[.float .f64 9218868437227405312, .int .i64 0]) ∧ Below w.heap.size w w' := by
  have hi := TInv.new (W := W) (H := H) (W2 := W2) (H2 := H2) hA hB
  have HI := Lib.hid hi
  have HA := Lib.hid ha
  have HB := Lib.hid hb
  clear hA hB hi ha hb
  have HNE := Lib.hid hne
  clear hne
  go_enter Tryd.func15, Tryd.ntmps15
  go_upto_region 1 with fail
  obtain ⟨W0, hW0⟩ : ∃ W0, w.heap.size = W0 := ⟨_, rfl⟩
  have HI := Lib.hid (hW0 ▸ HI.out)
  rw [hW0]
  have HW0 := Lib.hid hW0
  clear hW0
  generalize (w.alloc (.cells #[.int .i64 W, .int .i64 H, .slice a n cap] 25)).alloc (.cells #[.int .i64 W2, .int .i64 H2, .slice c m cap2] 25) = w0 at *
  have c0 := HI.out.c0
  have c1 := HI.out.c1
  have c2 := HI.out.c2
  go_wp2_with fail
  refine (check0 W H a n cap A true _ HI.out.ka (by simp [HA.out])).mono ?_
  rintro e w1 ⟨rfl, hbel⟩
  have HI1 := Lib.hid (HI.out.step hbel)
  clear hbel c0 c1 c2 HI
  have d0 := HI1.out.d0
  have d1 := HI1.out.d1
  have d2 := HI1.out.d2
  go_wp2_with fail
  refine (check0 W2 H2 c m cap2 B true _ HI1.out.kb (by simp [HB.out])).mono ?_
  rintro e w2 ⟨rfl, hbel⟩
  have HI2 := Lib.hid (HI1.out.step hbel)
  clear hbel d0 d1 d2 HI1
  have c0 := HI2.out.c0
  have c1 := HI2.out.c1
  have d0 := HI2.out.d0
  have d1 := HI2.out.d1
  by_cases h1 : W = W2
  · have h2 : ¬ H = H2 := fun g => HNE.out ⟨h1, g⟩
    subst h1
    go_wp2_with (go_at_call 35; refine (inf35 _).mono ?_; rintro e w3 ⟨rfl, rfl⟩)
    go_ret2
    exact ⟨rfl, HI2.out.bel.mono (Nat.le_of_eq HW0.out)⟩
  · go_wp2_with (go_at_call 35; refine (inf35 _).mono ?_; rintro e w3 ⟨rfl, rfl⟩)
    go_ret2
    exact ⟨rfl, HI2.out.bel.mono (Nat.le_of_eq HW0.out)⟩
end Go.Proofs.YtokdgppaedklhaaDoor
