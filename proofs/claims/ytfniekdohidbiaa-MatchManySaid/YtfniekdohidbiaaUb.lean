/- Unlike of package measure, and of the reference. Conditions: the bounds that each theorem names. -/
import Derived.Test.YtfniekdohidbiaaUa
namespace Go.Proofs.Ytfniekdohidbiaa
open Go.RowKit Go.Bm Fl Go.FlW
/-- what holds of two boxed bitmaps in every world from then on -/
structure TInv (w : World) (W0 : Nat) (W H : Int) (a : Option Addr) (n cap : Nat) (A : Nat → Nat) (W2 H2 : Int) (c : Option Addr) (m cap2 : Nat) (B : Nat → Nat) (W' : World) : Prop where
  lt : W0 + 1 < W'.heap.size
  c0 : W'.cell? ⟨W0, 0, none⟩ = some (.int .i64 W)
  c1 : W'.cell? ⟨W0, 1, none⟩ = some (.int .i64 H)
  c2 : W'.cell? ⟨W0, 2, none⟩ = some (.slice a n cap)
  d0 : W'.cell? ⟨W0 + 1, 0, none⟩ = some (.int .i64 W2)
  d1 : W'.cell? ⟨W0 + 1, 1, none⟩ = some (.int .i64 H2)
  d2 : W'.cell? ⟨W0 + 1, 2, none⟩ = some (.slice c m cap2)
  ka : IsWords W' a n cap A
  kb : IsWords W' c m cap2 B
  bel : Below W0 w W'
theorem TInv.step {w : World} {W0 : Nat} {W H : Int} {a : Option Addr} {n cap : Nat} {A : Nat → Nat} {W2 H2 : Int} {c : Option Addr} {m cap2 : Nat} {B : Nat → Nat} {W1 W3 : World} (h : TInv w W0 W H a n cap A W2 H2 c m cap2 B W1) (hb : Below W1.heap.size W1 W3) : TInv w W0 W H a n cap A W2 H2 c m cap2 B W3 :=
  have l0 : W0 < W1.heap.size := Nat.lt_of_succ_lt h.lt
  ⟨Nat.lt_of_lt_of_le h.lt hb.size, (hb.cell (p := ⟨W0, 0, none⟩) l0).trans h.c0, (hb.cell (p := ⟨W0, 1, none⟩) l0).trans h.c1, (hb.cell (p := ⟨W0, 2, none⟩) l0).trans h.c2,
    (hb.cell (p := ⟨W0 + 1, 0, none⟩) h.lt).trans h.d0, (hb.cell (p := ⟨W0 + 1, 1, none⟩) h.lt).trans h.d1, (hb.cell (p := ⟨W0 + 1, 2, none⟩) h.lt).trans h.d2, h.ka.below hb, h.kb.below hb, h.bel.trans (hb.mono (Nat.le_of_lt l0))⟩
theorem TInv.stepd {w : World} {W0 : Nat} {W H : Int} {a : Option Addr} {n cap : Nat} {A : Nat → Nat} {W2 H2 : Int} {c : Option Addr} {m cap2 : Nat} {B : Nat → Nat} {W1 W3 : World} (h : TInv w W0 W H a n cap A W2 H2 c m cap2 B W1) (hb : Below W1.heap.size W1.drew W3) : TInv w W0 W H a n cap A W2 H2 c m cap2 B W3 :=
  h.step (Below.trans (Below.drew (Below.refl _ W1)) hb)
theorem TInv.new {w : World} {W H : Int} {a : Option Addr} {n cap : Nat} {A : Nat → Nat} {W2 H2 : Int} {c : Option Addr} {m cap2 : Nat} {B : Nat → Nat} (h : IsWords w a n cap A) (k : IsWords w c m cap2 B) :
    TInv w w.heap.size W H a n cap A W2 H2 c m cap2 B ((w.alloc (.cells #[.int .i64 W, .int .i64 H, .slice a n cap] 48)).alloc (.cells #[.int .i64 W2, .int .i64 H2, .slice c m cap2] 48)) := by
  have hb : Below w.heap.size w ((w.alloc (.cells #[.int .i64 W, .int .i64 H, .slice a n cap] 48)).alloc (.cells #[.int .i64 W2, .int .i64 H2, .slice c m cap2] 48)) := ((Below.refl _ _).alloc (Nat.le_refl _) _).alloc (by simp) _
  obtain ⟨t1, t2⟩ := two_cells w #[.int .i64 W, .int .i64 H, .slice a n cap] #[.int .i64 W2, .int .i64 H2, .slice c m cap2] 48 48
  exact ⟨by simp, t1 0, t1 1, t1 2, t2 0, t2 1, t2 2, h.below hb, k.below hb, hb⟩
set_option maxRecDepth 100000 in
set_option maxHeartbeats 2000000 in
theorem unlike_no1 (W H : Int) (a : Option Addr) (n cap : Nat) (A : Nat → Nat) (W2 H2 : Int) (c : Option Addr) (m cap2 : Nat) (B : Nat → Nat) (w : World) (hA : IsWords w a n cap A) (hB : IsWords w c m cap2 B) (ha : ¬ okB W H n A) :
    Calls Try.prog 26 #[.agg #[.int .i64 W, .int .i64 H, .slice a n cap], .agg #[.int .i64 W2, .int .i64 H2, .slice c m cap2]] w fun e w' => e = .returned (.tuple #[.float .f64 0, .int .i64 101]) ∧ Below w.heap.size w w' := by
  have hi := TInv.new (W := W) (H := H) (W2 := W2) (H2 := H2) hA hB
  have HI := Lib.hid hi
  have HA := Lib.hid ha
  clear hA hB hi ha
  go_enter Try.func26, Try.ntmps26
  go_upto_region 1 with fail
  obtain ⟨W0, hW0⟩ : ∃ W0, w.heap.size = W0 := ⟨_, rfl⟩
  have HI := Lib.hid (hW0 ▸ HI.out)
  rw [hW0]
  have HW0 := Lib.hid hW0
  clear hW0
  generalize (w.alloc (.cells #[.int .i64 W, .int .i64 H, .slice a n cap] 48)).alloc (.cells #[.int .i64 W2, .int .i64 H2, .slice c m cap2] 48) = w0 at *
  have c0 := HI.out.c0
  have c1 := HI.out.c1
  have c2 := HI.out.c2
  go_wp2_with (go_at_call 32; refine (check0 W H a n cap A false _ HI.out.ka (by simp [HA.out])).mono ?_; rintro e w1 ⟨rfl, hbel⟩; have HI1 := Lib.hid (HI.out.step hbel); clear hbel)
  go_ret2
  exact ⟨rfl, HI1.out.bel.mono (Nat.le_of_eq HW0.out)⟩
set_option maxRecDepth 100000 in
set_option maxHeartbeats 2000000 in
theorem unlike_no2 (W H : Int) (a : Option Addr) (n cap : Nat) (A : Nat → Nat) (W2 H2 : Int) (c : Option Addr) (m cap2 : Nat) (B : Nat → Nat) (w : World) (hA : IsWords w a n cap A) (hB : IsWords w c m cap2 B) (ha : okB W H n A) (hb : ¬ okB W2 H2 m B) :
    Calls Try.prog 26 #[.agg #[.int .i64 W, .int .i64 H, .slice a n cap], .agg #[.int .i64 W2, .int .i64 H2, .slice c m cap2]] w fun e w' => e = .returned (.tuple #[.float .f64 0, .int .i64 101]) ∧ Below w.heap.size w w' := by
  have hi := TInv.new (W := W) (H := H) (W2 := W2) (H2 := H2) hA hB
  have HI := Lib.hid hi
  have HA := Lib.hid ha
  have HB := Lib.hid hb
  clear hA hB hi ha hb
  go_enter Try.func26, Try.ntmps26
  go_upto_region 1 with fail
  obtain ⟨W0, hW0⟩ : ∃ W0, w.heap.size = W0 := ⟨_, rfl⟩
  have HI := Lib.hid (hW0 ▸ HI.out)
  rw [hW0]
  have HW0 := Lib.hid hW0
  clear hW0
  generalize (w.alloc (.cells #[.int .i64 W, .int .i64 H, .slice a n cap] 48)).alloc (.cells #[.int .i64 W2, .int .i64 H2, .slice c m cap2] 48) = w0 at *
  have c0 := HI.out.c0
  have c1 := HI.out.c1
  have c2 := HI.out.c2
  go_wp2_with fail
  refine (check0 W H a n cap A true _ HI.out.ka (by simp [HA.out])).mono ?_
  rintro e w1 ⟨rfl, hbel⟩
  have HI1 := Lib.hid (HI.out.step hbel)
  clear hbel c0 c1 c2 HI
  have d0 := HI1.out.d0
  have d1 := HI1.out.d1
  have d2 := HI1.out.d2
  go_wp2_with fail
  refine (check0 W2 H2 c m cap2 B false _ HI1.out.kb (by simp [HB.out])).mono ?_
  rintro e w2 ⟨rfl, hbel⟩
  have HI2 := Lib.hid (HI1.out.step hbel)
  clear hbel d0 d1 d2 HI1
  go_wp2_with fail
  go_ret2
  exact ⟨rfl, HI2.out.bel.mono (Nat.le_of_eq HW0.out)⟩
set_option maxRecDepth 100000 in
set_option maxHeartbeats 2000000 in
theorem unlike_far (W H : Int) (a : Option Addr) (n cap : Nat) (A : Nat → Nat) (W2 H2 : Int) (c : Option Addr) (m cap2 : Nat) (B : Nat → Nat) (w : World) (hA : IsWords w a n cap A) (hB : IsWords w c m cap2 B) (ha : okB W H n A) (hb : okB W2 H2 m B) (hne : ¬ (W = W2 ∧ H = H2)) :
    Calls Try.prog 26 #[.agg #[.int .i64 W, .int .i64 H, .slice a n cap], .agg #[.int .i64 W2, .int .i64 H2, .slice c m cap2]] w fun e w' => e = .returned (.tuple #[.float .f64 9218868437227405312, .int .i64 0]) ∧ Below w.heap.size w w' := by
  have hi := TInv.new (W := W) (H := H) (W2 := W2) (H2 := H2) hA hB
  have HI := Lib.hid hi
  have HA := Lib.hid ha
  have HB := Lib.hid hb
  clear hA hB hi ha hb
  have HNE := Lib.hid hne
  clear hne
  go_enter Try.func26, Try.ntmps26
  go_upto_region 1 with fail
  obtain ⟨W0, hW0⟩ : ∃ W0, w.heap.size = W0 := ⟨_, rfl⟩
  have HI := Lib.hid (hW0 ▸ HI.out)
  rw [hW0]
  have HW0 := Lib.hid hW0
  clear hW0
  generalize (w.alloc (.cells #[.int .i64 W, .int .i64 H, .slice a n cap] 48)).alloc (.cells #[.int .i64 W2, .int .i64 H2, .slice c m cap2] 48) = w0 at *
  have c0 := HI.out.c0
  have c1 := HI.out.c1
  have c2 := HI.out.c2
  go_wp2_with fail
  refine (check0 W H a n cap A true _ HI.out.ka (by simp [HA.out])).mono ?_
  rintro e w1 ⟨rfl, hbel⟩
  have HI1 := Lib.hid (HI.out.step hbel)
  clear hbel c0 c1 c2 HI
  have d0 := HI1.out.d0
  have d1 := HI1.out.d1
  have d2 := HI1.out.d2
  go_wp2_with fail
  refine (check0 W2 H2 c m cap2 B true _ HI1.out.kb (by simp [HB.out])).mono ?_
  rintro e w2 ⟨rfl, hbel⟩
  have HI2 := Lib.hid (HI1.out.step hbel)
  clear hbel d0 d1 d2 HI1
  have c0 := HI2.out.c0
  have c1 := HI2.out.c1
  have d0 := HI2.out.d0
  have d1 := HI2.out.d1
  by_cases h1 : W = W2
  · have h2 : ¬ H = H2 := fun g => HNE.out ⟨h1, g⟩
    subst h1
    go_wp2_with (go_at_call 40; refine (inf35 _).mono ?_; rintro e w3 ⟨rfl, rfl⟩)
    go_ret2
    exact ⟨rfl, HI2.out.bel.mono (Nat.le_of_eq HW0.out)⟩
  · go_wp2_with (go_at_call 40; refine (inf35 _).mono ?_; rintro e w3 ⟨rfl, rfl⟩)
    go_ret2
    exact ⟨rfl, HI2.out.bel.mono (Nat.le_of_eq HW0.out)⟩
theorem xor_lt {a b : Nat} (ha : a < 2 ^ 64) (hb : b < 2 ^ 64) : a ^^^ b < 2 ^ 64 := Nat.xor_lt_two_pow ha hb
set_option maxRecDepth 100000 in
set_option maxHeartbeats 4000000 in
theorem unlike15 (W H : Nat) (a : Option Addr) (n cap : Nat) (A : Nat → Nat) (c : Option Addr) (cap2 : Nat) (B : Nat → Nat) (w : World) (hA : IsWords w a n cap A) (hB : IsWords w c n cap2 B) (ha : okB W H n A) (hb : okB W H n B) (hn : n ≤ 10000) :
    Calls Try.prog 26 #[.agg #[.int .i64 (W : Int), .int .i64 (H : Int), .slice a n cap], .agg #[.int .i64 (W : Int), .int .i64 (H : Int), .slice c n cap2]] w fun e w' => ∃ r, e = .returned (.tuple #[.float .f64 r, .int .i64 0]) ∧ Hid (IsQ (diffN W H A B) (W * H) r) ∧ Below w.heap.size w w' := by
  obtain ⟨e0, hw0, _, hw1, hh1, hhw⟩ := okB_area ha hn
  have hwr : wrap64 ((W : Int) * (H : Int)) = ((W * H : Nat) : Int) := wrap_mul 640000 (by rw [Nat.mul_comm]; exact hhw) (by decide)
  have R2 : Hid (W * H ≤ 9007199254740992) := by show _ ≤ _; rw [Nat.mul_comm]; omega
  have hdf := diff_words ha hb
  rw [hdf]
  have hi := TInv.new (W := W) (H := H) (W2 := W) (H2 := H) hA hB
  have HI := Lib.hid hi
  have HA := Lib.hid ha
  have HB := Lib.hid hb
  have HN := Lib.hid hn
  have HWR := Lib.hid hwr
  clear hA hB hi ha hb hdf hhw hw0 hw1 hh1 e0 hwr
  generalize W * H = p at *
  go_enter Try.func26, Try.ntmps26
  go_upto_region 1 with fail
  obtain ⟨W0, hW0⟩ : ∃ W0, w.heap.size = W0 := ⟨_, rfl⟩
  have HI := Lib.hid (hW0 ▸ HI.out)
  rw [hW0]
  have HW0 := Lib.hid hW0
  clear hW0
  generalize (w.alloc (.cells #[.int .i64 (W : Int), .int .i64 (H : Int), .slice a n cap] 48)).alloc (.cells #[.int .i64 (W : Int), .int .i64 (H : Int), .slice c n cap2] 48) = w0 at *
  have c0 := HI.out.c0
  have c1 := HI.out.c1
  have c2 := HI.out.c2
  go_wp2_with fail
  refine (check0 W H a n cap A true _ HI.out.ka (by simp [HA.out])).mono ?_
  rintro e w1 ⟨rfl, hbel⟩
  have HI1 := Lib.hid (HI.out.step hbel)
  clear hbel c0 c1 c2 HI
  have d0 := HI1.out.d0
  have d1 := HI1.out.d1
  have d2 := HI1.out.d2
  go_wp2_with fail
  refine (check0 W H c n cap2 B true _ HI1.out.kb (by simp [HB.out])).mono ?_
  rintro e w2 ⟨rfl, hbel⟩
  have HI2 := Lib.hid (HI1.out.step hbel)
  clear hbel d0 d1 d2 HI1
  have c0 := HI2.out.c0
  have c1 := HI2.out.c1
  have c2 := HI2.out.c2
  have d0 := HI2.out.d0
  have d1 := HI2.out.d1
  have d2 := HI2.out.d2
  go_wp2_with fail
  go_loopw [6, 7, 32] (fun s _ i wr => (∃ j, wr = w2.drewN j) ∧ ∃ k : Nat, k ≤ n ∧ i = .int .i64 k ∧ s = .int .i64 (sumTo (fun i => pop (A i ^^^ B i)) k : Nat)) (fun _ _ i _ => n - (intOf i).toNat)
  case atStart => exact ⟨⟨0, rfl⟩, 0, Nat.zero_le _, rfl, rfl⟩
  case round =>
    obtain ⟨⟨j, rfl⟩, k, hk, rfl, rfl⟩ := hrel
    by_cases hlt : k < n
    · rcases HI2.out.ka with h | ⟨b, off, rfl, hnc, hcap, hbs, hcell⟩
      · omega
      · rcases HI2.out.kb with h | ⟨b2, off2, rfl, hnc2, hcap2, hbs2, hcell2⟩
        · omega
        · obtain ⟨x0, v0⟩ := hcell k hlt
          obtain ⟨y0, v1⟩ := hcell2 k hlt
          have hltI : (k : Int) < (n : Int) := by omega
          clear hcell hnc hcap hbs hcell2 hnc2 hcap2 hbs2
          have hs : sumTo (fun i => pop (A i ^^^ B i)) k ≤ 640000 := Nat.le_trans (sumTo_le k fun i _ => pop_le _) (by have := HN.out; omega)
          have hst : sumTo (fun i => pop (A i ^^^ B i)) (k + 1) = sumTo (fun i => pop (A i ^^^ B i)) k + pop (A k ^^^ B k) := rfl
          have hx := u64_xor_nat (A k) (B k) (by omega) (by omega)
          have hxl := xor_lt v0 v1
          have z1 := wrapi_add 640000 64 hs (pop_le (A k ^^^ B k)) (by decide)
          have HST := Lib.hid hst
          have HXL := Lib.hid hxl
          clear hst hxl hs v0 v1
          go_upto_region 9 with fail
          go_quiet ((go_at_call 41; first | exact quiet0 (ones27 _ HXL.out _) | exact quietL (ones27 _ HXL.out _) | exact quietM (ones27 _ HXL.out _)))
          go_wp2_with fail
          go_roundw
          case rel => exact ⟨⟨_, rfl⟩, k + 1, by omega, by go_num, by rw [HST.out]; simp⟩
          case measure => simp [intOf]; omega
    · obtain rfl : k = n := by omega
      have hs : sumTo (fun i => pop (A i ^^^ B i)) k ≤ 9007199254740992 := Nat.le_trans (sumTo_le k fun i _ => pop_le _) (by have := HN.out; omega)
      obtain ⟨q, hq⟩ : ∃ q, sumTo (fun i => pop (A i ^^^ B i)) k = q := ⟨_, rfl⟩
      rw [hq] at hs ⊢
      have HQ := Lib.hid hq
      have HS := Lib.hid hs
      clear hq hs
      have hwr := HWR.out
      go_wp2_with (go_at_call 42; refine (sh21 q p HS.out R2.out _).mono ?_; rintro e w3 ⟨r, rfl, HR, k1, rfl⟩)
      go_ret2
      exact ⟨r, rfl, by rw [HQ.out]; exact HR, below_drewN (HI2.out.bel.mono (Nat.le_of_eq HW0.out)) _⟩
theorem divinf (w : World) : Calls Try.prog 45 #[.int .i64 1, .int .i64 0] w fun e w' => e = .returned (.float .f64 9218868437227405312) ∧ ∃ k, w.drewN k = w' := by
  have h10 : D.div (fi 1) (fi 0) = some 9218868437227405312 := by decide
  refine (divide30 1 0 w (by unfold InR; omega) (by unfold InR; omega)).mono ?_
  rintro e w' ⟨r, rfl, hr, h⟩
  rw [h10] at hr
  obtain rfl : r = 9218868437227405312 := hr
  exact ⟨rfl, h⟩
set_option maxRecDepth 100000 in
set_option maxHeartbeats 2000000 in
theorem unlike16_far (W H : Int) (a : Option Addr) (n cap : Nat) (A : Nat → Nat) (W2 H2 : Int) (c : Option Addr) (m cap2 : Nat) (B : Nat → Nat) (w : World) (hA : IsWords w a n cap A) (hB : IsWords w c m cap2 B) (hne : ¬ (W = W2 ∧ H = H2)) :
    Calls Try.prog 30 #[.agg #[.int .i64 W, .int .i64 H, .slice a n cap], .agg #[.int .i64 W2, .int .i64 H2, .slice c m cap2]] w fun e w' => e = .returned (.float .f64 9218868437227405312) ∧ Below w.heap.size w w' := by
  have hi := TInv.new (W := W) (H := H) (W2 := W2) (H2 := H2) hA hB
  have HI := Lib.hid hi
  clear hA hB hi
  have HNE := Lib.hid hne
  clear hne
  go_enter Try.func30, Try.ntmps30
  go_upto_region 1 with fail
  obtain ⟨W0, hW0⟩ : ∃ W0, w.heap.size = W0 := ⟨_, rfl⟩
  have HI := Lib.hid (hW0 ▸ HI.out)
  rw [hW0]
  have HW0 := Lib.hid hW0
  clear hW0
  generalize (w.alloc (.cells #[.int .i64 W, .int .i64 H, .slice a n cap] 48)).alloc (.cells #[.int .i64 W2, .int .i64 H2, .slice c m cap2] 48) = w0 at *
  have c0 := HI.out.c0
  have c1 := HI.out.c1
  have d0 := HI.out.d0
  have d1 := HI.out.d1
  by_cases h1 : W = W2
  · have h2 : ¬ H = H2 := fun g => HNE.out ⟨h1, g⟩
    subst h1
    go_wp2_with (go_at_call 45; refine (divinf _).mono ?_; rintro e w3 ⟨rfl, k, rfl⟩)
    go_ret
    exact ⟨rfl, below_drewN (HI.out.bel.mono (Nat.le_of_eq HW0.out)) _⟩
  · go_wp2_with (go_at_call 45; refine (divinf _).mono ?_; rintro e w3 ⟨rfl, k, rfl⟩)
    go_ret
    exact ⟨rfl, below_drewN (HI.out.bel.mono (Nat.le_of_eq HW0.out)) _⟩
set_option maxRecDepth 100000 in
set_option maxHeartbeats 4000000 in
theorem unlike16 (W H : Nat) (a : Option Addr) (n cap : Nat) (A : Nat → Nat) (c : Option Addr) (cap2 : Nat) (B : Nat → Nat) (w : World) (hA : IsWords w a n cap A) (hB : IsWords w c n cap2 B) (ho : okB W H n A) (hn : n ≤ 10000) :
    Calls Try.prog 30 #[.agg #[.int .i64 (W : Int), .int .i64 (H : Int), .slice a n cap], .agg #[.int .i64 (W : Int), .int .i64 (H : Int), .slice c n cap2]] w fun e w' => ∃ r, e = .returned (.float .f64 r) ∧ Hid (IsQ (diffN W H A B) (W * H) r) ∧ Below w.heap.size w w' := by
  obtain ⟨e0, _, _, hw1, hh1, hhw⟩ := okB_area ho hn
  have hle : ∀ i j : Nat, (if px W H A (i : Int) (j : Int) = px W H B (i : Int) (j : Int) then 0 else 1) ≤ 1 := fun i j => by split <;> omega
  have HL : Hid (∀ y x, y < H → x ≤ W → psum (fun x y => if px W H A (x : Int) (y : Int) = px W H B (x : Int) (y : Int) then 0 else 1) W y x ≤ 640000) := fun y x hy hx => by
    have := psum_le (f := fun x y => if px W H A (x : Int) (y : Int) = px W H B (x : Int) (y : Int) then 0 else 1) (c := 1) (fun i j _ _ => hle i j) hy hx
    omega
  have HLE : Hid (diffN W H A B ≤ 9007199254740992) := by
    have : diffN W H A B ≤ H * (W * 1) := sumTo_le H fun j _ => sumTo_le W fun i _ => hle i j
    rw [Nat.mul_one] at this
    show _ ≤ _
    omega
  have HE : Hid (psum (fun x y => if px W H A (x : Int) (y : Int) = px W H B (x : Int) (y : Int) then 0 else 1) W H 0 = diffN W H A B) := rfl
  obtain ⟨dn, hdn⟩ : ∃ dn, diffN W H A B = dn := ⟨_, rfl⟩
  rw [hdn] at HLE HE ⊢
  clear hdn hle
  have hwr : wrap64 ((W : Int) * (H : Int)) = ((W * H : Nat) : Int) := wrap_mul 640000 (by rw [Nat.mul_comm]; exact hhw) (by decide)
  have R2 : Hid (W * H ≤ 9007199254740992) := by show _ ≤ _; rw [Nat.mul_comm]; omega
  have HWR := Lib.hid hwr
  have HW := Lib.hid (show W ≤ 1048576 by omega)
  have HH := Lib.hid (show H ≤ 1048576 by omega)
  have E0 := Lib.hid e0
  have hi := TInv.new (W := W) (H := H) (W2 := W) (H2 := H) hA hB
  have HI := Lib.hid hi
  clear hA hB hi ho hhw hw1 hh1 e0 hwr
  generalize W * H = p at *
  go_enter Try.func30, Try.ntmps30
  go_upto_region 1 with fail
  obtain ⟨W0, hW0⟩ : ∃ W0, w.heap.size = W0 := ⟨_, rfl⟩
  have HI := Lib.hid (hW0 ▸ HI.out)
  rw [hW0]
  have HW0 := Lib.hid hW0
  clear hW0
  generalize (w.alloc (.cells #[.int .i64 (W : Int), .int .i64 (H : Int), .slice a n cap] 48)).alloc (.cells #[.int .i64 (W : Int), .int .i64 (H : Int), .slice c n cap2] 48) = w0 at *
  have c0 := HI.out.c0
  have c1 := HI.out.c1
  have d0 := HI.out.d0
  have d1 := HI.out.d1
  go_wp2_with fail
  clear c0 c1 d0 d1
  go_loopw [5, 6, 7] (fun s yy _ wr => ∃ y : Nat, y ≤ H ∧ yy = .int .i64 y ∧ s = .int .i64 (psum (fun x y => if px W H A (x : Int) (y : Int) = px W H B (x : Int) (y : Int) then 0 else 1) W y 0 : Nat) ∧ Hid (TInv w W0 W H a n cap A W H c n cap2 B wr)) (fun _ yy _ _ => H - (intOf yy).toNat)
  case atStart => exact ⟨0, Nat.zero_le _, rfl, rfl, HI⟩
  case round =>
    obtain ⟨y, hy, rfl, rfl, hi⟩ := hrel
    have hyb : y ≤ 1048576 := by have := HH.out; omega
    by_cases hyl : y < H
    · have d1 := hi.out.d1
      go_wp2_with fail
      clear d1
      go_loopw [5, 7] (fun s xx wr => ∃ x : Nat, x ≤ W ∧ xx = .int .i64 x ∧ s = .int .i64 (psum (fun x y => if px W H A (x : Int) (y : Int) = px W H B (x : Int) (y : Int) then 0 else 1) W y x : Nat) ∧ Hid (TInv w W0 W H a n cap A W H c n cap2 B wr)) (fun _ xx _ => W - (intOf xx).toNat)
      case atStart => exact ⟨0, Nat.zero_le _, rfl, rfl, hi⟩
      case round =>
        obtain ⟨x, hx, rfl, rfl, hi⟩ := hrel
        have hxb : x ≤ 1048576 := by have := HW.out; omega
        by_cases hxl : x < W
        · have hl := HL.out y x hyl hx
          have hst := psum_step (fun x y => if px W H A (x : Int) (y : Int) = px W H B (x : Int) (y : Int) then 0 else 1) W y x
          generalize psum (fun x y => if px W H A (x : Int) (y : Int) = px W H B (x : Int) (y : Int) then 0 else 1) W y x = s at *
          have d0 := hi.out.d0
          go_upto_region 10 with fail
          clear d0
          have c0 := hi.out.c0
          have c1 := hi.out.c1
          have c2 := hi.out.c2
          have d0 := hi.out.d0
          have d1 := hi.out.d1
          have d2 := hi.out.d2
          have HST := Lib.hid hst
          have HL2 := Lib.hid hl
          clear hst hl
          go_region_held3 (fun w' => w'.cell? ⟨W0, 0, none⟩ = some (.int .i64 (W : Int)) ∧ w'.cell? ⟨W0, 1, none⟩ = some (.int .i64 (H : Int)) ∧ w'.cell? ⟨W0, 2, none⟩ = some (.slice a n cap) ∧ w'.cell? ⟨W0 + 1, 0, none⟩ = some (.int .i64 (W : Int)) ∧ w'.cell? ⟨W0 + 1, 1, none⟩ = some (.int .i64 (H : Int)) ∧ w'.cell? ⟨W0 + 1, 2, none⟩ = some (.slice c n cap2)) (go_keep)
            ((first
              | (go_at_call_of 46 a; refine (get_any W H a n cap A x y _ HW.out HH.out E0.out ?_).mono ?_; exact hi.out.ka; rintro e w1 ⟨rfl, hbel⟩; have hi := Lib.hid (TInv.stepd hi.out hbel); have c0 := hi.out.c0; have c1 := hi.out.c1; have c2 := hi.out.c2; have d0 := hi.out.d0; have d1 := hi.out.d1; have d2 := hi.out.d2; clear hbel)
              | (go_at_call_of 46 c; refine (get_any W H c n cap2 B x y _ HW.out HH.out E0.out ?_).mono ?_; exact hi.out.kb; rintro e w1 ⟨rfl, hbel⟩; have hi := Lib.hid (TInv.step hi.out hbel); have c0 := hi.out.c0; have c1 := hi.out.c1; have c2 := hi.out.c2; have d0 := hi.out.d0; have d1 := hi.out.d1; have d2 := hi.out.d2; clear hbel)))
          generalize px W H A (x : Int) (y : Int) = pa at *
          generalize px W H B (x : Int) (y : Int) = pb at *
          have hl := HL2.out
          by_cases he : pa = pb
          · subst he
            have hst := HST.out
            rw [if_pos rfl] at hst
            have HST2 := Lib.hid hst
            clear hst HST
            go_wp2_with fail
            go_roundw
            case rel => exact ⟨x + 1, by omega, by go_num, by rw [HST2.out]; rfl, hi⟩
            case measure => simp [intOf]; omega
          · have hst := HST.out
            rw [if_neg he] at hst
            have HST2 := Lib.hid hst
            clear hst HST
            have hne : ((pa : Int) != (pb : Int)) = true := by simp; omega
            have hne2 : ¬ (pa : Int) = (pb : Int) := by omega
            go_wp2_with fail
            go_roundw
            case rel => exact ⟨x + 1, by omega, by go_num, by rw [HST2.out]; simp, hi⟩
            case measure => simp [intOf]; omega
        · obtain rfl : x = W := by omega
          have d0 := hi.out.d0
          have HR := Lib.hid (psum_row (fun i j => if px x H A (i : Int) (j : Int) = px x H B (i : Int) (j : Int) then 0 else 1) x y)
          go_wp2_with fail
          go_roundw
          case rel => exact ⟨y + 1, by omega, by go_num, by rw [HR.out], hi⟩
          case measure => simp [intOf]; omega
    · obtain rfl : y = H := by omega
      have d0 := hi.out.d0
      have d1 := hi.out.d1
      rw [HE.out]
      have hwr := HWR.out
      clear HL HE
      go_wp2_with (go_at_call 45; refine (div31 dn p HLE.out R2.out _).mono ?_; rintro e w2 ⟨r, rfl, HR, k, rfl⟩)
      go_ret
      exact ⟨r, rfl, HR, below_drewN (hi.out.bel.mono (Nat.le_of_eq HW0.out)) _⟩
end Go.Proofs.Ytfniekdohidbiaa
