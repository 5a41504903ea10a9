/- Unlike of package measure, at bitmaps of one size; Unlike of the reference. Conditions: the bounds that each theorem names. -/
import Derived.Test.YtokdgppaedklhaaDoorWg
namespace Go.Proofs.YtokdgppaedklhaaDoor
open Go.RowKit Go.Bm Fl Go.FlW

theorem xor_lt {a b : Nat} (ha : a < 2 ^ 64) (hb : b < 2 ^ 64) : a ^^^ b < 2 ^ 64 := Nat.xor_lt_two_pow ha hb

set_option maxRecDepth 100000 in
set_option maxHeartbeats 4000000 in
theorem unlike15 (W H : Nat) (a : Option Addr) (n cap : Nat) (A : Nat → Nat) (c : Option Addr) (cap2 : Nat) (B : Nat → Nat) (w : World) (hA : IsWords w a n cap A) (hB : IsWords w c n cap2 B) (ha : okB W H n A) (hb : okB W H n B) (hn : n ≤ 10000) :
    Calls Tryd.prog 15 #[.agg #[.int .i64 (W : Int), .int .i64 (H : Int), .slice a n cap], .agg #[.int .i64 (W : Int), .int .i64 (H : Int), .slice c n cap2]] w fun e w' => ∃ r, e = .returned (.tuple #[.float .f64 r, .int .i64 0]) ∧ Hid (IsQ (diffN W H A B) (W * H) r) ∧ Below w.heap.size w w' := by
  obtain ⟨e0, hw0, _, hw1, hh1, hhw⟩ := okB_area ha hn
  have hwr : wrap64 ((W : Int) * (H : Int)) = ((W * H : Nat) : Int) := wrap_mul 640000 (by rw [Nat.mul_comm]; exact hhw) (by decide)
  have R2 : Hid (W * H ≤ 9007199254740992) := by show _ ≤ _; rw [Nat.mul_comm]; omega
  have hdf := diff_words ha hb
  rw [hdf]
  have hi := TInv.new (W := W) (H := H) (W2 := W) (H2 := H) hA hB
  have HI := Lib.hid hi
  have HA := Lib.hid ha
  have HB := Lib.hid hb
  have HN := Lib.hid hn
  have HWR := Lib.hid hwr
  clear hA hB hi ha hb hdf hhw hw0 hw1 hh1 e0 hwr
  generalize W * H = p at *
  go_enter Tryd.func15, Tryd.ntmps15
  go_upto_region 1 with fail
  obtain ⟨W0, hW0⟩ : ∃ W0, w.heap.size = W0 := ⟨_, rfl⟩
  have HI := Lib.hid (hW0 ▸ HI.out)
  rw [hW0]
  have HW0 := Lib.hid hW0
  clear hW0
  generalize (w.alloc (.cells #[.int .i64 (W : Int), .int .i64 (H : Int), .slice a n cap] 25)).alloc (.cells #[.int .i64 (W : Int), .int .i64 (H : Int), .slice c n cap2] 25) = w0 at *
  have c0 := HI.out.c0
  have c1 := HI.out.c1
  have c2 := HI.out.c2
  go_wp2_with fail
  refine (check0 W H a n cap A true _ HI.out.ka (by simp [HA.out])).mono ?_
  rintro e w1 ⟨rfl, hbel⟩
  have HI1 := Lib.hid (HI.out.step hbel)
  clear hbel c0 c1 c2 HI
  have d0 := HI1.out.d0
  have d1 := HI1.out.d1
  have d2 := HI1.out.d2
  go_wp2_with fail
  refine (check0 W H c n cap2 B true _ HI1.out.kb (by simp [HB.out])).mono ?_
  rintro e w2 ⟨rfl, hbel⟩
  have HI2 := Lib.hid (HI1.out.step hbel)
  clear hbel d0 d1 d2 HI1
  have c0 := HI2.out.c0
  have c1 := HI2.out.c1
  have c2 := HI2.out.c2
  have d0 := HI2.out.d0
  have d1 := HI2.out.d1
  have d2 := HI2.out.d2
  go_wp2_with fail
  go_loopw [6, 7, 32] (fun s _ i wr => (∃ j, wr = w2.drewN j) ∧ ∃ k : Nat, k ≤ n ∧ i = .int .i64 k ∧ s = .int .i64 (sumTo (fun i => pop (A i ^^^ B i)) k : Nat)) (fun _ _ i _ => n - (intOf i).toNat)
  case atStart => exact ⟨⟨0, rfl⟩, 0, Nat.zero_le _, rfl, rfl⟩
  case round =>
    obtain ⟨⟨j, rfl⟩, k, hk, rfl, rfl⟩ := hrel
    by_cases hlt : k < n
    · rcases HI2.out.ka with h | ⟨b, off, rfl, hnc, hcap, hbs, hcell⟩
      · omega
      · rcases HI2.out.kb with h | ⟨b2, off2, rfl, hnc2, hcap2, hbs2, hcell2⟩
        · omega
        · obtain ⟨x0, v0⟩ := hcell k hlt
          obtain ⟨y0, v1⟩ := hcell2 k hlt
          have hltI : (k : Int) < (n : Int) := by omega
          clear hcell hnc hcap hbs hcell2 hnc2 hcap2 hbs2
          have hs : sumTo (fun i => pop (A i ^^^ B i)) k ≤ 640000 := Nat.le_trans (sumTo_le k fun i _ => pop_le _) (by have := HN.out; omega)
          have hst : sumTo (fun i => pop (A i ^^^ B i)) (k + 1) = sumTo (fun i => pop (A i ^^^ B i)) k + pop (A k ^^^ B k) := rfl
          have hx := u64_xor_nat (A k) (B k) (by omega) (by omega)
          have hxl := xor_lt v0 v1
          have z1 := wrapi_add 640000 64 hs (pop_le (A k ^^^ B k)) (by decide)
          have HST := Lib.hid hst
          have HXL := Lib.hid hxl
          clear hst hxl hs v0 v1
          go_upto_region 9 with fail
          go_quiet ((go_at_call 27; first | exact quiet0 (ones27 _ HXL.out _) | exact quietL (ones27 _ HXL.out _) | exact quietM (ones27 _ HXL.out _)))
          go_wp2_with fail
          go_roundw
          case rel => exact ⟨⟨_, rfl⟩, k + 1, by omega, by go_num, by rw [HST.out]; simp⟩
          case measure => simp [intOf]; omega
    · obtain rfl : k = n := by omega
      have hs : sumTo (fun i => pop (A i ^^^ B i)) k ≤ 9007199254740992 := Nat.le_trans (sumTo_le k fun i _ => pop_le _) (by have := HN.out; omega)
      obtain ⟨q, hq⟩ : ∃ q, sumTo (fun i => pop (A i ^^^ B i)) k = q := ⟨_, rfl⟩
      rw [hq] at hs ⊢
      have HQ := Lib.hid hq
      have HS := Lib.hid hs
      clear hq hs
      have hwr := HWR.out
      go_wp2_with (go_at_call 21; refine (sh21 q p HS.out R2.out _).mono ?_; rintro e w3 ⟨r, rfl, HR, k1, rfl⟩)
      go_ret2
      exact ⟨r, rfl, by rw [HQ.out]; exact HR, below_drewN (HI2.out.bel.mono (Nat.le_of_eq HW0.out)) _⟩
end Go.Proofs.YtokdgppaedklhaaDoor
