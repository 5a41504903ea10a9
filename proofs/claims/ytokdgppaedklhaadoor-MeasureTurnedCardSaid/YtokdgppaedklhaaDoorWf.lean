/- Center of package measure. Conditions: the bounds that each theorem names. -/
import Derived.Test.YtokdgppaedklhaaDoorWe
namespace Go.Proofs.YtokdgppaedklhaaDoor
open Go.RowKit Go.Bm Fl Go.FlW

/-- the words' sums so far -/
def wsx (m : Nat) (B : Nat → Nat) (k : Nat) : Nat := sumTo (fun i => i % m * 64 * pop (B i) + wsum (B i)) k
def wsy (m : Nat) (B : Nat → Nat) (k : Nat) : Nat := sumTo (fun i => i / m * pop (B i)) k

theorem wsx_step (m : Nat) (B : Nat → Nat) (k : Nat) : wsx m B (k + 1) = wsx m B k + (k % m * 64 * pop (B k) + wsum (B k)) := rfl
theorem wsy_step (m : Nat) (B : Nat → Nat) (k : Nat) : wsy m B (k + 1) = wsy m B k + k / m * pop (B k) := rfl
theorem wsx_le {m : Nat} (B : Nat → Nat) {k : Nat} (hm : m ≤ 16384) (h0 : 1 ≤ m) (hk : k ≤ 10000) : wsx m B k ≤ 1000000000000 := by
  have h := sumTo_le (f := fun i => i % m * 64 * pop (B i) + wsum (B i)) (c := 16384 * 64 * 64 + 4032) k fun i _ => by
    have h1 : i % m ≤ 16384 := by have := Nat.mod_lt i h0; omega
    have h2 := Nat.mul_le_mul (Nat.mul_le_mul_right 64 h1) (pop_le (B i))
    have h3 := wsum_le (B i)
    omega
  have h4 : k * (16384 * 64 * 64 + 4032) ≤ 10000 * (16384 * 64 * 64 + 4032) := Nat.mul_le_mul_right _ hk
  exact Nat.le_trans h (Nat.le_trans h4 (by decide))
theorem wsy_le {m : Nat} (B : Nat → Nat) {k : Nat} (hk : k ≤ 10000) : wsy m B k ≤ 10000000000 := by
  have h := sumTo_le (f := fun i => i / m * pop (B i)) (c := 10000 * 64) k fun i hi => by
    have h1 : i / m ≤ 10000 := Nat.le_trans (Nat.div_le_self _ _) (by omega)
    exact Nat.mul_le_mul h1 (pop_le (B i))
  have h4 : k * (10000 * 64) ≤ 10000 * (10000 * 64) := Nat.mul_le_mul_right _ hk
  exact Nat.le_trans h (Nat.le_trans h4 (by decide))

theorem wrapi_add {s m : Nat} (a b : Nat) (h1 : s ≤ a) (h2 : m ≤ b) (h : a + b ≤ 9007199254740992) : IntKind.i64.wrap ((s : Int) + (m : Int)) = ((s + m : Nat) : Int) := by
  rw [← Int.natCast_add]; exact IntWalk.i64_in _ (by omega)
theorem wrapi_mul {s m : Nat} (a : Nat) (h1 : s * m ≤ a) (h : a ≤ 9007199254740992) : IntKind.i64.wrap ((s : Int) * (m : Int)) = ((s * m : Nat) : Int) := by
  rw [← Int.natCast_mul]; exact IntWalk.i64_in _ (by omega)
theorem wrapi_nat {x : Nat} (h : x ≤ 9007199254740992) : IntKind.i64.wrap (x : Int) = (x : Int) := IntWalk.i64_in _ (by omega)
theorem place_vals {c z x : Nat} (hc : c ≤ 16384) (hz : z < 64) (hx : x ≤ 1000000000000) :
    IntKind.i64.wrap ((c : Int) * 64) = (c : Int) * 64 ∧ IntKind.i64.wrap ((c : Int) * 64 + 63) = (c : Int) * 64 + 63 ∧ IntKind.i64.wrap ((c : Int) * 64 + 63 - (z : Int)) = ((c * 64 + (63 - z) : Nat) : Int) ∧
      IntKind.i64.wrap ((x : Int) + ((c * 64 + (63 - z) : Nat) : Int)) = ((x + (c * 64 + (63 - z)) : Nat) : Int) :=
  ⟨IntWalk.i64_in _ (by omega), IntWalk.i64_in _ (by omega), by rw [IntWalk.i64_in _ (by omega)]; omega, by rw [IntWalk.i64_in _ (by omega)]; omega⟩
theorem strike_vals {u : Nat} (h0 : u ≠ 0) (h : u < 2 ^ 64) : IntKind.u64.wrap ((u : Int) - 1) = ((u - 1 : Nat) : Int) ∧ bits .and .u64 (u : Int) ((u - 1 : Nat) : Int) = ((u &&& (u - 1) : Nat) : Int) :=
  ⟨by rw [IntKind.wrap_u64]; omega, u64_and_nat u (u - 1) (by omega) (by omega)⟩
/-- a bit is taken out of the word's sums -/
theorem take_bit {c x p q r t z : Nat} (h : x + (c * 64 * (p + 1) + (q + r)) = t) (hr : r = z) : x + (c * 64 + z) + (c * 64 * p + q) = t := by
  rw [Nat.mul_add, Nat.mul_one] at h
  omega

set_option maxRecDepth 100000 in
set_option maxHeartbeats 4000000 in
theorem center8 (W H : Nat) (a : Option Addr) (n cap : Nat) (B : Nat → Nat) (w : World) (hB : IsWords w a n cap B) (ho : okB W H n B) (hn : n ≤ 10000) (hT : TabW w) :
    Calls Tryd.prog 8 #[.agg #[.int .i64 (W : Int), .int .i64 (H : Int), .slice a n cap]] w fun e w' => ∃ r s, e = .returned (.tuple #[.float .f64 r, .float .f64 s, .int .i64 0]) ∧ Hid (IsQ (sumX W H B) (blackN W H B) r) ∧ Hid (IsQ (sumY W H B) (blackN W H B) s) ∧ Below w.heap.size w w' := by
  obtain ⟨e0, hw0, _, hw1, hh1, hhw⟩ := okB_area ho hn
  have hbl := black_le W H B
  have hwp := wd_pos hw0
  have hwl := wd_le (W := W) (by omega)
  have R1 : Hid (blackN W H B ≤ 9007199254740992) := by show _ ≤ _; omega
  have HX := Lib.hid (sumX_words ho)
  have HY := Lib.hid (sumY_words ho)
  have HO := Lib.hid ho
  have HT := Lib.hid hT
  have hi := BInv.new (W := W) (H := H) hB
  have HI := Lib.hid hi
  have HN := Lib.hid hn
  have HWL := Lib.hid (show W ≤ 640000 by omega)
  have E0 := Lib.hid e0
  clear hB ho hi hhw hw1 hh1 e0 hbl hT
  obtain ⟨bn, hbn⟩ : ∃ bn, blackN W H B = bn := ⟨_, rfl⟩
  rw [hbn] at R1 ⊢
  have HBN := Lib.hid hbn
  clear hbn
  have hww : (W : Int) + 63 ≤ 700000 := by have := HWL.out; omega
  go_enter Tryd.func8, Tryd.ntmps8
  go_upto_region 1 with fail
  obtain ⟨W0, hW0⟩ : ∃ W0, w.heap.size = W0 := ⟨_, rfl⟩
  have HI := Lib.hid (hW0 ▸ HI.out)
  rw [hW0]
  have HW0 := Lib.hid hW0
  clear hW0
  generalize w.alloc (.cells #[.int .i64 (W : Int), .int .i64 (H : Int), .slice a n cap] 25) = w0 at *
  have c0 := HI.out.c0
  have c1 := HI.out.c1
  have c2 := HI.out.c2
  go_upto_region 3 with (go_at_call 25; refine (check0 W H a n cap B true _ HI.out.k (by simp [HO.out])).mono ?_; rintro e w1 ⟨rfl, hbel⟩; have HI := Lib.hid (HI.out.step hbel); clear hbel c0 c1 c2)
  have c0 := HI.out.c0
  have c1 := HI.out.c1
  have c2 := HI.out.c2
  go_wp2_with fail
  have hwd : ((W : Int) + 63) / 64 = ((wd W : Nat) : Int) := by unfold wd; omega
  rw [hwd]
  generalize wd W = m at *
  clear hwd hww
  go_loopw [6, 7, 8, 9, 21] (fun s t _ _ i wr => (∃ j, wr = w1.drewN j) ∧ ∃ k : Nat, k ≤ n ∧ i = .int .i64 k ∧ s = .int .i64 (wsx m B k : Nat) ∧ t = .int .i64 (wsy m B k : Nat)) (fun _ _ _ _ i _ => n - (intOf i).toNat)
  case atStart => exact ⟨⟨0, rfl⟩, 0, Nat.zero_le _, rfl, rfl, rfl⟩
  case round =>
    obtain ⟨⟨j, rfl⟩, k, hk, rfl, rfl, rfl⟩ := hrel
    by_cases hlt : k < n
    · rcases HI.out.k with h | ⟨b, off, rfl, hnc, hcap, hbs, hcell⟩
      · omega
      · obtain ⟨d0, v0⟩ := hcell k hlt
        have hltI : (k : Int) < (n : Int) := by omega
        clear hcell hnc hcap hbs
        have hm1 : ¬ (m : Int) = 0 := by omega
        have hm2 : ¬ m = 0 := by omega
        have hx1 := wsx_le B hwl hwp (k := k + 1) (by have := HN.out; omega)
        have hy0 := wsy_le (m := m) B (k := k) (by have := HN.out; omega)
        have hsx := wsx_step m B k
        have hsy := wsy_step m B k
        have hc : k % m ≤ 16384 := by have := Nat.mod_lt k hwp; omega
        have hd : k / m ≤ 10000 := Nat.le_trans (Nat.div_le_self _ _) (by have := HN.out; omega)
        have hkm : k / m * pop (B k) ≤ 640000 := Nat.mul_le_mul hd (pop_le (B k))
        have q1 : (k : Int).tdiv (m : Int) = ((k / m : Nat) : Int) := (Int.ofNat_tdiv k m).symm
        have q2 : (k : Int) / (m : Int) = ((k / m : Nat) : Int) := rfl
        have q3 : (k : Int).tmod (m : Int) = ((k % m : Nat) : Int) := (Int.ofNat_tmod k m).symm
        have q4 : (k : Int) % (m : Int) = ((k % m : Nat) : Int) := rfl
        have z1 := wrapi_mul 640000 hkm (by decide)
        have z2 := wrapi_add 10000000000 640000 hy0 hkm (by decide)
        rw [← hsy] at z2
        have z3 := wrapi_nat (x := k / m) (by omega)
        have w4 := wrap_add 10000000000 640000 hy0 hkm (by decide)
        rw [← hsy, Int.natCast_mul] at w4
        generalize k / m = d at *
        generalize k % m = c at *
        have HSX := Lib.hid hsx
        have HSY := Lib.hid hsy
        have HX1 := Lib.hid hx1
        have HC := Lib.hid hc
        have W4 := Lib.hid w4
        clear hkm hy0 hsx hsy hd hc hx1 w4
        obtain ⟨v, hv⟩ : ∃ v, B k = v := ⟨_, rfl⟩
        rw [hv] at d0 v0 z1 z2 HSX HSY W4
        have HV := Lib.hid hv
        clear hv
        have V0 := Lib.hid v0
        clear v0
        have hT1 : Hid (∀ j, TabW (w1.drewN j)) := fun j => TabW.drewN (HT.out.below (HW0.out ▸ HI.out.bel)) j
        go_upto_region 8 with (rw [HV.out])
        go_quiet ((go_at_call 27; first | exact quiet0 (ones27 _ V0.out _) | exact quietL (ones27 _ V0.out _) | exact quietM (ones27 _ V0.out _)))
        clear z1 z2 z3
        rw [W4.out]
        go_wp2_with fail
        clear q1 q2
        obtain ⟨J, hJ⟩ : ∃ J, (w1.drewN j).drewN nq = w1.drewN J := ⟨j + nq, World.drewN_drewN _ _ _⟩
        rw [hJ]
        clear hJ
        go_loopw [6, 9] (fun s x wr => (∃ j, wr = w1.drewN j) ∧ ∃ t u : Nat, x = .int .u64 u ∧ s = .int .i64 t ∧ Hid (u < 2 ^ 64) ∧ Hid (t + (c * 64 * pop u + wsum u) = wsx m B (k + 1))) (fun _ x _ => (intOf x).toNat)
        case atStart => exact ⟨⟨J, rfl⟩, _, v, rfl, rfl, V0, HSX.out.symm⟩
        case round =>
          obtain ⟨⟨J, rfl⟩, t, u, rfl, rfl, HU, HT2⟩ := hrel
          by_cases hu : u = 0
          · subst hu
            have ht : t = wsx m B (k + 1) := by
              have := HT2.out
              rw [pop_zero.1, pop_zero.2] at this
              omega
            subst ht
            go_wp2_with fail
            go_roundw
            case rel => exact ⟨⟨J, rfl⟩, k + 1, by omega, by go_num, rfl, rfl⟩
            case measure => simp [intOf]; omega
          · obtain ⟨hz, hp, hs, hlt2⟩ := strike u hu HU.out
            obtain ⟨s1, s2⟩ := strike_vals hu HU.out
            have htx : t ≤ 1000000000000 := by have := HT2.out; have := HX1.out; omega
            have hz1 := tz28 u hu HU.out
            have ht2 := take_bit (c := c) (x := t) (p := pop (u &&& (u - 1))) (q := wsum (u &&& (u - 1))) (r := 63 - Lib.ctz 64 u) (t := wsx m B (k + 1)) (z := 63 - Lib.ctz 64 u) (by rw [← hp, ← hs]; exact HT2.out) rfl
            obtain ⟨e1, e2, e3, e4⟩ := place_vals (c := c) (z := Lib.ctz 64 u) (x := t) HC.out hz htx
            generalize Lib.ctz 64 u = z at *
            have HT3 := Lib.hid ht2
            have HZ1 := Lib.hid hz1
            have HL2 := Lib.hid hlt2
            have HU2 : Hid (u &&& (u - 1) < 2 ^ 64) := Nat.lt_trans hlt2 HU.out
            obtain ⟨z', hz'⟩ : ∃ z', c * 64 + (63 - z) = z' := ⟨_, rfl⟩
            rw [hz'] at e3 e4 
            have HT4 : Hid (t + z' + (c * 64 * pop (u &&& (u - 1)) + wsum (u &&& (u - 1))) = wsx m B (k + 1)) := by rw [← hz']; exact HT3.out
            clear ht2 hz1 hlt2 hz' HT3 hp hs htx
            have hu2 : ¬ (u : Int) = 0 := by omega
            go_upto_region 11 with fail
            go_quiet ((go_at_call 28; first | exact quiet0 (HZ1.out _ (hT1.out 0)) | exact quietL (HZ1.out _ (hT1.out 0)) | exact quietM (HZ1.out _ (hT1.out 0))))
            clear e1 e2 e3 e4
            go_wp2_with fail
            go_roundw
            case rel => exact ⟨⟨_, rfl⟩, t + z', u &&& (u - 1), rfl, rfl, HU2, HT4⟩
            case measure => simp [intOf]; have := HL2.out; omega
    · obtain rfl : k = n := by omega
      have hbx := wsx_le B hwl hwp (k := k) HN.out
      have hby := wsy_le (m := m) B (k := k) HN.out
      have HBX := Lib.hid (Nat.le_trans hbx (show 1000000000000 ≤ 9007199254740992 by decide))
      have HBY := Lib.hid (Nat.le_trans hby (show 10000000000 ≤ 9007199254740992 by decide))
      have hx : wsx m B k = sumX W H B := HX.out.symm
      have hy : wsy m B k = sumY W H B := HY.out.symm
      rw [hx] at HBX
      rw [hy] at HBY
      rw [hx, hy]
      clear hx hy HX HY hbx hby
      obtain ⟨sx, hsx⟩ : ∃ sx, sumX W H B = sx := ⟨_, rfl⟩
      obtain ⟨sy, hsy⟩ : ∃ sy, sumY W H B = sy := ⟨_, rfl⟩
      rw [hsx] at HBX ⊢
      rw [hsy] at HBY ⊢
      have HEX := Lib.hid hsx
      have HEY := Lib.hid hsy
      clear hsx hsy
      go_wp2_with (go_at_call 26; refine (black26' W H a k cap B _ bn HBN.out (HI.out.k.below (below_drewN (Below.refl _ _) _)) HO.out HN.out).mono ?_; rintro e w2 ⟨rfl, hbel⟩; have HI2 := Lib.hid (HI.out.step (Below.trans (below_drewN (Below.refl _ _) _) hbel)); clear hbel)
      refine (sh21 sx bn HBX.out R1.out _).mono ?_
      rintro e w3 ⟨r, rfl, HR, k1, rfl⟩
      go_wp2_with fail
      refine (sh21 sy bn HBY.out R1.out _).mono ?_
      rintro e w3 ⟨s, rfl, HS, k2, rfl⟩
      go_wp2_with fail
      refine bodyPost_ret (v := .tuple #[.float .f64 r, .float .f64 s, .int .i64 0]) (by simp [results, Tryd.results8, go_sem]) rfl ?_
      exact ⟨r, s, rfl, by rw [HEX.out]; exact HR, by rw [HEY.out]; exact HS, below_drewN (HI2.out.bel.mono (Nat.le_of_eq HW0.out)) _⟩
end Go.Proofs.YtokdgppaedklhaaDoor
