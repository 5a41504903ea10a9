/- Rows of pixels, written as bytes, by package pbm. Conditions: the bounds that each theorem names. -/
import Derived.Test.YtgpjpmadbepblaaDoorMc
import Derived.Test.YtgpjpmadbepblaaDoorPd
import Derived.Deep.RegionLaw
namespace Go.Pbm
open Go.Bm
/-- the byte of 8 pixels -/
def fullB (p : Nat → Nat) (k : Nat) : Nat := sumTo (fun i => p (8 * k + i) * 2 ^ (7 - i)) 8
/-- the byte of the first pixels of those that belong to pixel x's byte, x left out -/
def curB (p : Nat → Nat) (x : Nat) : Nat := sumTo (fun i => p (8 * (x / 8) + i) * 2 ^ (7 - i)) (x % 8)
def headL (p : Nat → Nat) (x : Nat) : List UInt8 := (List.range (x / 8)).map fun k => UInt8.ofNat (fullB p k)
/-- a row's first x pixels as bytes -/
def packRow (p : Nat → Nat) (x : Nat) : List UInt8 := headL p x ++ if x % 8 = 0 then [] else [UInt8.ofNat (curB p x)]
theorem curB_zero {p : Nat → Nat} {x : Nat} (h : x % 8 = 0) : curB p x = 0 := by unfold curB; rw [h]; rfl
theorem curB_bound {p : Nat → Nat} (hp : ∀ x, p x ≤ 1) (x : Nat) : curB p x % 2 ^ (8 - x % 8) = 0 ∧ curB p x + 2 ^ (8 - x % 8) ≤ 256 := by
  unfold curB
  have : ∀ r, r ≤ 7 → sumTo (fun i => p (8 * (x / 8) + i) * 2 ^ (7 - i)) r % 2 ^ (8 - r) = 0 ∧ sumTo (fun i => p (8 * (x / 8) + i) * 2 ^ (7 - i)) r + 2 ^ (8 - r) ≤ 256 := by
    intro r
    induction r with
    | zero => intro _; exact ⟨rfl, Nat.le_refl 256⟩
    | succ r ih =>
      intro hr
      obtain ⟨h1, h2⟩ := ih (by omega)
      rw [sumTo]
      have e1 : 2 ^ (8 - r) = 2 * 2 ^ (7 - r) := by rw [show 8 - r = (7 - r) + 1 by omega, Nat.pow_succ, Nat.mul_comm]
      have e2 : 8 - (r + 1) = 7 - r := by omega
      rw [e2]
      have hpx := hp (8 * (x / 8) + r)
      generalize p (8 * (x / 8) + r) = b at *
      generalize sumTo (fun i => p (8 * (x / 8) + i) * 2 ^ (7 - i)) r = s at *
      rw [e1] at h1 h2
      generalize 2 ^ (7 - r) = q at *
      have h3 : s % q = 0 := by
        have := Nat.mod_mul_left_mod s 2 q
        rw [h1] at this
        simpa using this.symm
      refine ⟨?_, ?_⟩
      · rw [Nat.add_mod, h3, Nat.mul_mod_left]; simp
      · have : b * q ≤ 1 * q := Nat.mul_le_mul_right _ hpx
        omega
  exact this (x % 8) (by omega)
theorem packRow_step (p : Nat → Nat) (x : Nat) : packRow p (x + 1) = headL p x ++ [UInt8.ofNat (curB p x + p x * 2 ^ (7 - x % 8))] := by
  unfold packRow headL
  have hs : curB p x + p x * 2 ^ (7 - x % 8) = sumTo (fun i => p (8 * (x / 8) + i) * 2 ^ (7 - i)) (x % 8 + 1) := by
    rw [sumTo]
    unfold curB
    rw [show 8 * (x / 8) + x % 8 = x by omega]
  by_cases h : x % 8 = 7
  · rw [show (x + 1) / 8 = x / 8 + 1 by omega, if_pos (by omega), List.append_nil, List.range_succ, List.map_append, hs, h]
    rfl
  · rw [show (x + 1) / 8 = x / 8 by omega, if_neg (by omega), hs]
    unfold curB
    rw [show (x + 1) / 8 = x / 8 by omega, show (x + 1) % 8 = x % 8 + 1 by omega]
theorem packRow_len (p : Nat → Nat) (x : Nat) : (packRow p x).length ≤ x + 1 := by
  unfold packRow headL
  rw [List.length_append, List.length_map, List.length_range]
  split <;> simp <;> omega
theorem or_low {v b q : Nat} (e : Nat) (hv : v % 2 ^ (e + 1) = 0) (hb : b ≤ 1) (hq : q = 2 ^ e) : v ||| b * q = v + b * q := by
  subst hq
  obtain ⟨t, rfl⟩ : ∃ t, v = 2 ^ (e + 1) * t := ⟨v / 2 ^ (e + 1), by have := Nat.div_add_mod v (2 ^ (e + 1)); omega⟩
  have hlt : b * 2 ^ e < 2 ^ (e + 1) := by
    have h1 : b * 2 ^ e ≤ 1 * 2 ^ e := Nat.mul_le_mul_right _ hb
    have h2 : 0 < 2 ^ e := Nat.two_pow_pos e
    rw [Nat.pow_succ]
    omega
  rw [Nat.two_pow_add_eq_or_of_lt hlt]
end Go.Pbm
namespace Go.Proofs.YtgpjpmadbepblaaDoor
open Go.RowKit Go.Bm Go.Pbm Go.Sort

theorem lay_bit {c b e r : Nat} (hc : c % 2 ^ (8 - r) = 0) (hc2 : c + 2 ^ (8 - r) ≤ 256) (hb : b ≤ 1) (hr : r + e = 7) :
    bits BinOp.or IntKind.u8 (c : Int) (IntKind.u8.wrap (IntKind.u8.wrap (b : Int) * 2 ^ min e 8)) = ((c + b * 2 ^ e : Nat) : Int) ∧ c + b * 2 ^ e < 256 := by
  have e1 : 8 - r = e + 1 := by omega
  rw [e1] at hc hc2
  have e2 : min e 8 = e := by omega
  have hw : IntKind.u8.wrap (b : Int) = (b : Int) := by rw [IntKind.wrap_u8]; omega
  have hq : 2 ^ e ≤ 128 := by
    have : 2 ^ e ≤ 2 ^ 7 := Nat.pow_le_pow_right (by decide) (by omega)
    exact this
  have hbq : b * 2 ^ e ≤ 1 * 2 ^ e := Nat.mul_le_mul_right _ hb
  have hpw : 2 ^ (e + 1) = 2 * 2 ^ e := by rw [Nat.pow_succ, Nat.mul_comm]
  have hp : (b : Int) * 2 ^ e = ((b * 2 ^ e : Nat) : Int) := by simp
  have hw2 : IntKind.u8.wrap (((b * 2 ^ e : Nat) : Int)) = ((b * 2 ^ e : Nat) : Int) := by
    rw [IntKind.wrap_u8]
    generalize b * 2 ^ e = z at *
    omega
  rw [e2, hw, hp, hw2, u8_or_nat _ _ (by omega) (by omega), or_low e hc hb rfl]
  exact ⟨rfl, by omega⟩

set_option maxHeartbeats 2000000 in
set_option maxRecDepth 100000 in
theorem packed27 (B0 : Nat) (v : Value) (W H y : Nat) (B : Nat → Nat) (sv : Value) (n : Nat) (xs : List Value) (w : World) (hW : W ≤ 1048576) (hH : H ≤ 1048576) (hM : ∀ w', Below B0 w w' → IsMap w' v W H B)
    (hown : Owns w B0 5 sv n xs) (hB : B0 ≤ w.heap.size) (hn : n ≤ 10000000000000) :
    Calls Tryd.prog 27 #[sv, v, .int .i64 W, .int .i64 y] w fun e w' => ∃ v', e = .returned v' ∧ Owns w' B0 5 v' (n + (packRow (fun x => px W H B x y) W).length) (xs ++ bv (packRow (fun x => px W H B x y) W)) ∧ Below B0 w w' := by
  obtain ⟨i0, hi, hz0, hz1, hz2⟩ := info_parts infoB
  obtain ⟨p, hp⟩ : ∃ p : Nat → Nat, (fun x : Nat => px W H B x y) = p := ⟨_, rfl⟩
  have hp1 : ∀ x : Nat, px W H B x y = p x := fun x => congrFun hp x
  have hpl : ∀ x, p x ≤ 1 := fun x => by rw [← hp1]; exact px_le ..
  rw [hp]
  have HP := Lib.hid hp1
  have HPL := Lib.hid hpl
  have HM := Lib.hid hM
  have HO := Lib.hid hown
  clear hp hp1 hpl hM hown
  go_enter Tryd.func27, Tryd.ntmps27
  go_wp2_with fail
  go_loopw [0, 9, 11] (fun s _ i wr => ∃ k : Nat, k ≤ W ∧ i = .int .i64 k ∧ Hid (Owns wr B0 5 s (n + (packRow p k).length) (xs ++ bv (packRow p k))) ∧ Hid (Below B0 w wr)) (fun _ _ i _ => W - (intOf i).toNat)
  case atStart => exact ⟨0, Nat.zero_le _, rfl, Lib.hid (by simpa [packRow, headL, bv, Lib.byteCells] using HO.out), Lib.hid (Below.refl _ _)⟩
  case round =>
    clear HO
    obtain ⟨k, hk, rfl, ho, hb⟩ := hrel
    by_cases hlt : k < W
    · have hltI : (k : Int) < (W : Int) := by omega
      have hdl := packRow_len p k
      have hpk := HPL.out k
      have hwB : B0 ≤ wr.heap.size := Nat.le_trans hB hb.out.size
      by_cases h8 : k % 8 = 0
      · have h8I : (k : Int) % 8 = 0 := by omega
        go_upto_region 5 with fail
        go_upto_region 6 with (at_builtin; refine step_append _ rfl _ _ 27 rfl B0 5 i0 (.int .u8 0) Tryd.underlying27 hi hz0 hz1 hz2 rfl _ _ _ rfl (ho.out.alloc _) ⟨wr.heap.size, 0, none⟩ 1 1 (bv [0]) rfl rfl ?c1 (bv_one _) ?c3 ?c4 ?_)
        case c1 => rw [bv_single 0 0 rfl]; exact cell_one_new _ _ _
        case c3 => omega
        case c4 => simp; omega
        intro v4 w4 ho4 hgr
        have HB4 : Hid (Below B0 w w4) := (hb.out.alloc (by simpa using hwB) _).grown hgr (by simp; omega) (fun z hz => (ho.out.lt z hz).1)
        have HO4 : Hid (Owns w4 B0 5 v4 (n + (headL p k).length + 1) ((xs ++ bv (headL p k)) ++ [.int .u8 ((curB p k : Nat) : Int)])) := by
          show Owns ..
          have e : packRow p k = headL p k := by unfold packRow; rw [if_pos h8, List.append_nil]
          rw [e, bv_single 0 0 rfl] at ho4
          rw [curB_zero h8, List.append_assoc]
          exact ho4
        clear ho4 hgr
        obtain ⟨g, cap, rfl, hg, hc, hf, hset⟩ := HO4.out.last
        have HSET := Lib.hid hset
        have hmI : ((n + (headL p k).length + 1 : Nat) : Int) - 1 = ((n + (headL p k).length : Nat) : Int) := by omega
        have hhl : (headL p k).length ≤ k := by unfold headL; rw [List.length_map, List.length_range]; omega
        obtain ⟨m, hm⟩ : ∃ m, n + (headL p k).length = m := ⟨_, rfl⟩
        have HMM := Lib.hid hm
        rw [hm] at hc hf hmI ⊢
        have hmb : m ≤ 20000000000000 := by omega
        have hwm : IntKind.i64.wrap (m : Int) = (m : Int) := IntWalk.i64_in _ (by omega)
        obtain ⟨r, hr⟩ : ∃ r, k % 8 = r := ⟨_, rfl⟩
        obtain ⟨e, he⟩ : ∃ e, 7 - r = e := ⟨_, rfl⟩
        have HR : Hid (k % 8 = r ∧ 7 - r = e ∧ r + e = 7) := ⟨hr, he, by omega⟩
        have hlt1 : (m : Int) < (m : Int) + 1 := by omega
        have htm : (k : Int).tmod 8 = (r : Int) := by rw [Int.tmod_eq_emod_of_nonneg (by omega)]; omega
        have h7 : IntKind.i64.wrap (7 - (r : Int)) = (e : Int) := by rw [show 7 - (r : Int) = (e : Int) by omega]; exact IntWalk.i64_in _ (by omega)
        obtain ⟨c, hcb⟩ : ∃ c, curB p k = c := ⟨_, rfl⟩
        have HCB := Lib.hid hcb
        rw [hcb] at hc
        obtain ⟨hbv, hbl⟩ := lay_bit (c := c) (by rw [← hcb, ← hr]; exact (curB_bound HPL.out k).1) (by rw [← hcb, ← hr]; exact (curB_bound HPL.out k).2) hpk HR.out.2.2
        have HBV := Lib.hid hbv
        have HBL := Lib.hid hbl
        clear hset hm hmI hhl hr he hcb hbv hbl
        go_upto_region 6 with fail
        go_region_law (go_simp; go_at_call 43; refine (mget0 v W H B (k : Int) (y : Int) _ hW hH (HM.out _ ?_)).mono ?_; exact HB4.out.drew; rintro e w' ⟨rfl, q, rfl⟩; rw [HP.out k])
        all_goals
          rw [HBV.out]
          have HB5 : Hid (Below B0 w ((w4.drewN (1 + q)).setCell ⟨g, m, none⟩ (.int .u8 ((c + p k * 2 ^ e : Nat) : Int)))) := Below.setCell (below_drewN HB4.out _) hg _
          have HO5 : Hid (Owns ((w4.drewN (1 + q)).setCell ⟨g, m, none⟩ (.int .u8 ((c + p k * 2 ^ e : Nat) : Int))) B0 5 (.slice (some ⟨g, 0, none⟩) (m + 1) cap) (n + (packRow p (k + 1)).length) (xs ++ bv (packRow p (k + 1)))) := by
            have h1 := HSET.out (w4.drewN (1 + q)) (.int .u8 ((c + p k * 2 ^ e : Nat) : Int)) (fun _ _ => rfl)
            rw [HMM.out] at h1
            show Owns ..
            have e1 : packRow p (k + 1) = headL p k ++ [UInt8.ofNat (c + p k * 2 ^ e)] := by rw [packRow_step, HCB.out, HR.out.1, HR.out.2.1]
            have e2 := HBL.out
            rw [e1, bv_append, bv_single (UInt8.ofNat (c + p k * 2 ^ e)) ((c + p k * 2 ^ e : Nat) : Int) (by rw [UInt8.toNat_ofNat']; omega), List.length_append, ← List.append_assoc, ← Nat.add_assoc, HMM.out]
            exact h1
          generalize (w4.drewN (1 + q)).setCell ⟨g, m, none⟩ (.int .u8 ((c + p k * 2 ^ e : Nat) : Int)) = w6 at *
          clear hc hf hwm hlt1 htm h7 HBV HSET
          go_wp2_with fail
          go_roundw
          case rel => exact ⟨k + 1, by omega, by go_num, HO5, HB5⟩
          case measure => simp [intOf]; omega
      · have h8I : ¬ (k : Int) % 8 = 0 := by omega
        have HB4 := hb
        have HO4 : Hid (Owns wr B0 5 u0 (n + (headL p k).length + 1) ((xs ++ bv (headL p k)) ++ [.int .u8 ((curB p k : Nat) : Int)])) := by
          show Owns ..
          have e : packRow p k = headL p k ++ [UInt8.ofNat (curB p k)] := by unfold packRow; rw [if_neg h8]
          have hc := (curB_bound HPL.out k).2
          have hpw : 0 < 2 ^ (8 - k % 8) := Nat.two_pow_pos _
          have h1 := ho.out
          rw [e, bv_append, bv_single (UInt8.ofNat (curB p k)) ((curB p k : Nat) : Int) (by rw [UInt8.toNat_ofNat']; omega), List.length_append, ← List.append_assoc] at h1
          exact h1
        go_upto_region 6 with fail
        obtain ⟨g, cap, rfl, hg, hc, hf, hset⟩ := HO4.out.last
        have HSET := Lib.hid hset
        have hmI : ((n + (headL p k).length + 1 : Nat) : Int) - 1 = ((n + (headL p k).length : Nat) : Int) := by omega
        have hhl : (headL p k).length ≤ k := by unfold headL; rw [List.length_map, List.length_range]; omega
        obtain ⟨m, hm⟩ : ∃ m, n + (headL p k).length = m := ⟨_, rfl⟩
        have HMM := Lib.hid hm
        rw [hm] at hc hf hmI ⊢
        have hmb : m ≤ 20000000000000 := by omega
        have hwm : IntKind.i64.wrap (m : Int) = (m : Int) := IntWalk.i64_in _ (by omega)
        obtain ⟨r, hr⟩ : ∃ r, k % 8 = r := ⟨_, rfl⟩
        obtain ⟨e, he⟩ : ∃ e, 7 - r = e := ⟨_, rfl⟩
        have HR : Hid (k % 8 = r ∧ 7 - r = e ∧ r + e = 7) := ⟨hr, he, by omega⟩
        have hlt1 : (m : Int) < (m : Int) + 1 := by omega
        have htm : (k : Int).tmod 8 = (r : Int) := by rw [Int.tmod_eq_emod_of_nonneg (by omega)]; omega
        have h7 : IntKind.i64.wrap (7 - (r : Int)) = (e : Int) := by rw [show 7 - (r : Int) = (e : Int) by omega]; exact IntWalk.i64_in _ (by omega)
        obtain ⟨c, hcb⟩ : ∃ c, curB p k = c := ⟨_, rfl⟩
        have HCB := Lib.hid hcb
        rw [hcb] at hc
        obtain ⟨hbv, hbl⟩ := lay_bit (c := c) (by rw [← hcb, ← hr]; exact (curB_bound HPL.out k).1) (by rw [← hcb, ← hr]; exact (curB_bound HPL.out k).2) hpk HR.out.2.2
        have HBV := Lib.hid hbv
        have HBL := Lib.hid hbl
        clear hset hm hmI hhl hr he hcb hbv hbl
        go_region_law (go_simp; go_at_call 43; refine (mget0 v W H B (k : Int) (y : Int) _ hW hH (HM.out _ ?_)).mono ?_; exact HB4.out.drew; rintro e w' ⟨rfl, q, rfl⟩; rw [HP.out k])
        all_goals
          rw [HBV.out]
          have HB5 : Hid (Below B0 w ((wr.drewN (1 + q)).setCell ⟨g, m, none⟩ (.int .u8 ((c + p k * 2 ^ e : Nat) : Int)))) := Below.setCell (below_drewN HB4.out _) hg _
          have HO5 : Hid (Owns ((wr.drewN (1 + q)).setCell ⟨g, m, none⟩ (.int .u8 ((c + p k * 2 ^ e : Nat) : Int))) B0 5 (.slice (some ⟨g, 0, none⟩) (m + 1) cap) (n + (packRow p (k + 1)).length) (xs ++ bv (packRow p (k + 1)))) := by
            have h1 := HSET.out (wr.drewN (1 + q)) (.int .u8 ((c + p k * 2 ^ e : Nat) : Int)) (fun _ _ => rfl)
            rw [HMM.out] at h1
            show Owns ..
            have e1 : packRow p (k + 1) = headL p k ++ [UInt8.ofNat (c + p k * 2 ^ e)] := by rw [packRow_step, HCB.out, HR.out.1, HR.out.2.1]
            have e2 := HBL.out
            rw [e1, bv_append, bv_single (UInt8.ofNat (c + p k * 2 ^ e)) ((c + p k * 2 ^ e : Nat) : Int) (by rw [UInt8.toNat_ofNat']; omega), List.length_append, ← List.append_assoc, ← Nat.add_assoc, HMM.out]
            exact h1
          generalize (wr.drewN (1 + q)).setCell ⟨g, m, none⟩ (.int .u8 ((c + p k * 2 ^ e : Nat) : Int)) = w6 at *
          clear hc hf hwm hlt1 htm h7 HBV HSET
          go_wp2_with fail
          go_roundw
          case rel => exact ⟨k + 1, by omega, by go_num, HO5, HB5⟩
          case measure => simp [intOf]; omega
    · obtain rfl : k = W := by omega
      go_wp2_with fail
      go_ret
      exact ⟨_, rfl, ho.out, hb.out⟩
end Go.Proofs.YtgpjpmadbepblaaDoor
