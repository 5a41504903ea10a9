/- Rows of pixels, written as digits and as bytes, by package pbm. Conditions: the bounds that each theorem names. -/
import Derived.Test.YtgpjpmadbepblaaDoorMb
namespace Go.Pbm
/-- a pixel's digit -/
def dg (b : Nat) : UInt8 := UInt8.ofNat (48 + b)
theorem dg_nat {b : Nat} (h : b ≤ 1) : (dg b).toNat = 48 + b := by unfold dg; rw [UInt8.toNat_ofNat']; omega
theorem bv_single (u : UInt8) (x : Int) (h : (u.toNat : Int) = x) : bv [u] = [.int .u8 x] := by subst h; rfl
/-- a row's first x pixels as digits, 64 to a line; W is the row's length -/
def digRow (p : Nat → Nat) (W : Nat) : Nat → List UInt8
  | 0 => []
  | x + 1 => digRow p W x ++ (dg (p x) :: if x % 64 = 63 ∨ x + 1 = W then [10] else [])
theorem digRow_len (p : Nat → Nat) (W : Nat) : ∀ x, (digRow p W x).length ≤ 2 * x
  | 0 => Nat.le_refl _
  | x + 1 => by
    have := digRow_len p W x
    rw [digRow, List.length_append]
    split <;> simp <;> omega
end Go.Pbm
namespace Go.Proofs.YtgpjpmadbepblaaDoor
open Go.RowKit Go.Bm Go.Pbm Go.Sort

set_option maxHeartbeats 2000000 in
set_option maxRecDepth 100000 in
theorem digits26 (B0 : Nat) (v : Value) (W H y : Nat) (B : Nat → Nat) (sv : Value) (n : Nat) (xs : List Value) (w : World) (hW : W ≤ 1048576) (hH : H ≤ 1048576) (hM : ∀ w', Below B0 w w' → IsMap w' v W H B)
    (hown : Owns w B0 5 sv n xs) (hB : B0 ≤ w.heap.size) (hn : n ≤ 10000000000000) :
    Calls Tryd.prog 26 #[sv, v, .int .i64 W, .int .i64 y] w fun e w' => ∃ v', e = .returned v' ∧ Owns w' B0 5 v' (n + (digRow (fun x => px W H B x y) W W).length) (xs ++ bv (digRow (fun x => px W H B x y) W W)) ∧ Below B0 w w' := by
  obtain ⟨i0, hi, hz0, hz1, hz2⟩ := info_parts infoB
  obtain ⟨p, hp⟩ : ∃ p : Nat → Nat, (fun x : Nat => px W H B x y) = p := ⟨_, rfl⟩
  have hp1 : ∀ x : Nat, px W H B x y = p x := fun x => congrFun hp x
  have hpl : ∀ x, p x ≤ 1 := fun x => by rw [← hp1]; exact px_le ..
  rw [hp]
  have HP := Lib.hid hp1
  have HPL := Lib.hid hpl
  have HM := Lib.hid hM
  have HO := Lib.hid hown
  clear hp hp1 hpl hM hown
  go_enter Tryd.func26, Tryd.ntmps26
  go_wp2_with fail
  go_loopw [0, 9, 11] (fun s _ i wr => ∃ k : Nat, k ≤ W ∧ i = .int .i64 k ∧ Hid (Owns wr B0 5 s (n + (digRow p W k).length) (xs ++ bv (digRow p W k))) ∧ Hid (Below B0 w wr)) (fun _ _ i _ => W - (intOf i).toNat)
  case atStart => exact ⟨0, Nat.zero_le _, rfl, Lib.hid (by simpa [digRow, bv, Lib.byteCells] using HO.out), Lib.hid (Below.refl _ _)⟩
  case round =>
    clear HO
    obtain ⟨k, hk, rfl, ho, hb⟩ := hrel
    by_cases hlt : k < W
    · have hltI : (k : Int) < (W : Int) := by omega
      have hdl := digRow_len p W k
      have hpk := HPL.out k
      have w1 : IntKind.u8.wrap ((p k : Nat) : Int) = (p k : Int) := by rw [IntKind.wrap_u8]; omega
      have w2 : IntKind.u8.wrap (48 + ((p k : Nat) : Int)) = 48 + (p k : Int) := by rw [IntKind.wrap_u8]; omega
      have hwB : B0 ≤ wr.heap.size := Nat.le_trans hB hb.out.size
      go_upto_region 4 with fail
      go_wp2_with (first
        | (go_at_call 43; refine (mget0 v W H B (k : Int) (y : Int) _ hW hH (HM.out _ hb.out)).mono ?_; rintro e w' ⟨rfl, q, rfl⟩; rw [HP.out k])
        | (at_builtin; refine step_append _ rfl _ _ 27 rfl B0 5 i0 (.int .u8 0) Tryd.underlying27 hi hz0 hz1 hz2 rfl _ _ _ rfl ((ho.out.drewN q).alloc _) ⟨wr.heap.size, 0, none⟩ 1 1 (bv [dg (p k)]) rfl rfl ?c1 (bv_one _) ?c3 ?c4 ?_))
      case c1 => rw [bv_single _ (48 + (p k : Int)) (by rw [dg_nat hpk]; omega)]; exact cell_one_new _ _ _
      case c3 => omega
      case c4 => simp; omega
      intro v' w3 ho3 hgr
      have HB3 : Hid (Below B0 w w3) := ((hb.out.trans (below_drewN (Below.refl _ _) q)).alloc (by simpa using hwB) _).grown hgr (by simp; omega) (fun z hz => (ho.out.lt z hz).1)
      have HO3 : Hid (Owns w3 B0 5 v' (n + ((digRow p W k).length + 1)) (xs ++ bv (digRow p W k ++ [dg (p k)]))) := by
        show Owns ..
        rw [bv_append]
        simpa [Nat.add_assoc] using ho3
      have hwB3 : B0 ≤ w3.heap.size := Nat.le_trans hB HB3.out.size
      clear ho3 hgr hb w1 w2 hwB
      by_cases h1 : (k : Int) % 64 = 63
      · have HD : Hid (digRow p W (k + 1) = digRow p W k ++ [dg (p k), 10]) := by
          show _ = _
          rw [digRow, if_pos (Or.inl (by omega))]
        go_wp2_with (at_builtin; refine step_append _ rfl _ _ 27 rfl B0 5 i0 (.int .u8 0) Tryd.underlying27 hi hz0 hz1 hz2 rfl _ _ _ rfl (HO3.out.alloc _) ⟨w3.heap.size, 0, none⟩ 1 1 (bv [10]) rfl rfl ?c1 (bv_one _) ?c3 ?c4 ?_)
        case c1 => rw [bv_single 10 10 rfl]; exact cell_one_new _ _ _
        case c3 => omega
        case c4 => simp; omega
        intro v4 w4 ho4 hgr
        have HB4 : Hid (Below B0 w w4) := (HB3.out.alloc hwB3 _).grown hgr (by simp; omega) (fun z hz => (HO3.out.lt z hz).1)
        have HO4 : Hid (Owns w4 B0 5 v4 (n + (digRow p W (k + 1)).length) (xs ++ bv (digRow p W (k + 1)))) := by
          show Owns ..
          rw [HD.out]
          have e : digRow p W k ++ [dg (p k), 10] = (digRow p W k ++ [dg (p k)]) ++ [10] := by simp
          rw [e, bv_append _ [10]]
          simpa [Nat.add_assoc] using ho4
        clear ho4 hgr
        go_wp2_with fail
        go_roundw
        case rel => exact ⟨k + 1, by omega, by go_num, HO4, HB4⟩
        case measure => simp [intOf]; omega
      · have h1b : ((k : Int) % 64 == 63) = false := by simpa using h1
        by_cases h2 : k + 1 = W
        · have h2b : ((k : Int) == (W : Int) - 1) = true := by simp; omega
          have HD : Hid (digRow p W (k + 1) = digRow p W k ++ [dg (p k), 10]) := by
            show _ = _
            rw [digRow, if_pos (Or.inr h2)]
          clear h2
          go_wp2_with (at_builtin; refine step_append _ rfl _ _ 27 rfl B0 5 i0 (.int .u8 0) Tryd.underlying27 hi hz0 hz1 hz2 rfl _ _ _ rfl (HO3.out.alloc _) ⟨w3.heap.size, 0, none⟩ 1 1 (bv [10]) rfl rfl ?c1 (bv_one _) ?c3 ?c4 ?_)
          case c1 => rw [bv_single 10 10 rfl]; exact cell_one_new _ _ _
          case c3 => omega
          case c4 => simp; omega
          intro v4 w4 ho4 hgr
          have HB4 : Hid (Below B0 w w4) := (HB3.out.alloc hwB3 _).grown hgr (by simp; omega) (fun z hz => (HO3.out.lt z hz).1)
          have HO4 : Hid (Owns w4 B0 5 v4 (n + (digRow p W (k + 1)).length) (xs ++ bv (digRow p W (k + 1)))) := by
            show Owns ..
            rw [HD.out]
            have e : digRow p W k ++ [dg (p k), 10] = (digRow p W k ++ [dg (p k)]) ++ [10] := by simp
            rw [e, bv_append _ [10]]
            simpa [Nat.add_assoc] using ho4
          clear ho4 hgr
          go_wp2_with fail
          go_roundw
          case rel => exact ⟨k + 1, by omega, by go_num, HO4, HB4⟩
          case measure => simp [intOf]; omega
        · have h2b : ((k : Int) == (W : Int) - 1) = false := by simp; omega
          have HD : Hid (digRow p W (k + 1) = digRow p W k ++ [dg (p k)]) := by
            show _ = _
            rw [digRow, if_neg (by omega)]
          clear h2
          have HO4 : Hid (Owns w3 B0 5 v' (n + (digRow p W (k + 1)).length) (xs ++ bv (digRow p W (k + 1)))) := by
            show Owns ..
            rw [HD.out]
            simpa using HO3.out
          go_wp2_with fail
          go_roundw
          case rel => exact ⟨k + 1, by omega, by go_num, HO4, HB3⟩
          case measure => simp [intOf]; omega
    · obtain rfl : k = W := by omega
      go_wp2_with fail
      go_ret
      exact ⟨_, rfl, ho.out, hb.out⟩
end Go.Proofs.YtgpjpmadbepblaaDoor
