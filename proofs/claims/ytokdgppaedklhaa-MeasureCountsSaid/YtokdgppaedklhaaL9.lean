/- The walk of MeasureCounts. -/
import Derived.Test.YtokdgppaedklhaaL10
namespace Go.FlW
open Fl

/-- how many are counted below j -/
def csum (E : Nat → Nat) (ne : Nat) (L : Nat → Nat) (n j : Nat) : Nat := ((List.range n).filter fun i => decide (bin E ne (L i) < j)).length
/-- how many of the first m lie below e -/
def dsum (e : Nat) (L : Nat → Nat) (m : Nat) : Nat := ((List.range m).filter fun i => ltB (L i) e).length

theorem csum_zero (E : Nat → Nat) (ne : Nat) (L : Nat → Nat) (n : Nat) : csum E ne L n 0 = 0 := by unfold csum; simp
theorem csum_succ (E : Nat → Nat) (ne : Nat) (L : Nat → Nat) (n j : Nat) : csum E ne L n (j + 1) = csum E ne L n j + cnt E ne L n j := by
  unfold csum cnt
  induction List.range n with
  | nil => rfl
  | cons x r ih =>
    rw [List.filter_cons, List.filter_cons, List.filter_cons]
    rcases Nat.lt_trichotomy (bin E ne (L x)) j with h | h | h
    · rw [if_pos (by simp; omega), if_pos (by simp; omega), if_neg (by simp; omega)]
      simp only [List.length_cons]; omega
    · rw [if_pos (by simp; omega), if_neg (by simp; omega), if_pos (by simp; omega)]
      simp only [List.length_cons]; omega
    · rw [if_neg (by simp; omega), if_neg (by simp; omega), if_neg (by simp; omega)]
      exact ih
theorem csum_all (E : Nat → Nat) (ne : Nat) (L : Nat → Nat) (n : Nat) : csum E ne L n (ne + 2) = n := by
  unfold csum
  rw [List.filter_eq_self.2, List.length_range]
  intro i _
  have := bin_le E ne (L i)
  simp; omega
theorem csum_le (E : Nat → Nat) (ne : Nat) (L : Nat → Nat) (n j : Nat) : csum E ne L n j ≤ n := by
  unfold csum
  have := List.length_filter_le (fun i => decide (bin E ne (L i) < j)) (List.range n)
  rw [List.length_range] at this; exact this
theorem dsum_le (e : Nat) (L : Nat → Nat) (m : Nat) : dsum e L m ≤ m := by
  unfold dsum
  have := List.length_filter_le (fun i => ltB (L i) e) (List.range m)
  rw [List.length_range] at this; exact this
theorem dsum_succ (e : Nat) (L : Nat → Nat) (m : Nat) : dsum e L (m + 1) = dsum e L m + if ltB (L m) e then 1 else 0 := by
  unfold dsum
  rw [List.range_succ, List.filter_append, List.length_append]
  congr 1
  cases h : ltB (L m) e <;> simp [h]
theorem okE_mono {E : Nat → Nat} {n : Nat} (h : okE E n) : ∀ j k, j ≤ k → k < n → key D (E j) ≤ key D (E k) := by
  intro j k hjk hk
  induction k with
  | zero => have : j = 0 := by omega
            subst this; omega
  | succ k ih =>
    by_cases e : j = k + 1
    · subst e; omega
    · have h1 := ih (by omega) (by omega)
      have h2 := (h (k + 1) hk).2 (by omega)
      rw [Nat.add_sub_cancel] at h2
      omega
theorem bin_below {E : Nat → Nat} {ne x k : Nat} (h : okE E ne) (hk : k < ne) : decide (bin E ne x < k + 1) = ltB x (E k) := by
  unfold bin
  cases nx : isNaN D x
  · simp only [Bool.false_eq_true, if_false]
    obtain ⟨_, g2, g3, g4⟩ := firstLt_spec E x ne 0
    by_cases hlt : firstLt E x ne 0 < k + 1
    · rw [decide_eq_true hlt]
      have h1 := g4 (by omega)
      have h2 := okE_mono h _ k (Nat.le_of_lt_succ hlt) hk
      unfold ltB at h1 ⊢
      simp only [Bool.and_eq_true, Bool.not_eq_true', decide_eq_true_eq] at h1
      rw [nx, (h k hk).1, decide_eq_true (by omega)]; rfl
    · rw [decide_eq_false hlt]
      exact (g3 k (Nat.zero_le _) (by omega)).symm
  · simp only [if_true]
    rw [decide_eq_false (by omega)]
    unfold ltB; rw [nx]; rfl
theorem csum_dsum {E : Nat → Nat} {ne : Nat} {L : Nat → Nat} {n k : Nat} (h : okE E ne) (hk : k < ne) : csum E ne L n (k + 1) = dsum (E k) L n := by
  unfold csum dsum
  congr 2
  funext i
  exact bin_below h hk
end Go.FlW

namespace Go.Proofs.Ytokdgppaedklhaa
open Go.RowKit Fl Go.FlW

set_option maxRecDepth 100000 in
set_option maxHeartbeats 4000000 in
theorem counts_walk (a : Option Addr) (len cap : Nat) (L : Nat → Nat) (b : Option Addr) (len2 cap2 : Nat) (L2 : Nat → Nat) (w : World) (h : IsWords w a len cap L) (h2 : IsWords w b len2 cap2 L2) :
    Calls Try.prog 9 #[.agg #[.slice a len cap, .slice b len2 cap2]] w fun e w' => e = .returned (.bool true) ∧ Below w.heap.size w w' := by
  by_cases hl : len ≤ 500
  · by_cases hl2 : len2 ≤ 60
    · have f1 : decide ((500 : Int) < (len : Int)) = false := by simp; omega
      have f2 : decide ((60 : Int) < (len2 : Int)) = false := by simp; omega
      go_enter Try.func9, Try.ntmps9
      go_upto_region 3 with fail
      have hb0 : Below w.heap.size w (w.alloc (.cells #[.slice a len cap, .slice b len2 cap2] 46)) := (Below.refl _ _).alloc (Nat.le_refl _) _
      have I0 : MInv w w.heap.size a len cap L b len2 cap2 L2 (w.alloc (.cells #[.slice a len cap, .slice b len2 cap2] 46)) :=
        ⟨by simp, by rw [World.cell?_alloc_at _ _ _ _ rfl]; rfl, by rw [World.cell?_alloc_at _ _ _ _ rfl]; rfl, h.below hb0, h2.below hb0, hb0⟩
      obtain ⟨W0, hW0⟩ : ∃ W0, w.heap.size = W0 := ⟨_, rfl⟩
      rw [hW0] at I0 ⊢
      clear h h2 hb0 f1 f2
      generalize w.alloc (.cells #[.slice a len cap, .slice b len2 cap2] 46) = w0 at *
      have c0 := I0.c0
      have c1 := I0.c1
      go_upto_region 4 with (go_at_call 24; refine (floats_fl a len cap L _ I0.k1 (by omega)).mono ?_; rintro e w1 ⟨v1, rfl, f1, bel1⟩)
      have I1 := I0.step bel1
      clear I0 c0 c1 bel1
      have c0 := I1.c0
      have c1 := I1.c1
      go_upto_region 5 with (first
        | (go_at_call 24; refine (floats_fl b len2 cap2 L2 _ I1.k2 (by omega)).mono ?_; rintro e w2 ⟨v2, rfl, f2, bel2⟩; have I2 := I1.step bel2; have f12 := f1.below bel2; clear bel2)
        | (go_at_call 25; refine (bins25v _ f12 f2 (by omega) (by omega)).mono ?_; rintro e w4 ⟨bv, bc, rfl, hbv, bel4⟩; have I4 := I2.step bel4; have f14 := f12.below bel4; clear bel4))
      clear I1 I2 f1 f12 f2 c0 c1
      rcases hbv with ⟨_, rfl, rfl⟩ | ⟨hok, rfl, g, hbvg, hg, hgh⟩
      · have hb8 := I4.bel
        go_wp2_with (go_at_call 14; refine (wakes14 _).mono ?_; rintro e w' ⟨rfl, n, rfl⟩)
        go_ret
        rw [← hW0] at hb8
        exact ⟨rfl, below_drewN hb8 _⟩
      · have hcnt : Hid (∀ i, i < len2 + 2 → w4.cell? ⟨g, i, none⟩ = some (.int .i64 (cnt L2 len2 L len i : Nat))) := by
          intro i hi
          rw [← cntArr_get L2 len2 L len hi]; exact Joins.cell_of_block hgh _
        obtain ⟨a1, cap1, hv1, hF⟩ := f14
        rw [hbvg, hv1]
        have I := Lib.hid I4
        have c1 := I.out.c1
        have HO := Lib.hid hok
        clear hgh hg I4 hbvg hv1 hok
        go_wp2_with fail
        go_loop [6, 7] (fun s i => ∃ k : Nat, k ≤ len2 + 2 ∧ i = .int .i64 k ∧ s = .int .i64 (csum L2 len2 L len k : Nat)) (fun _ i => (len2 + 2) - (intOf i).toNat)
        case atStart => exact ⟨0, Nat.zero_le _, rfl, by rw [csum_zero]; rfl⟩
        case round =>
          obtain ⟨k, hk, rfl, rfl⟩ := hrel
          have b1 := csum_le L2 len2 L len k
          have b2 := csum_le L2 len2 L len (k + 1)
          have hs := csum_succ L2 len2 L len k
          by_cases hlt : k < len2 + 2
          · have d1 := hcnt.out k hlt
            have hlt' : (k : Int) < (len2 : Int) + 2 := by omega
            have b3 := cnt_le L2 len2 L len k
            have HS := Lib.hid hs
            clear hs
            generalize hc : cnt L2 len2 L len k = ck at *
            clear hc
            go_wp2
            go_round
            case rel => exact ⟨k + 1, by omega, by go_num, by rw [HS.out]; go_num⟩
            case measure => simp [intOf]; omega
          · obtain rfl : k = len2 + 2 := by omega
            rw [csum_all]
            go_wp2_with fail
            clear b1 b2 hs hlt
            go_loopw [8, 9, 10, 11, 12] (fun i _ _ _ _ wr => ∃ k : Nat, k ≤ len2 ∧ i = .int .i64 k ∧ ∃ m, wr = w4.drewN m) (fun i _ _ _ _ _ => len2 - (intOf i).toNat)
            case atStart => exact ⟨0, Nat.zero_le _, rfl, 0, rfl⟩
            case round =>
              obtain ⟨k, hk, rfl, m, rfl⟩ := hrel
              by_cases hlt : k < len2
              · go_wp2_with fail
                go_loop [9, 11] (fun s i => ∃ j : Nat, j ≤ k + 1 ∧ i = .int .i64 j ∧ s = .int .i64 (csum L2 len2 L len j : Nat)) (fun _ i => (k + 1) - (intOf i).toNat)
                case atStart => exact ⟨0, Nat.zero_le _, rfl, by rw [csum_zero]; rfl⟩
                case round =>
                  obtain ⟨j, hj, rfl, rfl⟩ := hrel
                  have b1 := csum_le L2 len2 L len j
                  have b2 := csum_le L2 len2 L len (j + 1)
                  have hs := csum_succ L2 len2 L len j
                  by_cases hjk : j ≤ k
                  · have d1 := hcnt.out j (by omega)
                    have b3 := cnt_le L2 len2 L len j
                    have hj2 : (j : Int) < (len2 : Int) + 2 := by omega
                    have HS := Lib.hid hs
                    clear hs
                    generalize hc : cnt L2 len2 L len j = cj at *
                    clear hc
                    go_wp2
                    go_round
                    case rel => exact ⟨j + 1, by omega, by go_num, by rw [HS.out]; go_num⟩
                    case measure => simp [intOf]; omega
                  · obtain rfl : j = k + 1 := by omega
                    have hcd := csum_dsum (L := L) (n := len) HO.out hlt
                    rw [hcd]
                    clear b1 b2 hs hcd
                    have hjk2 : ¬ ((k : Int) + 1 ≤ (k : Int)) := by omega
                    go_wp2_with fail
                    go_loopw [10, 12] (fun s i wr => ∃ q : Nat, q ≤ len ∧ i = .int .i64 q ∧ s = .int .i64 (dsum (L2 k) L q : Nat) ∧ ∃ m, wr = w4.drewN m) (fun _ i _ => len - (intOf i).toNat)
                    case atStart => exact ⟨0, Nat.zero_le _, rfl, rfl, m, rfl⟩
                    case round =>
                      obtain ⟨q, hq, rfl, rfl, m2, rfl⟩ := hrel
                      have hd := dsum_succ (L2 k) L q
                      have bd := dsum_le (L2 k) L q
                      by_cases hql : q < len
                      · rcases hF with rfl | ⟨g1, rfl, hlc, hcm, hgs, hcell⟩
                        · omega
                        · rcases I.out.k2 with rfl | ⟨bw, offw, rfl, hlw, hcw, hbw, hcellw⟩
                          · omega
                          · have d1 := (hcell q hql).1
                            have d2 := (hcellw k hlt).1
                            clear hcell hcellw
                            obtain ⟨wz, hwz⟩ : ∃ wz, w4.drewN m2 = wz := ⟨_, rfl⟩
                            have d1 : wz.cell? ⟨g1, q, none⟩ = some (.float .f64 (L q)) := by rw [← hwz]; exact d1
                            have d2 : wz.cell? ⟨bw, offw + k, none⟩ = some (.int .u64 (L2 k : Nat)) := by rw [← hwz]; exact d2
                            have c1 : wz.cell? ⟨W0, 1, none⟩ = some (.slice (some ⟨bw, offw, none⟩) len2 cap2) := by rw [← hwz]; exact c1
                            rw [hwz]
                            have HZ := Lib.hid hwz.symm
                            clear hwz
                            cases ho : ltB (L q) (L2 k)
                            · rw [ho] at hd
                              have HD := Lib.hid hd
                              have ho2 : (FloatKind.f64.format.order (L q) (L2 k) == some .lt) = false := by rw [ltB_order]; exact ho
                              clear hd ho
                              go_wp2
                              go_quiet ((go_at_call 17; exact quietL0 (float_nat _ _)))
                              go_wp2
                              go_roundw
                              case rel => exact ⟨q + 1, by omega, by go_num, by rw [HD.out]; rfl, m2 + nq, by rw [HZ.out, World.drewN_drewN]⟩
                              case measure => simp [intOf]; omega
                            · rw [ho] at hd
                              have HD := Lib.hid hd
                              have ho2 : (FloatKind.f64.format.order (L q) (L2 k) == some .lt) = true := by rw [ltB_order]; exact ho
                              clear hd ho
                              go_wp2
                              go_quiet ((go_at_call 17; exact quietL0 (float_nat _ _)))
                              go_wp2
                              go_roundw
                              case rel => exact ⟨q + 1, by omega, by go_num, by rw [HD.out]; go_num, m2 + nq, by rw [HZ.out, World.drewN_drewN]⟩
                              case measure => simp [intOf]; omega
                      · obtain rfl : q = len := by omega
                        clear hd
                        go_wp2_with fail
                        go_roundw
                        case rel => exact ⟨k + 1, by omega, by go_num, _, rfl⟩
                        case measure => simp [intOf]; omega
              · have hb8 := I.out.bel
                go_wp2_with (go_at_call 14; refine (wakes14 _).mono ?_; rintro e w' ⟨rfl, n, rfl⟩)
                go_ret
                rw [← hW0] at hb8
                exact ⟨rfl, below_drewN hb8 _⟩
    · have hl2'' : (60 : Int) < len2 := by omega
      go_enter Try.func9, Try.ntmps9
      go_wp2_with (go_at_call 14; refine (wakes14 _).mono ?_; rintro e w' ⟨rfl, n, rfl⟩)
      go_ret
      exact ⟨rfl, below_drewN ((Below.refl _ _).alloc (Nat.le_refl _) _) _⟩
  · have hl' : (500 : Int) < len := by omega
    go_enter Try.func9, Try.ntmps9
    go_wp2_with (go_at_call 14; refine (wakes14 _).mono ?_; rintro e w' ⟨rfl, n, rfl⟩)
    go_ret
    exact ⟨rfl, below_drewN ((Below.refl _ _).alloc (Nat.le_refl _) _) _⟩
end Go.Proofs.Ytokdgppaedklhaa
