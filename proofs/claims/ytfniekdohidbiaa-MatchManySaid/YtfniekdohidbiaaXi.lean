/- OverBitmaps, walked. Conditions: the bounds that each theorem names. -/
import Derived.Test.YtfniekdohidbiaaXh
namespace Go.Proofs.Ytfniekdohidbiaa
open Go.RowKit Go.Bm
/-- only the words may differ -/
def SameButB (S R : Nat → Bmp) : Prop := ∀ j, (S j).W = (R j).W ∧ (S j).H = (R j).H ∧ (S j).a = (R j).a ∧ (S j).n = (R j).n ∧ (S j).cap = (R j).cap
theorem SameButB.refl (R : Nat → Bmp) : SameButB R R := fun _ => ⟨rfl, rfl, rfl, rfl, rfl⟩
theorem SameButB.trans {T S R : Nat → Bmp} (h : SameButB T S) (k : SameButB S R) : SameButB T R := fun j => by
  obtain ⟨a1, a2, a3, a4, a5⟩ := h j
  obtain ⟨b1, b2, b3, b4, b5⟩ := k j
  exact ⟨a1.trans b1, a2.trans b2, a3.trans b3, a4.trans b4, a5.trans b5⟩
theorem SameButB.set {S R : Nat → Bmp} (h : SameButB S R) (i k x : Nat) : SameButB (fun j => if j = i then setW (S i) k x else S j) R := fun j => by
  show (if j = i then setW (S i) k x else S j).W = _ ∧ (if j = i then setW (S i) k x else S j).H = _ ∧ (if j = i then setW (S i) k x else S j).a = _ ∧ (if j = i then setW (S i) k x else S j).n = _ ∧ (if j = i then setW (S i) k x else S j).cap = _
  by_cases e : j = i
  · subst e; rw [if_pos rfl]; exact h j
  · rw [if_neg e]; exact h j
theorem over_words (i : Nat) (hi : i ≤ 1048576) : 1000 + i < 2 ^ 64 ∧ ((1000 + i : Nat) : Int) = 1000 + (i : Int) := by
  refine ⟨by omega, by omega⟩
set_option maxRecDepth 100000 in
set_option maxHeartbeats 4000000 in
theorem overbitmaps17 (base m : Nat) (v : Value) (R : Nat → Bmp) (w : World) (ho : OwnBms w base v m R) (hm : m ≤ 1048576) (hn : ∀ k, k < m → (R k).n ≤ 1048576) (hb : base ≤ w.heap.size) :
    Calls Try.prog 17 #[v] w fun e w' => e = .returned (.bool true) ∧ Below base w w' := by
  obtain ⟨i0, hi, hz0, hz1, hz2⟩ := info_parts infoW
  obtain ⟨p, cap, rfl, _⟩ := ownsRow_slice ho.1
  have HO := Lib.hid ho
  have HN := Lib.hid hn
  clear ho hn
  go_enter Try.func17, Try.ntmps17
  go_wp2_with fail
  go_loopw [3, 4, 5] (fun v _ _ wr => ∃ i : Nat, i ≤ m ∧ v = .int .i64 i ∧ ∃ S : Nat → Bmp, Hid (OwnBms wr base (.slice p m cap) m S) ∧ Hid (SameButB S R) ∧ Hid (∀ j, j < i → ∀ t, t < (S j).n → (S j).B t = 1000 + j) ∧ Hid (Below base w wr)) (fun v _ _ _ => m - (intOf v).toNat)
  case atStart => exact ⟨0, Nat.zero_le _, rfl, R, HO, SameButB.refl R, fun j h => by omega, Below.refl _ _⟩
  case round =>
    obtain ⟨i, hi1, rfl, S, hown, hsame, hov, hbel⟩ := hrel
    by_cases hlt : i < m
    · have HS := Lib.hid (hsame.out i)
      go_wp2_with fail
      generalize wr = wo at *
      go_loopw [4] (fun v wr => ∃ k : Nat, k ≤ (S i).n ∧ v = .int .i64 k ∧ ∃ T : Nat → Bmp, Hid (OwnBms wr base (.slice p m cap) m T) ∧ Hid (SameButB T S) ∧ Hid (∀ j, j < i → ∀ t, t < (T j).n → (T j).B t = 1000 + j) ∧ Hid (∀ t, t < k → (T i).B t = 1000 + i) ∧ Hid (Below base w wr)) (fun v _ => (S i).n - (intOf v).toNat)
      case atStart => exact ⟨0, Nat.zero_le _, rfl, S, hown, SameButB.refl S, hov, fun t h => by omega, hbel⟩
      case round =>
        obtain ⟨k, hk, rfl, T, hown2, hsame2, hov2, hov3, hbel2⟩ := hrel
        obtain ⟨G, cap', e1, hbG, hGl, hnc, hcc, hcells⟩ := hown2.out.cells (by omega)
        simp only [Value.slice.injEq, true_and] at e1
        obtain ⟨rfl, rfl⟩ := e1
        obtain ⟨_, _, c2⟩ := hcells i hlt
        obtain ⟨_, _, ea, en, ec⟩ := hsame2.out i
        rw [ea, en, ec] at c2
        clear hcells
        obtain ⟨g, hg, hbg, hgl, hgc⟩ := (hown2.out.2.1 i hlt).cell
        have hnb : (S i).n ≤ 1048576 := by rw [HS.out.2.2.2.1]; exact HN.out i hlt
        rw [← ea, hg] at c2
        obtain ⟨hx64, hxi⟩ := over_words i (Nat.le_trans hi1 hm)
        have HX64 := Lib.hid hx64
        have HXI := Lib.hid hxi
        clear hx64 hxi
        by_cases hlt2 : k < (S i).n
        · obtain ⟨dc, df⟩ := hgc k (by rw [en]; exact hlt2)
          have hset := hown2.out.set hlt hg k (1000 + i) (by rw [en]; exact hlt2) HX64.out
          rw [HXI.out] at hset
          have HT := Lib.hid hset
          have HST : Hid (SameButB (fun j => if j = i then setW (T i) k (1000 + i) else T j) S) := hsame2.out.set i k (1000 + i)
          have HBT : Hid (Below base w (wr.setCell ⟨g, k, none⟩ (.int .u64 (1000 + (i : Int))))) := hbel2.out.setCell hbg _
          clear hgc hown hsame hov hbel hcc hbg hbG hgl hset
          go_wp2_with fail
          go_roundw
          case rel => exact ⟨k + 1, by omega, by go_num, _, HT, HST, fun j hj t ht => by
            rw [if_neg (show ¬ j = i by omega)] at ht ⊢
            exact hov2.out j hj t ht, fun t ht => by
            rw [if_pos rfl]
            show (if t = k then 1000 + i else (T i).B t) = _
            split
            · rfl
            · exact hov3.out t (by omega), HBT⟩
          case measure => simp [intOf]; omega
        · obtain rfl : k = (S i).n := by omega
          have hb2 : base ≤ wr.heap.size := Nat.le_trans hb hbel2.out.size
          have hrow : wr.ownsRow base 23 1 (.slice (some ⟨g, 0, none⟩) (S i).n (S i).cap) (S i).n (wvals (T i).B (S i).n) := by
            have := (hown2.out.2.1 i hlt).2.1
            unfold Bmp.bits at this
            rw [hg, en, ec] at this
            exact this
          have HROW := Lib.hid hrow
          clear hrow hgc hown hov hbel hcc hbg hbG hgl
          go_upto_region 9 with (at_builtin; go_loud (refine wpList_append_keep rfl _ _ 46 rfl base 23 i0 (.int .u64 0) 8 Try.underlying46 hi hz0 hz1 hz2 rfl (.slice (some ⟨g, 0, none⟩) (S i).n (S i).cap) (S i).n (wvals (T i).B (S i).n) rfl (HROW.out.alloc _) ⟨wr.heap.size, 0, none⟩ 1 1 [.int .u64 7] rfl rfl (World.news_of_block (cs := #[.int .u64 7]) (t := 23) (fr := (0, 0)) (heap_alloc_new wr _)) (by simp [Value.oneCell']) (by unfold maxLen; omega) (by omega) (by simp; omega) ?_; intro v2 w2 hown2' hkeep2 hgrow2 hloc2))
          have hbits : (T i).bits = .slice (some ⟨g, 0, none⟩) (S i).n (S i).cap := by unfold Bmp.bits; rw [hg, en, ec]
          have hA : OwnBms (wr.alloc (.cells #[.int .u64 7] 23)) base (.slice (some ⟨G, 0, none⟩) m cap) m T := hown2.out.below ((Below.refl _ wr).alloc (Nat.le_refl _) _)
          have hO2 : OwnBms w2 base (.slice (some ⟨G, 0, none⟩) m cap) m T := hA.appended hlt (by rw [hbits]; exact hgrow2) (by rw [hbits, en]; exact hkeep2)
          have HB2 := Lib.hid (Below.grown (hbel2.out.alloc hb2 _) hgrow2 (Nat.le_trans hb2 (by simp)) (fun z hz => row_ge HROW.out z hz))
          obtain ⟨G', cap', e1, _, _, _, _, hcells⟩ := hO2.cells (by omega)
          simp only [Value.slice.injEq, Option.some.injEq, Addr.mk.injEq, and_true, true_and] at e1
          obtain ⟨rfl, rfl⟩ := e1
          obtain ⟨_, _, c2'⟩ := hcells i hlt
          rw [hg, en, ec] at c2'
          obtain ⟨p2, cap2, rfl, hform⟩ := ownsRow_slice hown2'
          rcases hform with h0 | ⟨g2, cur, rfl, hbg, hgl, hnc2, hcc2, hh, hs, ht⟩
          · omega
          · obtain ⟨u, hu⟩ : ∃ u, cur[(S i).n]? = some u := ⟨_, Array.getElem?_eq_getElem (show (S i).n < cur.size by omega)⟩
            have dc : w2.cell? ⟨g2, (S i).n, none⟩ = some u := by rw [Joins.cell_of_block hh]; exact hu
            have df : w2.frozen? ⟨g2, (S i).n, none⟩ = false := Joins.unfrozen_of_block hh _
            have hO3 : OwnBms (w2.setCell ⟨g2, (S i).n, none⟩ (.int .u64 (1000 + (i : Int)))) base (.slice (some ⟨G, 0, none⟩) m cap) m T := by
              rcases hloc2 with h1 | h1 | h1
              · exact hO2.beyond hlt (by rw [hbits]; exact h1.symm) _ _ (Nat.le_of_eq en)
              · refine hO2.other (fun h2 => ?_) (fun j hj h2 => ?_) _ _
                · have := (hA.1.lt _ h2).2
                  simp [Value.ownBlock] at h1
                  simp at this
                  omega
                · obtain ⟨gj, _, k2, _, k4, _⟩ := (hA.2.1 j hj).blk
                  rw [k2] at h2
                  cases h2
                  simp [Value.ownBlock] at h1
                  simp at k4
                  omega
              · cases h1
            have HB3 : Hid (Below base w (w2.setCell ⟨g2, (S i).n, none⟩ (.int .u64 (1000 + (i : Int))))) := HB2.out.setCell hbg _
            have HO3 := Lib.hid hO3
            have hltI : ((S i).n : Int) < (((S i).n + 1 : Nat) : Int) := by omega
            clear hO3 hO2 hA hh hs ht hu hown2' hkeep2 hgrow2 hloc2 HB2 hcells hcc2 hnc2 hgl hbg HROW hb2
            go_wp2_with fail
            have HTR := Lib.hid (hsame2.out.trans hsame.out)
            have HEN := Lib.hid en
            go_roundw
            case rel => exact ⟨i + 1, by omega, by go_num, T, HO3, HTR, fun j hj t ht => by
              by_cases e : j = i
              · subst e; exact hov3.out t (by rw [← HEN.out]; exact ht)
              · exact hov2.out j (by omega) t ht, HB3⟩
            case measure => simp [intOf]; omega
    · obtain rfl : m = i := by omega
      have HALL := Lib.hid (fun j (hj : j < m) => hov.out j hj)
      clear hov
      go_wp2_with fail
      generalize wr = wo at *
      go_loopw [6, 7] (fun v _ wx => ∃ i : Nat, i ≤ m ∧ v = .int .i64 i ∧ wx = wo) (fun v _ _ => m - (intOf v).toNat)
      case atStart => exact ⟨0, Nat.zero_le _, rfl, rfl⟩
      case round =>
        obtain ⟨i, hi2, rfl, rfl⟩ := hrel
        by_cases hlt3 : i < m
        · obtain ⟨G, cap', e1, hbG, hGl, hnc, hcc, hcells⟩ := hown.out.cells (by omega)
          simp only [Value.slice.injEq, true_and] at e1
          obtain ⟨rfl, rfl⟩ := e1
          obtain ⟨_, _, c2⟩ := hcells i hlt3
          obtain ⟨g, hg, hbg, hgl, hgc⟩ := (hown.out.2.1 i hlt3).cell
          rw [hg] at c2
          have hnb : (S i).n ≤ 1048576 := by rw [(hsame.out i).2.2.2.1]; exact HN.out i hlt3
          have HGC := Lib.hid hgc
          clear hcells hgc hcc hbg hbG hgl
          go_wp2_with fail
          go_loopw [7] (fun v wx => ∃ k : Nat, k ≤ (S i).n ∧ v = .int .i64 k ∧ wx = wr) (fun v _ => (S i).n - (intOf v).toNat)
          case atStart => exact ⟨0, Nat.zero_le _, rfl, rfl⟩
          case round =>
            obtain ⟨k, hk, rfl, rfl⟩ := hrel
            by_cases hlt4 : k < (S i).n
            · obtain ⟨dc, _⟩ := HGC.out k hlt4
              rw [HALL.out i hlt3 k hlt4, (over_words i (Nat.le_trans hi2 hm)).2] at dc
              go_wp2_with fail
              go_roundw
              case rel => exact ⟨k + 1, by omega, by go_num, by trivial⟩
              case measure => simp [intOf]; omega
            · obtain rfl : k = (S i).n := by omega
              go_wp2_with fail
              go_roundw
              case rel => exact ⟨i + 1, by omega, by go_num, by trivial⟩
              case measure => simp [intOf]; omega
        · obtain rfl : i = m := by omega
          go_wp2_with fail
          go_ret
          exact ⟨rfl, hbel.out⟩
end Go.Proofs.Ytfniekdohidbiaa
