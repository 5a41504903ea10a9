/- The reference's text of chapter 3: the walk. Conditions: the bounds that each theorem names. -/
import Derived.Test.YtgpjpmadbepblaaDoorSm
namespace Go.Proofs.YtgpjpmadbepblaaDoor
open Go.RowKit Go.Bm Go.Pbm Go.Sort

set_option maxHeartbeats 2000000 in
set_option maxRecDepth 100000 in
theorem rtext37_bad (b off cap : Nat) (l : List UInt8) (i W H : Nat) (w : World) (c : UInt8) (hc : l[i]? = some c) (d0 : w.cell? ⟨b, off + i, none⟩ = some (.int .u8 (c.toNat : Int))) (h1 : ¬ isW c.toNat = true) (h2 : ¬ c.toNat = 35) :
    Calls Tryd.prog 37 #[.slice (some ⟨b, off, none⟩) l.length cap, .int .i64 i, .int .i64 W, .int .i64 H] w (RdOutR w (.inl 30)) := by
  have hi := (List.getElem?_eq_some_iff.1 hc).1
  obtain ⟨n, hn⟩ : ∃ n, l.length = n := ⟨_, rfl⟩
  rw [hn] at hi ⊢
  obtain ⟨x, hx⟩ : ∃ x, c.toNat = x := ⟨_, rfl⟩
  rw [hx] at d0 h1 h2
  have HW : Hid (isW x = false) := by show _ = _; simpa using h1
  have h3 : ((x : Int) != 35) = true := by simp; omega
  have hiI : (i : Int) < (n : Int) := by omega
  clear hn hx hc h1 h2 c
  have d1 := (((Below.refl w.heap.size w).alloc (Nat.le_refl _) (.cells #[.int .i64 0, .int .i64 0, .slice none 0 0] 25)).cell (p := ⟨b, off + i, none⟩) (World.block_lt_of_cell? w _ d0)).trans d0
  clear d0
  go_enter Tryd.func37, Tryd.ntmps37
  go_wp2_with (go_at_call 51; refine (rwhite51 x false HW.out _).mono ?_; rintro e w2 ⟨rfl, rfl⟩)
  exact bodyPost_ret (v := .tuple #[.agg #[.int .i64 0, .int .i64 0, .slice none 0 0], .int .i64 30]) (by simp [results, Tryd.results37, go_sem]) rfl ⟨(Below.refl _ _).alloc (Nat.le_refl _) _, rfl⟩

set_option maxHeartbeats 4000000 in
set_option maxRecDepth 100000 in
theorem rtext37_go (b off cap : Nat) (l : List UInt8) (i W H : Nat) (w : World) (hk : ∀ (u : Nat) (c : UInt8), l[u]? = some c → w.cell? ⟨b, off + u, none⟩ = some (.int .u8 (c.toNat : Int))) (hl : l.length ≤ 100000000000000) (hi : i ≤ l.length) (hS : okS W H)
    (hh : l.length ≤ i ∨ ∃ c : UInt8, l[i]? = some c ∧ (isW c.toNat = true ∨ c.toNat = 35)) :
    Calls Tryd.prog 37 #[.slice (some ⟨b, off, none⟩) l.length cap, .int .i64 i, .int .i64 W, .int .i64 H] w (RdOutR w (liftS W H (endP (pixP (W * H) (l.drop i))))) := by
  have hs := okS_le hS
  have hW : W ≤ 1048576 := by omega
  have hH : H ≤ 1048576 := by omega
  have hok : okB W H (H * wd W) (fun _ => 0) := ⟨hS, by simp, fun _ _ => Or.inr (by simp)⟩
  have htot : W * H ≤ 1048576 := by have := hS.2.2; rw [← Int.natCast_mul] at this; omega
  have HNN : Hid (H * wd W ≤ 9223372036854775807) := by
    have h1 : H * wd W ≤ 1048576 * 16384 := Nat.mul_le_mul hH (wd_le hW)
    show _ ≤ _; omega
  have HP0 := Lib.hid (PixOk.white hok)
  have HK := Lib.hid hk
  have HL := Lib.hid hl
  clear hk hok hs hS
  obtain ⟨tot, ht⟩ : ∃ tot, W * H = tot := ⟨_, rfl⟩
  have HT := Lib.hid ht
  obtain ⟨R, hR⟩ : ∃ R, pixP tot (l.drop i) = R := ⟨_, rfl⟩
  rw [ht, hR]
  rw [ht] at htot
  have HRR := Lib.hid hR
  obtain ⟨n, hn⟩ : ∃ n, l.length = n := ⟨_, rfl⟩
  have HN := Lib.hid hn
  have hcase : n ≤ i ∨ (∃ x : Nat, i < n ∧ isW x = true ∧ w.cell? ⟨b, off + i, none⟩ = some (.int .u8 (x : Int))) ∨ (i < n ∧ w.cell? ⟨b, off + i, none⟩ = some (.int .u8 (35 : Int))) := by
    rcases hh with h | ⟨c, hc, h | h⟩
    · exact Or.inl (by omega)
    · have := (List.getElem?_eq_some_iff.1 hc).1
      exact Or.inr (Or.inl ⟨c.toNat, by omega, h, HK.out i c hc⟩)
    · have := (List.getElem?_eq_some_iff.1 hc).1
      have h5 := HK.out i c hc
      rw [h] at h5
      exact Or.inr (Or.inr ⟨by omega, h5⟩)
  rw [hn] at hl hi ⊢
  clear hh ht hR hn
  have HB1 : Hid (∀ o v, w.cell? ⟨b, o, none⟩ = some v → (w.alloc (.cells #[.int .i64 0, .int .i64 0, .slice none 0 0] 25)).cell? ⟨b, o, none⟩ = some v) := fun o v hv => (((Below.refl w.heap.size w).alloc (Nat.le_refl _) (.cells #[.int .i64 0, .int .i64 0, .slice none 0 0] 25)).cell (p := ⟨b, o, none⟩) (World.block_lt_of_cell? w _ hv)).trans hv
  have HPP : Hid (w.heap.size + 1 = (w.alloc (.cells #[.int .i64 0, .int .i64 0, .slice none 0 0] 25)).heap.size) := by show _ = _; simp
  rcases hcase with h | ⟨x, h, hx, d0⟩ | ⟨h, d0⟩
  · have hiI : ¬ (i : Int) < (n : Int) := by omega
    clear h
    go_enter Tryd.func37, Tryd.ntmps37
    go_upto_region 3 with fail
    all_goals
      go_wp2_with (go_at_call 52; refine (white_at W H _ hW hH (w.heap.size + 1) HPP.out).mono ?_; rintro e w3 ⟨g, rfl, hown, hg, hb⟩; have HRW := Lib.hid (RW.new hb hown hg (by have h1 := hb.size; rw [← HPP.out] at h1; exact h1)); clear hown hg hb)
      obtain ⟨p, hp⟩ : ∃ p, w.heap.size = p := ⟨_, rfl⟩
      obtain ⟨q, hq⟩ : ∃ q, w3.heap.size = q := ⟨_, rfl⟩
      rw [hp, hq] at HRW
      rw [hp, hq]
      clear hp hq HPP HB1 hiI
      generalize w3.alloc (.cells #[.int .i64 (W : Int), .int .i64 (H : Int), .slice (some ⟨g, 0, none⟩) (H * wd W) (H * wd W)] 25) = w4 at *
      clear w3
      go_loopw [1, 11] (fun t s wr => ∃ (u y : Nat) (qs : List Bool) (C : Nat → Nat), t = .int .i64 u ∧ s = .int .i64 y ∧ u ≤ n ∧ y ≤ H ∧ Hid (qs.length = y * W) ∧ Hid (joinP qs (pixP (tot - y * W) (l.drop u)) = R) ∧ Hid (RW w wr p q g W H C) ∧ Hid (PixOk W H (H * wd W) qs C)) (fun _ s _ => H - (intOf s).toNat)
      case atStart => exact ⟨i, 0, [], fun _ => 0, rfl, rfl, hi, Nat.zero_le _, by show _ = _; simp, by show _ = _; rw [joinP_nil, Nat.zero_mul]; exact HRR.out, HRW, HP0⟩
      case round =>
        clear HRW HP0 HRR
        obtain ⟨u, y, qs, C, rfl, rfl, hu, hy, hql, hj, hr, hpx⟩ := hrel
        by_cases hyH : y < H
        · have hyI : (y : Int) < (H : Int) := by omega
          go_wp2_with fail
          go_loopw [1, 12] (fun t s wr => ∃ (u x : Nat) (qs : List Bool) (C : Nat → Nat), t = .int .i64 u ∧ s = .int .i64 x ∧ u ≤ n ∧ x ≤ W ∧ Hid (qs.length = y * W + x) ∧ Hid (joinP qs (pixP (tot - (y * W + x)) (l.drop u)) = R) ∧ Hid (RW w wr p q g W H C) ∧ Hid (PixOk W H (H * wd W) qs C)) (fun _ s _ => W - (intOf s).toNat)
          case atStart => exact ⟨u, 0, qs, C, rfl, rfl, hu, Nat.zero_le _, hql, hj, hr, hpx⟩
          case round =>
            clear hql hj hr hpx hu C qs
            obtain ⟨v, x, qs, C, rfl, rfl, hu, hx, hql, hj, hr, hpx⟩ := hrel
            by_cases hxW : x < W
            · have hxI : (x : Int) < (W : Int) := by omega
              have hyx : y * W + x < tot := by
                have h1 : (y + 1) * W ≤ H * W := Nat.mul_le_mul_right W (by omega)
                rw [Nat.add_mul, Nat.one_mul, Nat.mul_comm H W, HT.out] at h1
                omega
              obtain ⟨k1, hk1⟩ : ∃ k1, tot - (y * W + x) = k1 + 1 := ⟨tot - (y * W + x) - 1, by omega⟩
              have HK1 : Hid (tot - (y * W + x) = k1 + 1 ∧ tot - (y * W + (x + 1)) = k1) := ⟨hk1, by omega⟩
              have hj2 := hj.out
              rw [hk1] at hj2
              have HJ := Lib.hid hj2
              clear hk1 hj2 hj hyx
              obtain ⟨z, hz⟩ : ∃ z, pasAt false l v = z := ⟨_, rfl⟩
              have HZ := Lib.hid hz
              have hle : z ≤ n := by rw [← hz, ← HN.out]; exact (pasAt_ge false l (by rw [HN.out]; exact hu)).2
              have HDR : Hid (l.drop z = pas false (l.drop v)) := by show _ = _; rw [← hz]; exact pasAt_drop false l (by rw [HN.out]; exact hu)
              clear hz
              go_upto_region 11 with (go_at_call 49; refine (rpassed49n b off cap l n v z _ HN.out (fun o c hc => hr.out.old (HK.out o c hc)) HL.out (by rw [HN.out]; exact hu) HZ.out).mono ?_; rintro e w5 ⟨rfl, rfl⟩)
              by_cases hzn : z < n
              · obtain ⟨c, hc⟩ : ∃ c, l[z]? = some c := ⟨_, List.getElem?_eq_getElem (by rw [HN.out]; exact hzn)⟩
                have hcons : pas false (l.drop v) = c :: l.drop (z + 1) := by rw [← HDR.out]; exact drop_at hc
                have d00 := HK.out z c hc
                obtain ⟨ch, hch⟩ : ∃ ch, c.toNat = ch := ⟨_, rfl⟩
                rw [hch] at d00
                have HD0 := Lib.hid d00
                have d0 := hr.out.old d00
                clear d00
                have HC : Hid (c.toNat = ch ∧ pas false (l.drop v) = c :: l.drop (z + 1)) := ⟨hch, hcons⟩
                have hzI : ¬ (n : Int) ≤ (z : Int) := by omega
                have hzI2 : (z : Int) < (n : Int) := by omega
                clear hc hcons hch
                by_cases hd : ch = 48 ∨ ch = 49
                · have HJ2 : Hid (joinP (qs ++ [decide (ch = 49)]) (pixP k1 (l.drop (z + 1))) = R) := by
                    have h3 := HJ.out
                    rw [pixP_good HC.out.2 (by rw [HC.out.1]; exact hd), HC.out.1] at h3
                    exact h3
                  obtain ⟨bit, hbit⟩ : ∃ bit, ch - 48 = bit := ⟨_, rfl⟩
                  have hb1 : bit ≤ 1 := by omega
                  have HBIT : Hid (bit = if decide (ch = 49) = true then 1 else 0) := by
                    show _ = _
                    rcases hd with h | h
                    · subst h; subst hbit; rfl
                    · subst h; subst hbit; rfl
                  have hw1 : IntKind.u8.wrap ((ch : Int) - 48) = (bit : Int) := by
                    rcases hd with h | h
                    · subst h; subst hbit; rfl
                    · subst h; subst hbit; rfl
                  have hw2 : IntKind.i64.wrap (bit : Int) = (bit : Int) := IntWalk.i64_in _ (by omega)
                  have HCH : Hid (48 ≤ (ch : Int) ∧ (ch : Int) ≤ 49) := ⟨by omega, by omega⟩
                  have c0 := hr.out.cells.1
                  have c1 := hr.out.cells.2.1
                  have c2 := hr.out.cells.2.2
                  by_cases h48 : ch = 48
                  all_goals
                    first
                    | (have hd1 : ((ch : Int) != 48) = false := by simp; omega)
                    | (have hd1 : ((ch : Int) != 48) = true := by simp; omega
                       have hd2 : ((ch : Int) != 49) = false := by simp; omega)
                    clear h48 hd hbit
                    go_upto_region 15 with fail
                    go_region_held3 (fun w' => w'.cell? ⟨q, 0, none⟩ = some (.int .i64 (W : Int)) ∧ w'.cell? ⟨q, 1, none⟩ = some (.int .i64 (H : Int)) ∧ w'.cell? ⟨q, 2, none⟩ = some (.slice (some ⟨g, 0, none⟩) (H * wd W) (H * wd W)) ∧ w'.cell? ⟨b, off + z, none⟩ = some (.int .u8 (ch : Int))) (go_keep)
                      ((first
                        | (go_at_call 53; refine (put0 W H g (H * wd W) (H * wd W) C x y bit _ hW hH rfl ?_ hxW hyH hb1).mono ?_; exact hr.out.own; rintro e w5 ⟨rfl, hown5, hgr⟩; have HR5 := Lib.hid (hr.out.step ((grown_drewN wr _ (some g)).trans hgr) hown5); have c0 := HR5.out.cells.1; have c1 := HR5.out.cells.2.1; have c2 := HR5.out.cells.2.2; have d0 := HR5.out.old HD0.out; clear hown5 hgr)))
                    go_wp2_with fail
                    go_roundw
                    case rel => exact ⟨z + 1, x + 1, qs ++ [decide (ch = 49)], setB C W x y bit, by go_num, by go_num, by omega, by omega, by show _ = _; rw [List.length_append, hql.out]; rfl, by show _ = _; rw [HK1.out.2]; exact HJ2.out, HR5.out, PixOk.put hpx.out hxW hql.out HBIT.out⟩
                    case measure => simp [intOf]; omega
                · have hd1 : ((ch : Int) != 48) = true := by simp; omega
                  have hd2 : ((ch : Int) != 49) = true := by simp; omega
                  have HRE : Hid (R = .inl 30) := by
                    have h3 := HJ.out
                    rw [pixP_bad HC.out.2 (by rw [HC.out.1]; exact hd)] at h3
                    exact h3.symm
                  clear hd
                  have f0 := Joins.cell_of_block hr.out.b0 0; have f1 := Joins.cell_of_block hr.out.b0 1; have f2 := Joins.cell_of_block hr.out.b0 2; have y0 := Joins.unfrozen_of_block hr.out.b0 0; have y1 := Joins.unfrozen_of_block hr.out.b0 1; have y2 := Joins.unfrozen_of_block hr.out.b0 2
                  go_wp2_with fail
                  obtain ⟨t0, t1, t2, t3⟩ := rend_fault (code := 30) hr.out.hp hr.out.bel hr.out.b0
                  rw [HRE.out]
                  exact bodyPost_ret (v := .tuple #[.agg #[.int .i64 0, .int .i64 0, .slice none 0 0], .int .i64 30]) (by simp [results, Tryd.results37, go_sem, t0, t1, t2]) rfl t3
              · have HRE : Hid (R = .inl 32) := by
                  have h3 := HJ.out
                  rw [pixP_end (by rw [← HDR.out]; exact List.drop_eq_nil_of_le (by rw [HN.out]; omega))] at h3
                  exact h3.symm
                have hzI : (n : Int) ≤ (z : Int) := by omega
                clear hzn
                have f0 := Joins.cell_of_block hr.out.b0 0; have f1 := Joins.cell_of_block hr.out.b0 1; have f2 := Joins.cell_of_block hr.out.b0 2; have y0 := Joins.unfrozen_of_block hr.out.b0 0; have y1 := Joins.unfrozen_of_block hr.out.b0 1; have y2 := Joins.unfrozen_of_block hr.out.b0 2
                go_wp2_with fail
                obtain ⟨t0, t1, t2, t3⟩ := rend_fault (code := 32) hr.out.hp hr.out.bel hr.out.b0
                rw [HRE.out]
                exact bodyPost_ret (v := .tuple #[.agg #[.int .i64 0, .int .i64 0, .slice none 0 0], .int .i64 32]) (by simp [results, Tryd.results37, go_sem, t0, t1, t2]) rfl t3
            · have hxI : ¬ (x : Int) < (W : Int) := by omega
              have hyx : y * W + x = (y + 1) * W := by rw [Nat.add_mul, Nat.one_mul]; omega
              rw [hyx] at hql hj
              clear hxW
              go_wp2_with fail
              go_roundw
              case rel => exact ⟨v, y + 1, qs, C, rfl, by go_num, hu, by omega, hql, hj, hr, hpx⟩
              case measure => simp [intOf]; omega
        · obtain rfl : y = H := by omega
          have HRE : Hid (R = .inr (qs, l.drop u)) := by
            have h3 := hj.out
            rw [show tot - y * W = 0 by rw [Nat.mul_comm, HT.out, Nat.sub_self]] at h3
            rw [← h3]
            show Sum.inr _ = Sum.inr _
            rw [List.append_nil]
          obtain ⟨z, hz⟩ : ∃ z, pasAt false l u = z := ⟨_, rfl⟩
          have HZ := Lib.hid hz
          have hle : z ≤ n := by rw [← hz, ← HN.out]; exact (pasAt_ge false l (by rw [HN.out]; exact hu)).2
          have HDR : Hid (l.drop z = pas false (l.drop u)) := by show _ = _; rw [← hz]; exact pasAt_drop false l (by rw [HN.out]; exact hu)
          clear hz hyH hj
          by_cases hzn : z < n
          · have hzI : (z : Int) < (n : Int) := by omega
            have HNE : Hid (¬ pas false (l.drop u) = []) := by show ¬ _; rw [← HDR.out]; intro h; have h1 := congrArg List.length h; rw [List.length_drop, HN.out] at h1; simp at h1; omega
            clear hzn
            have f0 := Joins.cell_of_block hr.out.b0 0; have f1 := Joins.cell_of_block hr.out.b0 1; have f2 := Joins.cell_of_block hr.out.b0 2; have y0 := Joins.unfrozen_of_block hr.out.b0 0; have y1 := Joins.unfrozen_of_block hr.out.b0 1; have y2 := Joins.unfrozen_of_block hr.out.b0 2
            go_wp2_with (go_at_call 49; refine (rpassed49n b off cap l n u z _ HN.out (fun o c hc => hr.out.old (HK.out o c hc)) HL.out (by rw [HN.out]; exact hu) HZ.out).mono ?_; rintro e w5 ⟨rfl, rfl⟩)
            obtain ⟨t0, t1, t2, t3⟩ := rend_fault (code := 33) hr.out.hp hr.out.bel hr.out.b0
            rw [HRE.out, show endP (Sum.inr (qs, l.drop u)) = .inl 33 from if_neg HNE.out]
            exact bodyPost_ret (v := .tuple #[.agg #[.int .i64 0, .int .i64 0, .slice none 0 0], .int .i64 33]) (by simp [results, Tryd.results37, go_sem, t0, t1, t2]) rfl t3
          · have hzI : ¬ (z : Int) < (n : Int) := by omega
            have HNE : Hid (pas false (l.drop u) = []) := by show _ = _; rw [← HDR.out]; exact List.drop_eq_nil_of_le (by rw [HN.out]; omega)
            clear hzn
            have f0 := Joins.cell_of_block hr.out.b0 0; have f1 := Joins.cell_of_block hr.out.b0 1; have f2 := Joins.cell_of_block hr.out.b0 2; have y0 := Joins.unfrozen_of_block hr.out.b0 0; have y1 := Joins.unfrozen_of_block hr.out.b0 1; have y2 := Joins.unfrozen_of_block hr.out.b0 2
            have c0 := hr.out.cells.1
            have c1 := hr.out.cells.2.1
            have c2 := hr.out.cells.2.2
            go_wp2_with (go_at_call 49; refine (rpassed49n b off cap l n u z _ HN.out (fun o c hc => hr.out.old (HK.out o c hc)) HL.out (by rw [HN.out]; exact hu) HZ.out).mono ?_; rintro e w5 ⟨rfl, rfl⟩)
            obtain ⟨t0, t1, t2, t3⟩ := hr.out.good hpx.out
            rw [HRE.out, show endP (Sum.inr (qs, l.drop u)) = .inr qs from if_pos HNE.out]
            exact bodyPost_ret (v := .tuple #[.agg #[.int .i64 W, .int .i64 y, .slice (some ⟨g, 0, none⟩) (y * wd W) (y * wd W)], .int .i64 0]) (by simp [results, Tryd.results37, go_sem, t0, t1, t2]) rfl t3
  · have hiI : (i : Int) < (n : Int) := by omega
    have d1 := HB1.out _ _ d0
    have HX := Lib.hid hx
    clear h d0 hx
    go_enter Tryd.func37, Tryd.ntmps37
    go_upto_region 3 with (go_at_call 51; refine (rwhite51 x true HX.out _).mono ?_; rintro e w2 ⟨rfl, rfl⟩)
    clear d1 HX
    all_goals
      go_wp2_with (go_at_call 52; refine (white_at W H _ hW hH (w.heap.size + 1) HPP.out).mono ?_; rintro e w3 ⟨g, rfl, hown, hg, hb⟩; have HRW := Lib.hid (RW.new hb hown hg (by have h1 := hb.size; rw [← HPP.out] at h1; exact h1)); clear hown hg hb)
      obtain ⟨p, hp⟩ : ∃ p, w.heap.size = p := ⟨_, rfl⟩
      obtain ⟨q, hq⟩ : ∃ q, w3.heap.size = q := ⟨_, rfl⟩
      rw [hp, hq] at HRW
      rw [hp, hq]
      clear hp hq HPP HB1 hiI
      generalize w3.alloc (.cells #[.int .i64 (W : Int), .int .i64 (H : Int), .slice (some ⟨g, 0, none⟩) (H * wd W) (H * wd W)] 25) = w4 at *
      clear w3
      go_loopw [1, 11] (fun t s wr => ∃ (u y : Nat) (qs : List Bool) (C : Nat → Nat), t = .int .i64 u ∧ s = .int .i64 y ∧ u ≤ n ∧ y ≤ H ∧ Hid (qs.length = y * W) ∧ Hid (joinP qs (pixP (tot - y * W) (l.drop u)) = R) ∧ Hid (RW w wr p q g W H C) ∧ Hid (PixOk W H (H * wd W) qs C)) (fun _ s _ => H - (intOf s).toNat)
      case atStart => exact ⟨i, 0, [], fun _ => 0, rfl, rfl, hi, Nat.zero_le _, by show _ = _; simp, by show _ = _; rw [joinP_nil, Nat.zero_mul]; exact HRR.out, HRW, HP0⟩
      case round =>
        clear HRW HP0 HRR
        obtain ⟨u, y, qs, C, rfl, rfl, hu, hy, hql, hj, hr, hpx⟩ := hrel
        by_cases hyH : y < H
        · have hyI : (y : Int) < (H : Int) := by omega
          go_wp2_with fail
          go_loopw [1, 12] (fun t s wr => ∃ (u x : Nat) (qs : List Bool) (C : Nat → Nat), t = .int .i64 u ∧ s = .int .i64 x ∧ u ≤ n ∧ x ≤ W ∧ Hid (qs.length = y * W + x) ∧ Hid (joinP qs (pixP (tot - (y * W + x)) (l.drop u)) = R) ∧ Hid (RW w wr p q g W H C) ∧ Hid (PixOk W H (H * wd W) qs C)) (fun _ s _ => W - (intOf s).toNat)
          case atStart => exact ⟨u, 0, qs, C, rfl, rfl, hu, Nat.zero_le _, hql, hj, hr, hpx⟩
          case round =>
            clear hql hj hr hpx hu C qs
            obtain ⟨v, x, qs, C, rfl, rfl, hu, hx, hql, hj, hr, hpx⟩ := hrel
            by_cases hxW : x < W
            · have hxI : (x : Int) < (W : Int) := by omega
              have hyx : y * W + x < tot := by
                have h1 : (y + 1) * W ≤ H * W := Nat.mul_le_mul_right W (by omega)
                rw [Nat.add_mul, Nat.one_mul, Nat.mul_comm H W, HT.out] at h1
                omega
              obtain ⟨k1, hk1⟩ : ∃ k1, tot - (y * W + x) = k1 + 1 := ⟨tot - (y * W + x) - 1, by omega⟩
              have HK1 : Hid (tot - (y * W + x) = k1 + 1 ∧ tot - (y * W + (x + 1)) = k1) := ⟨hk1, by omega⟩
              have hj2 := hj.out
              rw [hk1] at hj2
              have HJ := Lib.hid hj2
              clear hk1 hj2 hj hyx
              obtain ⟨z, hz⟩ : ∃ z, pasAt false l v = z := ⟨_, rfl⟩
              have HZ := Lib.hid hz
              have hle : z ≤ n := by rw [← hz, ← HN.out]; exact (pasAt_ge false l (by rw [HN.out]; exact hu)).2
              have HDR : Hid (l.drop z = pas false (l.drop v)) := by show _ = _; rw [← hz]; exact pasAt_drop false l (by rw [HN.out]; exact hu)
              clear hz
              go_upto_region 11 with (go_at_call 49; refine (rpassed49n b off cap l n v z _ HN.out (fun o c hc => hr.out.old (HK.out o c hc)) HL.out (by rw [HN.out]; exact hu) HZ.out).mono ?_; rintro e w5 ⟨rfl, rfl⟩)
              by_cases hzn : z < n
              · obtain ⟨c, hc⟩ : ∃ c, l[z]? = some c := ⟨_, List.getElem?_eq_getElem (by rw [HN.out]; exact hzn)⟩
                have hcons : pas false (l.drop v) = c :: l.drop (z + 1) := by rw [← HDR.out]; exact drop_at hc
                have d00 := HK.out z c hc
                obtain ⟨ch, hch⟩ : ∃ ch, c.toNat = ch := ⟨_, rfl⟩
                rw [hch] at d00
                have HD0 := Lib.hid d00
                have d0 := hr.out.old d00
                clear d00
                have HC : Hid (c.toNat = ch ∧ pas false (l.drop v) = c :: l.drop (z + 1)) := ⟨hch, hcons⟩
                have hzI : ¬ (n : Int) ≤ (z : Int) := by omega
                have hzI2 : (z : Int) < (n : Int) := by omega
                clear hc hcons hch
                by_cases hd : ch = 48 ∨ ch = 49
                · have HJ2 : Hid (joinP (qs ++ [decide (ch = 49)]) (pixP k1 (l.drop (z + 1))) = R) := by
                    have h3 := HJ.out
                    rw [pixP_good HC.out.2 (by rw [HC.out.1]; exact hd), HC.out.1] at h3
                    exact h3
                  obtain ⟨bit, hbit⟩ : ∃ bit, ch - 48 = bit := ⟨_, rfl⟩
                  have hb1 : bit ≤ 1 := by omega
                  have HBIT : Hid (bit = if decide (ch = 49) = true then 1 else 0) := by
                    show _ = _
                    rcases hd with h | h
                    · subst h; subst hbit; rfl
                    · subst h; subst hbit; rfl
                  have hw1 : IntKind.u8.wrap ((ch : Int) - 48) = (bit : Int) := by
                    rcases hd with h | h
                    · subst h; subst hbit; rfl
                    · subst h; subst hbit; rfl
                  have hw2 : IntKind.i64.wrap (bit : Int) = (bit : Int) := IntWalk.i64_in _ (by omega)
                  have HCH : Hid (48 ≤ (ch : Int) ∧ (ch : Int) ≤ 49) := ⟨by omega, by omega⟩
                  have c0 := hr.out.cells.1
                  have c1 := hr.out.cells.2.1
                  have c2 := hr.out.cells.2.2
                  by_cases h48 : ch = 48
                  all_goals
                    first
                    | (have hd1 : ((ch : Int) != 48) = false := by simp; omega)
                    | (have hd1 : ((ch : Int) != 48) = true := by simp; omega
                       have hd2 : ((ch : Int) != 49) = false := by simp; omega)
                    clear h48 hd hbit
                    go_upto_region 15 with fail
                    go_region_held3 (fun w' => w'.cell? ⟨q, 0, none⟩ = some (.int .i64 (W : Int)) ∧ w'.cell? ⟨q, 1, none⟩ = some (.int .i64 (H : Int)) ∧ w'.cell? ⟨q, 2, none⟩ = some (.slice (some ⟨g, 0, none⟩) (H * wd W) (H * wd W)) ∧ w'.cell? ⟨b, off + z, none⟩ = some (.int .u8 (ch : Int))) (go_keep)
                      ((first
                        | (go_at_call 53; refine (put0 W H g (H * wd W) (H * wd W) C x y bit _ hW hH rfl ?_ hxW hyH hb1).mono ?_; exact hr.out.own; rintro e w5 ⟨rfl, hown5, hgr⟩; have HR5 := Lib.hid (hr.out.step ((grown_drewN wr _ (some g)).trans hgr) hown5); have c0 := HR5.out.cells.1; have c1 := HR5.out.cells.2.1; have c2 := HR5.out.cells.2.2; have d0 := HR5.out.old HD0.out; clear hown5 hgr)))
                    go_wp2_with fail
                    go_roundw
                    case rel => exact ⟨z + 1, x + 1, qs ++ [decide (ch = 49)], setB C W x y bit, by go_num, by go_num, by omega, by omega, by show _ = _; rw [List.length_append, hql.out]; rfl, by show _ = _; rw [HK1.out.2]; exact HJ2.out, HR5.out, PixOk.put hpx.out hxW hql.out HBIT.out⟩
                    case measure => simp [intOf]; omega
                · have hd1 : ((ch : Int) != 48) = true := by simp; omega
                  have hd2 : ((ch : Int) != 49) = true := by simp; omega
                  have HRE : Hid (R = .inl 30) := by
                    have h3 := HJ.out
                    rw [pixP_bad HC.out.2 (by rw [HC.out.1]; exact hd)] at h3
                    exact h3.symm
                  clear hd
                  have f0 := Joins.cell_of_block hr.out.b0 0; have f1 := Joins.cell_of_block hr.out.b0 1; have f2 := Joins.cell_of_block hr.out.b0 2; have y0 := Joins.unfrozen_of_block hr.out.b0 0; have y1 := Joins.unfrozen_of_block hr.out.b0 1; have y2 := Joins.unfrozen_of_block hr.out.b0 2
                  go_wp2_with fail
                  obtain ⟨t0, t1, t2, t3⟩ := rend_fault (code := 30) hr.out.hp hr.out.bel hr.out.b0
                  rw [HRE.out]
                  exact bodyPost_ret (v := .tuple #[.agg #[.int .i64 0, .int .i64 0, .slice none 0 0], .int .i64 30]) (by simp [results, Tryd.results37, go_sem, t0, t1, t2]) rfl t3
              · have HRE : Hid (R = .inl 32) := by
                  have h3 := HJ.out
                  rw [pixP_end (by rw [← HDR.out]; exact List.drop_eq_nil_of_le (by rw [HN.out]; omega))] at h3
                  exact h3.symm
                have hzI : (n : Int) ≤ (z : Int) := by omega
                clear hzn
                have f0 := Joins.cell_of_block hr.out.b0 0; have f1 := Joins.cell_of_block hr.out.b0 1; have f2 := Joins.cell_of_block hr.out.b0 2; have y0 := Joins.unfrozen_of_block hr.out.b0 0; have y1 := Joins.unfrozen_of_block hr.out.b0 1; have y2 := Joins.unfrozen_of_block hr.out.b0 2
                go_wp2_with fail
                obtain ⟨t0, t1, t2, t3⟩ := rend_fault (code := 32) hr.out.hp hr.out.bel hr.out.b0
                rw [HRE.out]
                exact bodyPost_ret (v := .tuple #[.agg #[.int .i64 0, .int .i64 0, .slice none 0 0], .int .i64 32]) (by simp [results, Tryd.results37, go_sem, t0, t1, t2]) rfl t3
            · have hxI : ¬ (x : Int) < (W : Int) := by omega
              have hyx : y * W + x = (y + 1) * W := by rw [Nat.add_mul, Nat.one_mul]; omega
              rw [hyx] at hql hj
              clear hxW
              go_wp2_with fail
              go_roundw
              case rel => exact ⟨v, y + 1, qs, C, rfl, by go_num, hu, by omega, hql, hj, hr, hpx⟩
              case measure => simp [intOf]; omega
        · obtain rfl : y = H := by omega
          have HRE : Hid (R = .inr (qs, l.drop u)) := by
            have h3 := hj.out
            rw [show tot - y * W = 0 by rw [Nat.mul_comm, HT.out, Nat.sub_self]] at h3
            rw [← h3]
            show Sum.inr _ = Sum.inr _
            rw [List.append_nil]
          obtain ⟨z, hz⟩ : ∃ z, pasAt false l u = z := ⟨_, rfl⟩
          have HZ := Lib.hid hz
          have hle : z ≤ n := by rw [← hz, ← HN.out]; exact (pasAt_ge false l (by rw [HN.out]; exact hu)).2
          have HDR : Hid (l.drop z = pas false (l.drop u)) := by show _ = _; rw [← hz]; exact pasAt_drop false l (by rw [HN.out]; exact hu)
          clear hz hyH hj
          by_cases hzn : z < n
          · have hzI : (z : Int) < (n : Int) := by omega
            have HNE : Hid (¬ pas false (l.drop u) = []) := by show ¬ _; rw [← HDR.out]; intro h; have h1 := congrArg List.length h; rw [List.length_drop, HN.out] at h1; simp at h1; omega
            clear hzn
            have f0 := Joins.cell_of_block hr.out.b0 0; have f1 := Joins.cell_of_block hr.out.b0 1; have f2 := Joins.cell_of_block hr.out.b0 2; have y0 := Joins.unfrozen_of_block hr.out.b0 0; have y1 := Joins.unfrozen_of_block hr.out.b0 1; have y2 := Joins.unfrozen_of_block hr.out.b0 2
            go_wp2_with (go_at_call 49; refine (rpassed49n b off cap l n u z _ HN.out (fun o c hc => hr.out.old (HK.out o c hc)) HL.out (by rw [HN.out]; exact hu) HZ.out).mono ?_; rintro e w5 ⟨rfl, rfl⟩)
            obtain ⟨t0, t1, t2, t3⟩ := rend_fault (code := 33) hr.out.hp hr.out.bel hr.out.b0
            rw [HRE.out, show endP (Sum.inr (qs, l.drop u)) = .inl 33 from if_neg HNE.out]
            exact bodyPost_ret (v := .tuple #[.agg #[.int .i64 0, .int .i64 0, .slice none 0 0], .int .i64 33]) (by simp [results, Tryd.results37, go_sem, t0, t1, t2]) rfl t3
          · have hzI : ¬ (z : Int) < (n : Int) := by omega
            have HNE : Hid (pas false (l.drop u) = []) := by show _ = _; rw [← HDR.out]; exact List.drop_eq_nil_of_le (by rw [HN.out]; omega)
            clear hzn
            have f0 := Joins.cell_of_block hr.out.b0 0; have f1 := Joins.cell_of_block hr.out.b0 1; have f2 := Joins.cell_of_block hr.out.b0 2; have y0 := Joins.unfrozen_of_block hr.out.b0 0; have y1 := Joins.unfrozen_of_block hr.out.b0 1; have y2 := Joins.unfrozen_of_block hr.out.b0 2
            have c0 := hr.out.cells.1
            have c1 := hr.out.cells.2.1
            have c2 := hr.out.cells.2.2
            go_wp2_with (go_at_call 49; refine (rpassed49n b off cap l n u z _ HN.out (fun o c hc => hr.out.old (HK.out o c hc)) HL.out (by rw [HN.out]; exact hu) HZ.out).mono ?_; rintro e w5 ⟨rfl, rfl⟩)
            obtain ⟨t0, t1, t2, t3⟩ := hr.out.good hpx.out
            rw [HRE.out, show endP (Sum.inr (qs, l.drop u)) = .inr qs from if_pos HNE.out]
            exact bodyPost_ret (v := .tuple #[.agg #[.int .i64 W, .int .i64 y, .slice (some ⟨g, 0, none⟩) (y * wd W) (y * wd W)], .int .i64 0]) (by simp [results, Tryd.results37, go_sem, t0, t1, t2]) rfl t3
  · have hiI : (i : Int) < (n : Int) := by omega
    have d1 := HB1.out _ _ d0
    clear h d0
    go_enter Tryd.func37, Tryd.ntmps37
    go_upto_region 3 with (go_at_call 51; refine (rwhite51 35 false (by decide) _).mono ?_; rintro e w2 ⟨rfl, rfl⟩)
    clear d1
    all_goals
      go_wp2_with (go_at_call 52; refine (white_at W H _ hW hH (w.heap.size + 1) HPP.out).mono ?_; rintro e w3 ⟨g, rfl, hown, hg, hb⟩; have HRW := Lib.hid (RW.new hb hown hg (by have h1 := hb.size; rw [← HPP.out] at h1; exact h1)); clear hown hg hb)
      obtain ⟨p, hp⟩ : ∃ p, w.heap.size = p := ⟨_, rfl⟩
      obtain ⟨q, hq⟩ : ∃ q, w3.heap.size = q := ⟨_, rfl⟩
      rw [hp, hq] at HRW
      rw [hp, hq]
      clear hp hq HPP HB1 hiI
      generalize w3.alloc (.cells #[.int .i64 (W : Int), .int .i64 (H : Int), .slice (some ⟨g, 0, none⟩) (H * wd W) (H * wd W)] 25) = w4 at *
      clear w3
      go_loopw [1, 11] (fun t s wr => ∃ (u y : Nat) (qs : List Bool) (C : Nat → Nat), t = .int .i64 u ∧ s = .int .i64 y ∧ u ≤ n ∧ y ≤ H ∧ Hid (qs.length = y * W) ∧ Hid (joinP qs (pixP (tot - y * W) (l.drop u)) = R) ∧ Hid (RW w wr p q g W H C) ∧ Hid (PixOk W H (H * wd W) qs C)) (fun _ s _ => H - (intOf s).toNat)
      case atStart => exact ⟨i, 0, [], fun _ => 0, rfl, rfl, hi, Nat.zero_le _, by show _ = _; simp, by show _ = _; rw [joinP_nil, Nat.zero_mul]; exact HRR.out, HRW, HP0⟩
      case round =>
        clear HRW HP0 HRR
        obtain ⟨u, y, qs, C, rfl, rfl, hu, hy, hql, hj, hr, hpx⟩ := hrel
        by_cases hyH : y < H
        · have hyI : (y : Int) < (H : Int) := by omega
          go_wp2_with fail
          go_loopw [1, 12] (fun t s wr => ∃ (u x : Nat) (qs : List Bool) (C : Nat → Nat), t = .int .i64 u ∧ s = .int .i64 x ∧ u ≤ n ∧ x ≤ W ∧ Hid (qs.length = y * W + x) ∧ Hid (joinP qs (pixP (tot - (y * W + x)) (l.drop u)) = R) ∧ Hid (RW w wr p q g W H C) ∧ Hid (PixOk W H (H * wd W) qs C)) (fun _ s _ => W - (intOf s).toNat)
          case atStart => exact ⟨u, 0, qs, C, rfl, rfl, hu, Nat.zero_le _, hql, hj, hr, hpx⟩
          case round =>
            clear hql hj hr hpx hu C qs
            obtain ⟨v, x, qs, C, rfl, rfl, hu, hx, hql, hj, hr, hpx⟩ := hrel
            by_cases hxW : x < W
            · have hxI : (x : Int) < (W : Int) := by omega
              have hyx : y * W + x < tot := by
                have h1 : (y + 1) * W ≤ H * W := Nat.mul_le_mul_right W (by omega)
                rw [Nat.add_mul, Nat.one_mul, Nat.mul_comm H W, HT.out] at h1
                omega
              obtain ⟨k1, hk1⟩ : ∃ k1, tot - (y * W + x) = k1 + 1 := ⟨tot - (y * W + x) - 1, by omega⟩
              have HK1 : Hid (tot - (y * W + x) = k1 + 1 ∧ tot - (y * W + (x + 1)) = k1) := ⟨hk1, by omega⟩
              have hj2 := hj.out
              rw [hk1] at hj2
              have HJ := Lib.hid hj2
              clear hk1 hj2 hj hyx
              obtain ⟨z, hz⟩ : ∃ z, pasAt false l v = z := ⟨_, rfl⟩
              have HZ := Lib.hid hz
              have hle : z ≤ n := by rw [← hz, ← HN.out]; exact (pasAt_ge false l (by rw [HN.out]; exact hu)).2
              have HDR : Hid (l.drop z = pas false (l.drop v)) := by show _ = _; rw [← hz]; exact pasAt_drop false l (by rw [HN.out]; exact hu)
              clear hz
              go_upto_region 11 with (go_at_call 49; refine (rpassed49n b off cap l n v z _ HN.out (fun o c hc => hr.out.old (HK.out o c hc)) HL.out (by rw [HN.out]; exact hu) HZ.out).mono ?_; rintro e w5 ⟨rfl, rfl⟩)
              by_cases hzn : z < n
              · obtain ⟨c, hc⟩ : ∃ c, l[z]? = some c := ⟨_, List.getElem?_eq_getElem (by rw [HN.out]; exact hzn)⟩
                have hcons : pas false (l.drop v) = c :: l.drop (z + 1) := by rw [← HDR.out]; exact drop_at hc
                have d00 := HK.out z c hc
                obtain ⟨ch, hch⟩ : ∃ ch, c.toNat = ch := ⟨_, rfl⟩
                rw [hch] at d00
                have HD0 := Lib.hid d00
                have d0 := hr.out.old d00
                clear d00
                have HC : Hid (c.toNat = ch ∧ pas false (l.drop v) = c :: l.drop (z + 1)) := ⟨hch, hcons⟩
                have hzI : ¬ (n : Int) ≤ (z : Int) := by omega
                have hzI2 : (z : Int) < (n : Int) := by omega
                clear hc hcons hch
                by_cases hd : ch = 48 ∨ ch = 49
                · have HJ2 : Hid (joinP (qs ++ [decide (ch = 49)]) (pixP k1 (l.drop (z + 1))) = R) := by
                    have h3 := HJ.out
                    rw [pixP_good HC.out.2 (by rw [HC.out.1]; exact hd), HC.out.1] at h3
                    exact h3
                  obtain ⟨bit, hbit⟩ : ∃ bit, ch - 48 = bit := ⟨_, rfl⟩
                  have hb1 : bit ≤ 1 := by omega
                  have HBIT : Hid (bit = if decide (ch = 49) = true then 1 else 0) := by
                    show _ = _
                    rcases hd with h | h
                    · subst h; subst hbit; rfl
                    · subst h; subst hbit; rfl
                  have hw1 : IntKind.u8.wrap ((ch : Int) - 48) = (bit : Int) := by
                    rcases hd with h | h
                    · subst h; subst hbit; rfl
                    · subst h; subst hbit; rfl
                  have hw2 : IntKind.i64.wrap (bit : Int) = (bit : Int) := IntWalk.i64_in _ (by omega)
                  have HCH : Hid (48 ≤ (ch : Int) ∧ (ch : Int) ≤ 49) := ⟨by omega, by omega⟩
                  have c0 := hr.out.cells.1
                  have c1 := hr.out.cells.2.1
                  have c2 := hr.out.cells.2.2
                  by_cases h48 : ch = 48
                  all_goals
                    first
                    | (have hd1 : ((ch : Int) != 48) = false := by simp; omega)
                    | (have hd1 : ((ch : Int) != 48) = true := by simp; omega
                       have hd2 : ((ch : Int) != 49) = false := by simp; omega)
                    clear h48 hd hbit
                    go_upto_region 15 with fail
                    go_region_held3 (fun w' => w'.cell? ⟨q, 0, none⟩ = some (.int .i64 (W : Int)) ∧ w'.cell? ⟨q, 1, none⟩ = some (.int .i64 (H : Int)) ∧ w'.cell? ⟨q, 2, none⟩ = some (.slice (some ⟨g, 0, none⟩) (H * wd W) (H * wd W)) ∧ w'.cell? ⟨b, off + z, none⟩ = some (.int .u8 (ch : Int))) (go_keep)
                      ((first
                        | (go_at_call 53; refine (put0 W H g (H * wd W) (H * wd W) C x y bit _ hW hH rfl ?_ hxW hyH hb1).mono ?_; exact hr.out.own; rintro e w5 ⟨rfl, hown5, hgr⟩; have HR5 := Lib.hid (hr.out.step ((grown_drewN wr _ (some g)).trans hgr) hown5); have c0 := HR5.out.cells.1; have c1 := HR5.out.cells.2.1; have c2 := HR5.out.cells.2.2; have d0 := HR5.out.old HD0.out; clear hown5 hgr)))
                    go_wp2_with fail
                    go_roundw
                    case rel => exact ⟨z + 1, x + 1, qs ++ [decide (ch = 49)], setB C W x y bit, by go_num, by go_num, by omega, by omega, by show _ = _; rw [List.length_append, hql.out]; rfl, by show _ = _; rw [HK1.out.2]; exact HJ2.out, HR5.out, PixOk.put hpx.out hxW hql.out HBIT.out⟩
                    case measure => simp [intOf]; omega
                · have hd1 : ((ch : Int) != 48) = true := by simp; omega
                  have hd2 : ((ch : Int) != 49) = true := by simp; omega
                  have HRE : Hid (R = .inl 30) := by
                    have h3 := HJ.out
                    rw [pixP_bad HC.out.2 (by rw [HC.out.1]; exact hd)] at h3
                    exact h3.symm
                  clear hd
                  have f0 := Joins.cell_of_block hr.out.b0 0; have f1 := Joins.cell_of_block hr.out.b0 1; have f2 := Joins.cell_of_block hr.out.b0 2; have y0 := Joins.unfrozen_of_block hr.out.b0 0; have y1 := Joins.unfrozen_of_block hr.out.b0 1; have y2 := Joins.unfrozen_of_block hr.out.b0 2
                  go_wp2_with fail
                  obtain ⟨t0, t1, t2, t3⟩ := rend_fault (code := 30) hr.out.hp hr.out.bel hr.out.b0
                  rw [HRE.out]
                  exact bodyPost_ret (v := .tuple #[.agg #[.int .i64 0, .int .i64 0, .slice none 0 0], .int .i64 30]) (by simp [results, Tryd.results37, go_sem, t0, t1, t2]) rfl t3
              · have HRE : Hid (R = .inl 32) := by
                  have h3 := HJ.out
                  rw [pixP_end (by rw [← HDR.out]; exact List.drop_eq_nil_of_le (by rw [HN.out]; omega))] at h3
                  exact h3.symm
                have hzI : (n : Int) ≤ (z : Int) := by omega
                clear hzn
                have f0 := Joins.cell_of_block hr.out.b0 0; have f1 := Joins.cell_of_block hr.out.b0 1; have f2 := Joins.cell_of_block hr.out.b0 2; have y0 := Joins.unfrozen_of_block hr.out.b0 0; have y1 := Joins.unfrozen_of_block hr.out.b0 1; have y2 := Joins.unfrozen_of_block hr.out.b0 2
                go_wp2_with fail
                obtain ⟨t0, t1, t2, t3⟩ := rend_fault (code := 32) hr.out.hp hr.out.bel hr.out.b0
                rw [HRE.out]
                exact bodyPost_ret (v := .tuple #[.agg #[.int .i64 0, .int .i64 0, .slice none 0 0], .int .i64 32]) (by simp [results, Tryd.results37, go_sem, t0, t1, t2]) rfl t3
            · have hxI : ¬ (x : Int) < (W : Int) := by omega
              have hyx : y * W + x = (y + 1) * W := by rw [Nat.add_mul, Nat.one_mul]; omega
              rw [hyx] at hql hj
              clear hxW
              go_wp2_with fail
              go_roundw
              case rel => exact ⟨v, y + 1, qs, C, rfl, by go_num, hu, by omega, hql, hj, hr, hpx⟩
              case measure => simp [intOf]; omega
        · obtain rfl : y = H := by omega
          have HRE : Hid (R = .inr (qs, l.drop u)) := by
            have h3 := hj.out
            rw [show tot - y * W = 0 by rw [Nat.mul_comm, HT.out, Nat.sub_self]] at h3
            rw [← h3]
            show Sum.inr _ = Sum.inr _
            rw [List.append_nil]
          obtain ⟨z, hz⟩ : ∃ z, pasAt false l u = z := ⟨_, rfl⟩
          have HZ := Lib.hid hz
          have hle : z ≤ n := by rw [← hz, ← HN.out]; exact (pasAt_ge false l (by rw [HN.out]; exact hu)).2
          have HDR : Hid (l.drop z = pas false (l.drop u)) := by show _ = _; rw [← hz]; exact pasAt_drop false l (by rw [HN.out]; exact hu)
          clear hz hyH hj
          by_cases hzn : z < n
          · have hzI : (z : Int) < (n : Int) := by omega
            have HNE : Hid (¬ pas false (l.drop u) = []) := by show ¬ _; rw [← HDR.out]; intro h; have h1 := congrArg List.length h; rw [List.length_drop, HN.out] at h1; simp at h1; omega
            clear hzn
            have f0 := Joins.cell_of_block hr.out.b0 0; have f1 := Joins.cell_of_block hr.out.b0 1; have f2 := Joins.cell_of_block hr.out.b0 2; have y0 := Joins.unfrozen_of_block hr.out.b0 0; have y1 := Joins.unfrozen_of_block hr.out.b0 1; have y2 := Joins.unfrozen_of_block hr.out.b0 2
            go_wp2_with (go_at_call 49; refine (rpassed49n b off cap l n u z _ HN.out (fun o c hc => hr.out.old (HK.out o c hc)) HL.out (by rw [HN.out]; exact hu) HZ.out).mono ?_; rintro e w5 ⟨rfl, rfl⟩)
            obtain ⟨t0, t1, t2, t3⟩ := rend_fault (code := 33) hr.out.hp hr.out.bel hr.out.b0
            rw [HRE.out, show endP (Sum.inr (qs, l.drop u)) = .inl 33 from if_neg HNE.out]
            exact bodyPost_ret (v := .tuple #[.agg #[.int .i64 0, .int .i64 0, .slice none 0 0], .int .i64 33]) (by simp [results, Tryd.results37, go_sem, t0, t1, t2]) rfl t3
          · have hzI : ¬ (z : Int) < (n : Int) := by omega
            have HNE : Hid (pas false (l.drop u) = []) := by show _ = _; rw [← HDR.out]; exact List.drop_eq_nil_of_le (by rw [HN.out]; omega)
            clear hzn
            have f0 := Joins.cell_of_block hr.out.b0 0; have f1 := Joins.cell_of_block hr.out.b0 1; have f2 := Joins.cell_of_block hr.out.b0 2; have y0 := Joins.unfrozen_of_block hr.out.b0 0; have y1 := Joins.unfrozen_of_block hr.out.b0 1; have y2 := Joins.unfrozen_of_block hr.out.b0 2
            have c0 := hr.out.cells.1
            have c1 := hr.out.cells.2.1
            have c2 := hr.out.cells.2.2
            go_wp2_with (go_at_call 49; refine (rpassed49n b off cap l n u z _ HN.out (fun o c hc => hr.out.old (HK.out o c hc)) HL.out (by rw [HN.out]; exact hu) HZ.out).mono ?_; rintro e w5 ⟨rfl, rfl⟩)
            obtain ⟨t0, t1, t2, t3⟩ := hr.out.good hpx.out
            rw [HRE.out, show endP (Sum.inr (qs, l.drop u)) = .inr qs from if_pos HNE.out]
            exact bodyPost_ret (v := .tuple #[.agg #[.int .i64 W, .int .i64 y, .slice (some ⟨g, 0, none⟩) (y * wd W) (y * wd W)], .int .i64 0]) (by simp [results, Tryd.results37, go_sem, t0, t1, t2]) rfl t3
end Go.Proofs.YtgpjpmadbepblaaDoor
