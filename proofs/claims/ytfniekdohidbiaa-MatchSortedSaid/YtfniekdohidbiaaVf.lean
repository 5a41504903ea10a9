/- The reference's Order, walked. Conditions: the bounds that each theorem names. -/
import Derived.Test.YtfniekdohidbiaaVe
import Derived.Laws.AppendOwnNone
namespace Go.Proofs.Ytfniekdohidbiaa
open Go.RowKit Go.Bm Go.Sort

theorem row_fin {w : World} {base B q k : Nat} {v : Value} {l : List Nat} (h : w.ownsRow base 3 1 v (0 + q + 1 + (k - q)) ([] ++ numsL (l.take q) ++ [.int .i64 (k : Nat)] ++ numsL (l.drop q))) (hq : q ≤ k) (hb : B ≤ base) :
    w.ownsRow B 3 1 v (k + 1) (numsL (l.take q ++ k :: l.drop q)) := by
  have e1 : 0 + q + 1 + (k - q) = k + 1 := by omega
  have e2 : ([] ++ numsL (l.take q) ++ [.int .i64 (k : Nat)] ++ numsL (l.drop q)) = numsL (l.take q ++ k :: l.drop q) := by unfold numsL; simp
  rw [e1, e2] at h
  exact row_base h hb
set_option maxHeartbeats 2000000 in
set_option maxRecDepth 100000 in
theorem order21 (b off n cap : Nat) (F : Nat → Bmp) (w : World) (hL : IsBms w (some ⟨b, off, none⟩) n cap F) (hn : n ≤ 1048576) (h0 : 0 < n) (hok : ∀ i, i < n → (F i).ok) :
    Calls Try.prog 21 #[.slice (some ⟨b, off, none⟩) n cap] w fun e w' => ∃ g c' l, e = .returned (.tuple #[.slice (some ⟨g, 0, none⟩) n c', .int .i64 0]) ∧ Sorted F n l ∧ IsInts w' (some ⟨g, 0, none⟩) n c' (fun i => (l[i]! : Nat)) ∧ Below w.heap.size w w' := by
  obtain ⟨i0, hi, hz0, hz1, hz2⟩ := info_parts infoI
  rcases hL with h | ⟨b', off', he, hnc, hcap, hbs, hrow⟩
  · omega
  cases he
  have HR := Lib.hid hrow
  have HOK := Lib.hid hok
  clear hrow hok
  go_enter Try.func21, Try.ntmps21
  go_wp2_with fail
  go_loopw [4] (fun i wr => ∃ k : Nat, k ≤ n ∧ i = .int .i64 k ∧ Hid (Below w.heap.size w wr)) (fun i _ => n - (intOf i).toNat)
  case atStart => exact ⟨0, Nat.zero_le _, rfl, Below.refl _ _⟩
  case round =>
    obtain ⟨k, hk, rfl, hbel⟩ := hrel
    by_cases hlt : k < n
    · obtain ⟨q0, q1, q2, q3⟩ := HR.out k hlt
      have q0 := (hbel.out.cell (p := ⟨b, off + k * 3, none⟩) hbs).trans q0
      have q1 := (hbel.out.cell (p := ⟨b, off + k * 3 + 1, none⟩) hbs).trans q1
      have q2 := (hbel.out.cell (p := ⟨b, off + k * 3 + 2, none⟩) hbs).trans q2
      have Q3 := Lib.hid (q3.below hbel.out)
      have HO := HOK.out k hlt
      clear q3
      go_wp2_with (go_at_call 29; refine (Bmp.may (F k) true _ Q3.out (by simpa using HO)).mono ?_; rintro e w3 ⟨rfl, hbel2⟩)
      go_roundw
      case rel => exact ⟨k + 1, by omega, by go_num, below_then hbel.out hbel2 (Nat.le_refl _)⟩
      case measure => simp [intOf]; omega
    · obtain rfl : n = k := by omega
      obtain ⟨W0, hW0⟩ : ∃ W0, w.heap.size = W0 := ⟨_, rfl⟩
      have HB0 := Lib.hid (hW0 ▸ hbel.out)
      have HW0 := Lib.hid hW0
      rw [hW0] at hbs
      clear hbel hW0
      go_wp2_with fail
      go_loopw [5, 6] (fun v i wx => ∃ k : Nat, k ≤ n ∧ i = .int .i64 k ∧ (k = 0 → v = .slice none 0 0) ∧ ∃ l, Hid (Sorted F k l) ∧ Hid (wx.ownsRow W0 3 1 v k (numsL l)) ∧ Hid (Below W0 w wx)) (fun _ i _ => n - (intOf i).toNat)
      case atStart => exact ⟨0, Nat.zero_le _, rfl, fun _ => rfl, [], ⟨List.Perm.refl _, List.Pairwise.nil⟩, World.ownsRow_nil _ _ _ _, HB0.out⟩
      case round =>
        obtain ⟨k, hk, rfl, hnil, l, hso, hown, hbel⟩ := hrel
        by_cases hlt : k < n
        · by_cases hz : k = 0
          · subst hz
            obtain rfl := hnil rfl
            go_wp2_with fail
            refine wp_loop_rounds 1 ?_
            rw [rounds_succ]
            go_upto_region 11 with fail
            go_quiet (fail)
            go_upto_region 15 with fail
            have hbel2 := Lib.hid (below_drewN hbel.out nq)
            have hb3 : W0 ≤ (wr.drewN nq).heap.size := by rw [← HW0.out]; exact hbel2.out.size
            clear hown hbel
            generalize wr.drewN nq = w3 at *
            go_upto_region 16 with (at_builtin; refine wpList_append_own_at _ rfl _ _ 31 rfl W0 3 i0 (.int .i64 0) 1 8 Try.underlying31 hi hz0 hz1 hz2 rfl (by decide) (.slice none 0 0) 0 [] rfl (World.ownsRow_nil _ _ _ _) ⟨w3.heap.size, 0, none⟩ 1 1 [.int .i64 0] rfl rfl (World.news_of_block (cs := #[.int .i64 0]) (t := 3) (fr := (0, 0)) (heap_alloc_new w3 _)) (by intro u hu; simp at hu; subst hu; rfl) (by unfold maxLen; omega) (by omega) (by simp; omega) ?_; intro v' w4 hown4 hgrow4 _ _)
            have hown5 := Lib.hid hown4
            have hbel5 := Lib.hid (Below.grown (hbel2.out.alloc hb3 _) hgrow4 (Nat.le_trans hb3 (by simp)) (fun z hz => by cases hz))
            clear hown4 hgrow4 hbel2
            obtain ⟨g, c', rfl⟩ : ∃ g c', v' = .slice (some ⟨g, 0, none⟩) 1 c' := by
              obtain ⟨_, hform⟩ := hown5.out
              rcases hform with ⟨_, hz⟩ | ⟨g, c', cur, hx, _⟩
              · omega
              · exact ⟨g, c', hx⟩
            go_wp2_with (at_builtin; go_loud (refine wpList_append_own_none rfl _ _ 31 rfl W0 3 i0 1 Try.underlying31 hi _ 1 [.int .i64 0] rfl hown5.out rfl ?_))
            go_roundw
            case rel =>
              refine ⟨1, by omega, by go_num, fun h => by omega, [0], ⟨List.Perm.refl _, List.pairwise_singleton _ _⟩, hown5.out, hbel5.out⟩
            case measure => simp [intOf]; omega
          · obtain ⟨g, c', rfl, hin⟩ := isInts_of_row hown.out (by omega)
            obtain ⟨p0, p1, p2, _⟩ := HR.out k hlt
            have HIN := Lib.hid hin
            clear hin hnil
            have hlen : l.length = k := by rw [hso.out.1.length_eq, List.length_range]
            go_wp2_with fail
            generalize wr = wo at *
            go_loopw [7] (fun j wy => ∃ q : Nat, q ≤ k ∧ j = .int .i64 q ∧ Hid (∀ t, q ≤ t → t < k → lessB (F k) (F l[t]!) = true) ∧ Hid (Below wo.heap.size wo wy)) (fun j _ => (intOf j).toNat)
            case atStart => exact ⟨k, Nat.le_refl _, rfl, fun t h1 h2 => by omega, Below.refl _ _⟩
            case round =>
              obtain ⟨q, hq, rfl, hall, hb2⟩ := hrel
              by_cases hq0 : 0 < q
              · obtain ⟨t, htq⟩ : ∃ t, q = t + 1 := ⟨q - 1, by omega⟩
                obtain ⟨m, hm⟩ : ∃ m, l[t]! = m := ⟨_, rfl⟩
                have hmn : m < n := by
                  have h1 : m ∈ l := by rw [← hm, getElem!_pos l t (by omega)]; exact List.getElem_mem _
                  have h2 := List.mem_range.1 (hso.out.1.mem_iff.1 h1)
                  omega
                obtain ⟨r0, r1, r2, _⟩ := HR.out m hmn
                have hbw : Below W0 w wr := by
                  have h1 := below_then hbel.out hb2.out (Nat.le_of_eq HW0.out.symm)
                  exact h1
                rcases HIN.out with hx | ⟨gx, ox, hgx, hkc, _, hgl, hcell⟩
                · omega
                cases hgx
                have oc : wr.cell? ⟨g, 0 + t, none⟩ = some (.int .i64 ((l[t]! : Nat) : Int)) := (hb2.out.cell (p := ⟨g, 0 + t, none⟩) hgl).trans (hcell t (by omega))
                rw [hm] at oc
                have p0 := (hbw.cell (p := ⟨b, off + k * 3, none⟩) hbs).trans p0
                have p1 := (hbw.cell (p := ⟨b, off + k * 3 + 1, none⟩) hbs).trans p1
                have p2 := (hbw.cell (p := ⟨b, off + k * 3 + 2, none⟩) hbs).trans p2
                have r0 := (hbw.cell (p := ⟨b, off + m * 3, none⟩) hbs).trans r0
                have r1 := (hbw.cell (p := ⟨b, off + m * 3 + 1, none⟩) hbs).trans r1
                have r2 := (hbw.cell (p := ⟨b, off + m * 3 + 2, none⟩) hbs).trans r2
                rw [Nat.zero_add] at oc
                have e2 : IntKind.i64.wrap ((q : Int) - 1) = t := by
                  have e1 : (q : Int) - 1 = t := by omega
                  rw [e1]; exact IntWalk.i64_in _ (by omega)
                have e3 : (0 : Int) < (q : Int) := by omega
                have e4 : (t : Int) < (k : Int) := by omega
                have HTQ := Lib.hid htq
                clear htq
                have e5 : (m : Int) < (n : Int) := by omega
                clear hcell
                go_upto_region 11 with fail
                go_region_held3 (fun w' => w'.cell? ⟨b, off + k * 3, none⟩ = some (.int .i64 (F k).W) ∧ w'.cell? ⟨b, off + k * 3 + 1, none⟩ = some (.int .i64 (F k).H) ∧ w'.cell? ⟨b, off + k * 3 + 2, none⟩ = some (.slice (F k).a (F k).n (F k).cap) ∧
                    w'.cell? ⟨b, off + m * 3, none⟩ = some (.int .i64 (F m).W) ∧ w'.cell? ⟨b, off + m * 3 + 1, none⟩ = some (.int .i64 (F m).H) ∧ w'.cell? ⟨b, off + m * 3 + 2, none⟩ = some (.slice (F m).a (F m).n (F m).cap) ∧ w'.cell? ⟨g, t, none⟩ = some (.int .i64 m)) (go_keep)
                  ((go_at_call 38; refine (less38 (F k) (F m) _).mono ?_; rintro e w3 ⟨rfl, hb3⟩; have y0 := keep_cell hb3 (p := ⟨b, off + k * 3, none⟩) (v := .int .i64 (F k).W) (by assumption); have y1 := keep_cell hb3 (p := ⟨b, off + k * 3 + 1, none⟩) (v := .int .i64 (F k).H) (by assumption); have y2 := keep_cell hb3 (p := ⟨b, off + k * 3 + 2, none⟩) (v := .slice (F k).a (F k).n (F k).cap) (by assumption); have y3 := keep_cell hb3 (p := ⟨b, off + m * 3, none⟩) (v := .int .i64 (F m).W) (by assumption); have y4 := keep_cell hb3 (p := ⟨b, off + m * 3 + 1, none⟩) (v := .int .i64 (F m).H) (by assumption); have y5 := keep_cell hb3 (p := ⟨b, off + m * 3 + 2, none⟩) (v := .slice (F m).a (F m).n (F m).cap) (by assumption); have y6 := keep_cell hb3 (p := ⟨g, t, none⟩) (v := .int .i64 (m : Int)) (by assumption)))
                have HB3 := Lib.hid hb3
                clear hb3 y0 y1 y2 y3 y4 y5 y6
                cases hless : lessB (F k) (F m)
                · have hb4 : Below wo.heap.size wo w3 := below_then (Below.drew hb2.out) HB3.out (Nat.le_refl _)
                  have HB4 := Lib.hid hb4
                  have hq1 : (q : Int) ≤ (c' : Int) := by omega
                  have hq2 : (0 : Int) ≤ (q : Int) := by omega
                  have hq3 : (q : Int) ≤ (k : Int) := by omega
                  clear hb4 hb2 HB3 p0 p1 p2 r0 r1 r2 oc e2 e3 e4 e5
                  try clear hHeld
                  obtain ⟨hn1, hn2⟩ := news_of_ints HIN.out HB4.out hlen hq
                  have hb3 : wo.heap.size ≤ w3.heap.size := HB4.out.size
                  have HN1 := Lib.hid hn1
                  have HN2 := Lib.hid hn2
                  clear hn1 hn2
                  have HLO : Hid (0 < q → lessB (F k) (F l[q - 1]!) = false) := fun _ => by
                    rw [show q - 1 = t by have := HTQ.out; omega, hm]; exact hless
                  go_upto_region 15 with (at_builtin; go_loud (refine wpList_append_own_at _ rfl _ _ 31 rfl wo.heap.size 3 i0 (.int .i64 0) 1 8 Try.underlying31 hi hz0 hz1 hz2 rfl (by decide) (.slice none 0 0) 0 [] rfl (World.ownsRow_nil _ _ _ _) ⟨g, 0, none⟩ q c' (numsL (l.take q)) rfl (by rw [numsL_length, List.length_take]; omega) HN1.out (numsL_one _) (by unfold maxLen; omega) (by omega) hb3 ?_; intro v1 w4 hown4 hgrow4 _ _))
                  have HW4 := Lib.hid hown4
                  have hb5 : Below wo.heap.size wo w4 := below_then HB4.out (Below.grown (Below.refl _ _) hgrow4 (Nat.le_refl _) (fun z hz => by cases hz)) (Nat.le_refl _)
                  have HB5 := Lib.hid hb5
                  have hb6 : wo.heap.size ≤ w4.heap.size := Nat.le_trans hb3 hgrow4.size
                  clear hown4 hgrow4 hb5 HN1 HN2 hb3
                  go_upto_region 16 with (at_builtin; go_loud (refine wpList_append_own_at _ rfl _ _ 31 rfl wo.heap.size 3 i0 (.int .i64 0) 1 8 Try.underlying31 hi hz0 hz1 hz2 rfl (by decide) v1 (0 + q) ([] ++ numsL (l.take q)) rfl (HW4.out.alloc _) ⟨w4.heap.size, 0, none⟩ 1 1 [.int .i64 (k : Nat)] rfl rfl (World.news_of_block (cs := #[.int .i64 (k : Nat)]) (t := 3) (fr := (0, 0)) (heap_alloc_new w4 _)) (by intro u hu; simp at hu; subst hu; rfl) (by unfold maxLen; omega) (by omega) (by simp; omega) ?_; intro v2 w5 hown5 hgrow5 _ _))
                  have HW5 := Lib.hid hown5
                  have hb7 : Below wo.heap.size wo w5 := Below.grown (HB5.out.alloc hb6 _) hgrow5 (Nat.le_trans hb6 (by simp)) (fun z hz => row_ge HW4.out z hz)
                  have HB7 := Lib.hid hb7
                  have HN3 := Lib.hid (news_of_ints HIN.out hb7 hlen hq).2
                  have hb8 : wo.heap.size ≤ w5.heap.size := hb7.size
                  clear hown5 hgrow5 hb7 hb6
                  have HSI := Lib.hid (Sorted.insert hso.out hq HLO.out (fun j h1 h2 => hall.out j h1 h2))
                  by_cases hcq : c' = q
                  · have hkq : k ≤ q := by omega
                    have HKQ := Lib.hid hkq
                    clear hkq
                    go_wp2_with (at_builtin; go_loud (refine wpList_append_own_at _ rfl _ _ 31 rfl wo.heap.size 3 i0 (.int .i64 0) 1 8 Try.underlying31 hi hz0 hz1 hz2 rfl (by decide) v2 (0 + q + 1) ([] ++ numsL (l.take q) ++ [.int .i64 (k : Nat)]) rfl HW5.out ⟨g, 0, none⟩ (k - q) (c' - q) (numsL (l.drop q)) ?_ (by rw [numsL_length, List.length_drop]; omega) (fun j u hu => by rw [List.drop_eq_nil_of_le (by have := HKQ.out; omega)] at hu; cases hu) (numsL_one _) (by unfold maxLen; omega) (by omega) hb8 ?_; rotate_left; intro v3 w6 hown6 hgrow6 _ _))
                    have HR6 := Lib.hid (row_fin hown6 hq (Nat.le_trans (Nat.le_of_eq HW0.out.symm) hbel.out.size))
                    have HB8 := Lib.hid (Below.grown HB7.out hgrow6 hb8 (fun z hz => row_ge HW5.out z hz))
                    clear hown6 hgrow6
                    go_roundw
                    case rel => exact ⟨k + 1, by omega, by go_num, fun h => by omega, _, HSI, HR6, below_then hbel.out HB8.out (Nat.le_of_eq HW0.out.symm)⟩
                    case measure => simp [intOf]; omega
                  · go_wp2_with (at_builtin; go_loud (refine wpList_append_own_at _ rfl _ _ 31 rfl wo.heap.size 3 i0 (.int .i64 0) 1 8 Try.underlying31 hi hz0 hz1 hz2 rfl (by decide) v2 (0 + q + 1) ([] ++ numsL (l.take q) ++ [.int .i64 (k : Nat)]) rfl HW5.out ⟨g, q, none⟩ (k - q) (c' - q) (numsL (l.drop q)) ?_ (by rw [numsL_length, List.length_drop]; omega) HN3.out (numsL_one _) (by unfold maxLen; omega) (by omega) hb8 ?_; rotate_left; intro v3 w6 hown6 hgrow6 _ _))
                    have HR6 := Lib.hid (row_fin hown6 hq (Nat.le_trans (Nat.le_of_eq HW0.out.symm) hbel.out.size))
                    have HB8 := Lib.hid (Below.grown HB7.out hgrow6 hb8 (fun z hz => row_ge HW5.out z hz))
                    clear hown6 hgrow6
                    go_roundw
                    case rel => exact ⟨k + 1, by omega, by go_num, fun h => by omega, _, HSI, HR6, below_then hbel.out HB8.out (Nat.le_of_eq HW0.out.symm)⟩
                    case measure => simp [intOf]; omega
                · go_wp2_with fail
                  go_roundw
                  case rel =>
                    refine ⟨t, by have := HTQ.out; omega, rfl, fun t' h1 h2 => ?_, below_then (Below.drew hb2.out) HB3.out (Nat.le_refl _)⟩
                    by_cases ht : t' = t
                    · subst ht; rw [hm]; exact hless
                    · exact hall.out t' (by have := HTQ.out; omega) h2
                  case measure => have := HTQ.out; simp [intOf]; omega
              · have HLO : Hid (0 < q → lessB (F k) (F l[q - 1]!) = false) := fun h => absurd h hq0
                rcases HIN.out with hx | ⟨gx, ox, hgx, hkc, _, hgl, hcell⟩
                · omega
                cases hgx
                clear hcell
                have hqz : ¬ (0 : Int) < (q : Int) := by omega
                have hq1 : (q : Int) ≤ (c' : Int) := by omega
                have hq2 : (0 : Int) ≤ (q : Int) := by omega
                have hq3 : (q : Int) ≤ (k : Int) := by omega
                go_upto_region 11 with fail
                go_quiet (fail)
                go_upto_region 14 with fail
                have hb4 : Below wo.heap.size wo (wr.drewN nq) := below_drewN hb2.out nq
                have HB4 := Lib.hid hb4
                obtain ⟨hn1, hn2⟩ := news_of_ints HIN.out HB4.out hlen hq
                have hb3 : wo.heap.size ≤ (wr.drewN nq).heap.size := HB4.out.size
                have HN1 := Lib.hid hn1
                have HN2 := Lib.hid hn2
                clear hn1 hn2 hb4 hb2
                generalize wr.drewN nq = w3 at *
                go_upto_region 15 with (at_builtin; go_loud (refine wpList_append_own_at _ rfl _ _ 31 rfl wo.heap.size 3 i0 (.int .i64 0) 1 8 Try.underlying31 hi hz0 hz1 hz2 rfl (by decide) (.slice none 0 0) 0 [] rfl (World.ownsRow_nil _ _ _ _) ⟨g, 0, none⟩ q c' (numsL (l.take q)) rfl (by rw [numsL_length, List.length_take]; omega) HN1.out (numsL_one _) (by unfold maxLen; omega) (by omega) hb3 ?_; intro v1 w4 hown4 hgrow4 _ _))
                have HW4 := Lib.hid hown4
                have hb5 : Below wo.heap.size wo w4 := below_then HB4.out (Below.grown (Below.refl _ _) hgrow4 (Nat.le_refl _) (fun z hz => by cases hz)) (Nat.le_refl _)
                have HB5 := Lib.hid hb5
                have hb6 : wo.heap.size ≤ w4.heap.size := Nat.le_trans hb3 hgrow4.size
                clear hown4 hgrow4 hb5 HN1 HN2 hb3
                go_upto_region 16 with (at_builtin; go_loud (refine wpList_append_own_at _ rfl _ _ 31 rfl wo.heap.size 3 i0 (.int .i64 0) 1 8 Try.underlying31 hi hz0 hz1 hz2 rfl (by decide) v1 (0 + q) ([] ++ numsL (l.take q)) rfl (HW4.out.alloc _) ⟨w4.heap.size, 0, none⟩ 1 1 [.int .i64 (k : Nat)] rfl rfl (World.news_of_block (cs := #[.int .i64 (k : Nat)]) (t := 3) (fr := (0, 0)) (heap_alloc_new w4 _)) (by intro u hu; simp at hu; subst hu; rfl) (by unfold maxLen; omega) (by omega) (by simp; omega) ?_; intro v2 w5 hown5 hgrow5 _ _))
                have HW5 := Lib.hid hown5
                have hb7 : Below wo.heap.size wo w5 := Below.grown (HB5.out.alloc hb6 _) hgrow5 (Nat.le_trans hb6 (by simp)) (fun z hz => row_ge HW4.out z hz)
                have HB7 := Lib.hid hb7
                have HN3 := Lib.hid (news_of_ints HIN.out hb7 hlen hq).2
                have hb8 : wo.heap.size ≤ w5.heap.size := hb7.size
                clear hown5 hgrow5 hb7 hb6
                have HSI := Lib.hid (Sorted.insert hso.out hq HLO.out (fun j h1 h2 => hall.out j h1 h2))
                by_cases hcq : c' = q
                · have hkq : k ≤ q := by omega
                  have HKQ := Lib.hid hkq
                  clear hkq
                  go_wp2_with (at_builtin; go_loud (refine wpList_append_own_at _ rfl _ _ 31 rfl wo.heap.size 3 i0 (.int .i64 0) 1 8 Try.underlying31 hi hz0 hz1 hz2 rfl (by decide) v2 (0 + q + 1) ([] ++ numsL (l.take q) ++ [.int .i64 (k : Nat)]) rfl HW5.out ⟨g, 0, none⟩ (k - q) (c' - q) (numsL (l.drop q)) ?_ (by rw [numsL_length, List.length_drop]; omega) (fun j u hu => by rw [List.drop_eq_nil_of_le (by have := HKQ.out; omega)] at hu; cases hu) (numsL_one _) (by unfold maxLen; omega) (by omega) hb8 ?_; rotate_left; intro v3 w6 hown6 hgrow6 _ _))
                  have HR6 := Lib.hid (row_fin hown6 hq (Nat.le_trans (Nat.le_of_eq HW0.out.symm) hbel.out.size))
                  have HB8 := Lib.hid (Below.grown HB7.out hgrow6 hb8 (fun z hz => row_ge HW5.out z hz))
                  clear hown6 hgrow6
                  go_roundw
                  case rel => exact ⟨k + 1, by omega, by go_num, fun h => by omega, _, HSI, HR6, below_then hbel.out HB8.out (Nat.le_of_eq HW0.out.symm)⟩
                  case measure => simp [intOf]; omega
                · go_wp2_with (at_builtin; go_loud (refine wpList_append_own_at _ rfl _ _ 31 rfl wo.heap.size 3 i0 (.int .i64 0) 1 8 Try.underlying31 hi hz0 hz1 hz2 rfl (by decide) v2 (0 + q + 1) ([] ++ numsL (l.take q) ++ [.int .i64 (k : Nat)]) rfl HW5.out ⟨g, q, none⟩ (k - q) (c' - q) (numsL (l.drop q)) ?_ (by rw [numsL_length, List.length_drop]; omega) HN3.out (numsL_one _) (by unfold maxLen; omega) (by omega) hb8 ?_; rotate_left; intro v3 w6 hown6 hgrow6 _ _))
                  have HR6 := Lib.hid (row_fin hown6 hq (Nat.le_trans (Nat.le_of_eq HW0.out.symm) hbel.out.size))
                  have HB8 := Lib.hid (Below.grown HB7.out hgrow6 hb8 (fun z hz => row_ge HW5.out z hz))
                  clear hown6 hgrow6
                  go_roundw
                  case rel => exact ⟨k + 1, by omega, by go_num, fun h => by omega, _, HSI, HR6, below_then hbel.out HB8.out (Nat.le_of_eq HW0.out.symm)⟩
                  case measure => simp [intOf]; omega
        · obtain rfl : n = k := by omega
          obtain ⟨g, c', rfl, hin⟩ := isInts_of_row hown.out h0
          have HIN := Lib.hid hin
          clear hin hown hnil
          go_wp2_with fail
          go_ret2
          exact ⟨g, c', l, rfl, hso.out, HIN.out, by rw [HW0.out]; exact hbel.out⟩
end Go.Proofs.Ytfniekdohidbiaa
