/- Order at no bitmap and at a bitmap that may not be. Conditions: the bounds that each theorem names. -/
import Derived.Test.YtfniekdohidbiaaVc
namespace Go.Proofs.Ytfniekdohidbiaa
open Go.RowKit Go.Bm Go.Sort

set_option maxHeartbeats 1000000 in
set_option maxRecDepth 100000 in
theorem order20_none (p : Option Addr) (cap : Nat) (w : World) : Calls Try.prog 20 #[.slice p 0 cap] w fun e w' => e = .returned (.tuple #[.slice none 0 0, .int .i64 0]) ∧ Below w.heap.size w w' := by
  have hmf : ∀ (fn : Fn) (first cap : Array Value) (w : World), (Instr.makeFunc fn first cap).run Try.prog w = .ok (.func fn first cap) w := fun _ _ _ _ => rfl
  go_enter Try.func20, Try.ntmps20
  go_wp2_with fail
  refine wp_loop_rounds 1 ?_
  rw [rounds_succ]
  go_wp2_with (go_at_call 36; refine (none36 none 0 _ _).mono ?_; rintro e w3 ⟨rfl, rfl⟩)
  go_ret2
  exact ⟨rfl, (Below.refl _ _).alloc (Nat.le_refl _) _⟩
set_option maxHeartbeats 1000000 in
set_option maxRecDepth 100000 in
theorem order20_bad (b off n cap m : Nat) (F : Nat → Bmp) (w : World) (hL : IsBms w (some ⟨b, off, none⟩) n cap F) (hn : n ≤ 1048576) (h0 : 0 < n) (hm : m < n) (hok : ∀ i, i < m → (F i).ok) (hbad : ¬ (F m).ok) :
    Calls Try.prog 20 #[.slice (some ⟨b, off, none⟩) n cap] w fun e w' => e = .returned (.tuple #[.slice none 0 0, .int .i64 110]) ∧ Below w.heap.size w w' := by
  obtain ⟨i0, hi, hz0, hz1, hz2⟩ := info_parts infoI
  go_enter Try.func20, Try.ntmps20
  go_upto_region 1 with fail
  have hL1 := Lib.hid (hL.below ((Below.refl _ w).alloc (Nat.le_refl _) (.cells #[.slice (some ⟨b, off, none⟩) n cap] 22)))
  have cb : (w.alloc (.cells #[.slice (some ⟨b, off, none⟩) n cap] 22)).cell? ⟨w.heap.size, 0, none⟩ = some (.slice (some ⟨b, off, none⟩) n cap) := by rw [World.cell?_alloc_at _ _ _ _ rfl]; rfl
  have hs1 : (w.alloc (.cells #[.slice (some ⟨b, off, none⟩) n cap] 22)).heap.size = w.heap.size + 1 := by simp
  have hbw : Below w.heap.size w (w.alloc (.cells #[.slice (some ⟨b, off, none⟩) n cap] 22)) := (Below.refl _ w).alloc (Nat.le_refl _) _
  obtain ⟨W0, hW0⟩ : ∃ W0, w.heap.size = W0 := ⟨_, rfl⟩
  rw [hW0] at cb hs1 hbw
  rw [hW0]
  have HW0 := Lib.hid hW0
  have HBW := Lib.hid hbw
  have HOK := Lib.hid hok
  clear hW0 hbw hok hL
  generalize w.alloc (.cells #[.slice (some ⟨b, off, none⟩) n cap] 22) = w1 at *
  have hlt1 : W0 < w1.heap.size := by omega
  rcases hL1.out with h | ⟨b', off', he, hnc, hcap, hbs, hrow⟩
  · omega
  cases he
  have HR := Lib.hid hrow
  have CB := Lib.hid cb
  have hbase0 : W0 + 1 = w1.heap.size := hs1.symm
  clear hrow hs1
  go_wp2_with fail
  go_loopw [4, 9] (fun v i wr => ∃ k : Nat, k ≤ m ∧ i = .int .i64 k ∧ Hid (wr.ownsRow (W0 + 1) 3 1 v k (nums k)) ∧ Hid (Below w1.heap.size w1 wr)) (fun _ i _ => n - (intOf i).toNat)
  case atStart => exact ⟨0, Nat.zero_le _, rfl, World.ownsRow_nil _ _ _ _, Below.refl _ _⟩
  case round =>
    obtain ⟨k, hk, rfl, hown, hbel⟩ := hrel
    have hlt : k < n := by omega
    by_cases hkm : k < m
    · obtain ⟨q0, q1, q2, q3⟩ := HR.out k hlt
      have q0 := (hbel.out.cell (p := ⟨b, off + k * 3, none⟩) hbs).trans q0
      have q1 := (hbel.out.cell (p := ⟨b, off + k * 3 + 1, none⟩) hbs).trans q1
      have q2 := (hbel.out.cell (p := ⟨b, off + k * 3 + 2, none⟩) hbs).trans q2
      have Q3 := Lib.hid (q3.below hbel.out)
      have HO := HOK.out k hkm
      clear q3
      go_upto_region 5 with fail
      obtain ⟨c0, c1⟩ := one_cells wr #[.int .i64 (F k).W, .int .i64 (F k).H, .slice (F k).a (F k).n (F k).cap] 48
      have e0 := c0 0
      have e1 := c0 1
      have e2 := c0 2
      have hown1 := Lib.hid (hown.out.alloc (.cells #[.int .i64 (F k).W, .int .i64 (F k).H, .slice (F k).a (F k).n (F k).cap] 48))
      have hbel1 := Lib.hid (hbel.out.alloc (hbel.out.size) (.cells #[.int .i64 (F k).W, .int .i64 (F k).H, .slice (F k).a (F k).n (F k).cap] 48))
      have Q4 := Lib.hid (Q3.out.below ((Below.refl _ wr).alloc (Nat.le_refl _) (.cells #[.int .i64 (F k).W, .int .i64 (F k).H, .slice (F k).a (F k).n (F k).cap] 48)))
      clear c0 c1 q0 q1 q2 Q3 hown hbel
      obtain ⟨gs, hgs⟩ : ∃ gs, wr.heap.size = gs := ⟨_, rfl⟩
      rw [hgs] at e0 e1 e2
      rw [hgs]
      clear hgs
      generalize wr.alloc (.cells #[.int .i64 (F k).W, .int .i64 (F k).H, .slice (F k).a (F k).n (F k).cap] 48) = w2 at *
      have hg2 : gs < w2.heap.size := World.block_lt_of_cell? w2 _ e0
      go_upto_region 7 with (go_at_call 32; refine (Bmp.check (F k) true _ Q4.out (by simpa using HO)).mono ?_; rintro e w3 ⟨rfl, hbel2⟩)
      have hown3 := Lib.hid (hown1.out.kept (grown_of_below hbel2 none) (Classical.em _))
      have hbel3 := Lib.hid (below_then hbel1.out hbel2 (Nat.le_refl _))
      have hb3 : W0 + 1 ≤ w3.heap.size := by rw [hbase0]; exact hbel3.out.size
      clear e0 e1 e2 hown1 hbel1 Q4 hbel2 hg2
      go_upto_region 8 with (at_builtin; refine wpList_append_own_at _ rfl _ _ 31 rfl (W0 + 1) 3 i0 (.int .i64 0) 1 8 Try.underlying31 hi hz0 hz1 hz2 rfl (by decide) u4 k (nums k) rfl (hown3.out.alloc _) ⟨w3.heap.size, 0, none⟩ 1 1 [.int .i64 (k : Nat)] rfl rfl (World.news_of_block (cs := #[.int .i64 (k : Nat)]) (t := 3) (fr := (0, 0)) (heap_alloc_new w3 _)) (by intro u hu; simp at hu; subst hu; rfl) (by unfold maxLen; omega) (by omega) (by simp; omega) ?_; intro v' w4 hown4 hgrow4 _ _)
      have hown5 := Lib.hid hown4
      have hbel5 := Lib.hid (Below.grown (hbel3.out.alloc hbel3.out.size _) hgrow4 (Nat.le_trans hbel3.out.size (by simp)) (fun z hz => by rw [← hbase0]; exact row_ge hown3.out z hz))
      clear hown4 hgrow4 hown3 hbel3
      go_wp2_with fail
      go_roundw
      case rel => exact ⟨k + 1, by omega, by go_num, by show World.ownsRow _ _ _ _ _ _ _; rw [nums_snoc]; exact hown5.out, hbel5⟩
      case measure => simp [intOf]; omega
    · obtain rfl : k = m := by omega
      obtain ⟨q0, q1, q2, q3⟩ := HR.out k hlt
      have q0 := (hbel.out.cell (p := ⟨b, off + k * 3, none⟩) hbs).trans q0
      have q1 := (hbel.out.cell (p := ⟨b, off + k * 3 + 1, none⟩) hbs).trans q1
      have q2 := (hbel.out.cell (p := ⟨b, off + k * 3 + 2, none⟩) hbs).trans q2
      have Q3 := Lib.hid (q3.below hbel.out)
      have HO := hbad
      clear q3
      go_upto_region 5 with fail
      obtain ⟨c0, c1⟩ := one_cells wr #[.int .i64 (F k).W, .int .i64 (F k).H, .slice (F k).a (F k).n (F k).cap] 48
      have e0 := c0 0
      have e1 := c0 1
      have e2 := c0 2
      have hbel1 := Lib.hid (hbel.out.alloc (hbel.out.size) (.cells #[.int .i64 (F k).W, .int .i64 (F k).H, .slice (F k).a (F k).n (F k).cap] 48))
      have Q4 := Lib.hid (Q3.out.below ((Below.refl _ wr).alloc (Nat.le_refl _) (.cells #[.int .i64 (F k).W, .int .i64 (F k).H, .slice (F k).a (F k).n (F k).cap] 48)))
      clear c0 c1 q0 q1 q2 Q3 hown hbel
      obtain ⟨gs, hgs⟩ : ∃ gs, wr.heap.size = gs := ⟨_, rfl⟩
      rw [hgs] at e0 e1 e2
      rw [hgs]
      clear hgs
      generalize wr.alloc (.cells #[.int .i64 (F k).W, .int .i64 (F k).H, .slice (F k).a (F k).n (F k).cap] 48) = w2 at *
      have hg2 : gs < w2.heap.size := World.block_lt_of_cell? w2 _ e0
      go_wp2_with (go_at_call 32; refine (Bmp.check (F k) false _ Q4.out (by simpa using HO)).mono ?_; rintro e w3 ⟨rfl, hbel2⟩)
      go_ret2
      exact ⟨rfl, by rw [HW0.out]; exact (HBW.out.trans (hbel1.out.mono (Nat.le_of_lt hlt1))).trans (hbel2.mono (Nat.le_trans (Nat.le_of_lt hlt1) hbel1.out.size))⟩
end Go.Proofs.Ytfniekdohidbiaa
