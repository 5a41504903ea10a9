/- The walk of ContextExact. Conditions: the bounds that each theorem names. -/
import Derived.Test.YtknhgenhknjkoaaCq
namespace Go.Proofs.Ytknhgenhknjkoaa
open Go.RowKit Go.Bm

theorem IsWords.congr {w : World} {a : Option Addr} {n cap : Nat} {L M : Nat → Nat} (h : IsWords w a n cap L) (he : ∀ i, i < n → L i = M i) : IsWords w a n cap M := by
  rcases h with h | ⟨b, off, h1, h2, h3, h4, h5⟩
  · exact Or.inl h
  · exact Or.inr ⟨b, off, h1, h2, h3, h4, fun i hi => by rw [← he i hi]; exact h5 i hi⟩
theorem lent_words {w : World} {g n : Nat} {B : Nat → Nat} (h : IsOwn w g (n + 7) (lendB B n)) (hn : n ≤ 10000) : IsWords w (some ⟨g, 0, none⟩) n (n + 7) B :=
  ((h.words (Nat.le_refl _) (by omega)).short (Nat.le_add_right _ _)).congr fun i hi => by unfold lendB; rw [if_pos hi]
theorem size6c (t c : Nat) (ht : t < 4) (hc : csize t = c) (w : World) : Calls Try.prog 12 #[.int .i64 (t : Int)] w fun e w' => e = .returned (.int .i64 (c : Nat)) ∧ Below w.heap.size w w' := by
  subst hc
  exact size6 t ht w

set_option maxRecDepth 100000 in
set_option maxHeartbeats 16000000 in
theorem exact_bad2 (W H : Int) (a : Option Addr) (n cap : Nat) (B : Nat → Nat) (tt : Int) (htt : ¬ (0 ≤ tt ∧ tt < 4)) (ax : Option Addr) (nx cx : Nat) (X : Nat → Int) (ay : Option Addr) (ny cy : Nat) (Y : Nat → Int) (w : World)
    (hB : IsWords w a n cap B) (hno : a = none → n = 0 ∧ cap = 0) (hX : IsInts w ax nx X) (hY : IsInts w ay ny Y) (hn : n ≤ 500) (ho : ¬ okB W H n B) :
    Calls Try.prog 3 #[.agg #[.int .i64 W, .int .i64 H, .slice a n cap, .int .i64 tt, .slice ax nx cx, .slice ay ny cy]] w fun e w' => e = .returned (.bool true) ∧ Below w.heap.size w w' := by
  have hn2 : decide ((500 : Int) < (n : Int)) = false := by simp; omega
  have hn3 : decide (500 < n) = false := by simp; omega
  have HN := Lib.hid (show n ≤ 10000 by omega)
  have HO := Lib.hid ho
  have HBW := Lib.hid hB
  have HNO := Lib.hid hno
  have HXW := Lib.hid hX
  have HYW := Lib.hid hY
  have HT := Lib.hid htt
  have HI0 := Lib.hid (AInv.new w W H a n cap tt ax nx cx ay ny cy)
  clear hB ho hno hX hY hn htt
  go_enter Try.func3, Try.ntmps3
  go_upto_region 1 with fail
  obtain ⟨W0, hW0⟩ : ∃ W0, w.heap.size = W0 := ⟨_, rfl⟩
  have HI := Lib.hid (hW0 ▸ HI0.out)
  rw [hW0]
  have HW0 := Lib.hid hW0
  clear hW0 HI0
  generalize w.alloc (.cells #[.int .i64 W, .int .i64 H, .slice a n cap, .int .i64 tt, .slice ax nx cx, .slice ay ny cy] 27) = w0 at *
  have c0 := HI.out.c0
  have c1 := HI.out.c1
  have c2 := HI.out.c2
  go_upto_region 3 with (go_at_call 8; refine (may0 W H a n cap B false _ (HI.out.words HW0.out HBW.out) (by simp [HO.out])).mono ?_; rintro e w1 ⟨rfl, hbel⟩; have HI1 := Lib.hid (HI.out.step hbel); have c0 := HI1.out.c0; have c1 := HI1.out.c1; have c2 := HI1.out.c2; clear hbel)
  clear HI c0 c1 c2 hn2 hn3
  have c3 := HI1.out.c3
  go_upto_region 4 with (go_at_call 10; refine (size_no tt HT.out _).mono ?_; rintro e w' ⟨rfl, rfl⟩)
  go_upto_region 6 with (go_at_call 11; refine (may6_no tt HT.out _).mono ?_; rintro e w' ⟨rfl, rfl⟩)
  have HI2 := HI1
  clear HI1 c3
  go_wp2_with fail
  go_loopw [5] (fun v wr => ∃ i : Nat, i ≤ 30 ∧ v = .int .i64 i ∧ Hid (AInv w W0 W H a n cap tt ax nx cx ay ny cy wr)) (fun v _ => 30 - (intOf v).toNat)
  case atStart => exact ⟨0, by omega, rfl, HI2⟩
  case round =>
    obtain ⟨i, hi30, rfl, hi⟩ := hrel
    have c0 := hi.out.c0
    have c1 := hi.out.c1
    have c2 := hi.out.c2
    have c3 := hi.out.c3
    have c4 := hi.out.c4
    have c5 := hi.out.c5
    by_cases hix : i < nx
    · by_cases hiy : i < ny
      · by_cases hi3 : i < 30
        · rcases HXW.out with h | ⟨bx, ox, rfl, hbx, _⟩
          · omega
          · rcases HYW.out with h | ⟨by', oy, rfl, hby, _⟩
            · omega
            · have hix2 : (i : Int) < (nx : Int) := by omega
              have hiy2 : (i : Int) < (ny : Int) := by omega
              have hi0 : (0 : Int) ≤ (i : Int) := by omega
              have hxc : ∀ (wx : World), Below W0 w wx → wx.cell? ⟨bx, ox + i, none⟩ = some (.int .i64 (X i)) := fun wx hb => by
                rcases HXW.out with h | ⟨_, _, h1, _, hc⟩
                · omega
                · cases h1
                  exact (hb.cell (p := ⟨bx, ox + i, none⟩) (by rw [← HW0.out]; exact hbx)).trans (hc i hix)
              have hyc : ∀ (wx : World), Below W0 w wx → wx.cell? ⟨by', oy + i, none⟩ = some (.int .i64 (Y i)) := fun wx hb => by
                rcases HYW.out with h | ⟨_, _, h1, _, hc⟩
                · omega
                · cases h1
                  exact (hb.cell (p := ⟨by', oy + i, none⟩) (by rw [← HW0.out]; exact hby)).trans (hc i hiy)
              have HXC := Lib.hid hxc
              have HYC := Lib.hid hyc
              clear hxc hyc hbx hby
              go_upto_region 10 with (go_at_call 13; refine (lend0 W H a n cap B _ (hi.out.words HW0.out HBW.out) HNO.out HN.out).mono ?_; rintro e w3 ⟨g, rfl, ho, hge, hbel⟩)
              have hbw := lent_words ho HN.out
              have hbn := BInv.new (W := W) (H := H) hbw
              have hbx := (Below.refl w3.heap.size w3).alloc (Nat.le_refl _) (.cells #[.int .i64 W, .int .i64 H, .slice (some ⟨g, 0, none⟩) n (n + 7)] 24)
              have hi4 := Lib.hid ((hi.out.step hbel).step hbx)
              have ho4 := Lib.hid (ho.below hbx)
              have hW0g : W0 < g := Nat.lt_of_lt_of_le hi.out.lt hge
              obtain ⟨gb, hgb⟩ : ∃ gb, w3.heap.size = gb := ⟨_, rfl⟩
              have hgg : g < gb := by rw [← hgb]; exact ho.lt
              rw [hgb] at hbn ⊢
              have hb4 := Lib.hid hbn
              clear c0 c1 c2 c3 c4 c5 hbw hbn hbx hbel ho hge hgb
              generalize w3.alloc (.cells #[.int .i64 W, .int .i64 H, .slice (some ⟨g, 0, none⟩) n (n + 7)] 24) = w4 at *
              have c3 := hi4.out.c3
              have c4 := hi4.out.c4
              have c5 := hi4.out.c5
              have b0 := hb4.out.c0
              have b1 := hb4.out.c1
              have b2 := hb4.out.c2
              have dX := HXC.out _ hi4.out.bel
              have dY := HYC.out _ hi4.out.bel
              go_region_held3 (fun w' => w'.cell? ⟨gb, 0, none⟩ = some (.int .i64 W) ∧ w'.cell? ⟨gb, 1, none⟩ = some (.int .i64 H) ∧ w'.cell? ⟨gb, 2, none⟩ = some (.slice (some ⟨g, 0, none⟩) n (n + 7)) ∧ w'.cell? ⟨W0, 3, none⟩ = some (.int .i64 tt) ∧
                  w'.cell? ⟨W0, 4, none⟩ = some (.slice (some ⟨bx, ox, none⟩) nx cx) ∧ w'.cell? ⟨W0, 5, none⟩ = some (.slice (some ⟨by', oy, none⟩) ny cy) ∧ w'.cell? ⟨bx, ox + i, none⟩ = some (.int .i64 (X i)) ∧ w'.cell? ⟨by', oy + i, none⟩ = some (.int .i64 (Y i))) (go_keep)
                ((go_at_call 14; refine (at_no1 tt (X i) (Y i) HT.out _ W H (some ⟨g, 0, none⟩) n (n + 7)).mono ?_; rintro e w5 ⟨rfl, hb5⟩; have hb5 : Below w4.heap.size w4 w5 := Below.trans (Below.drew (Below.refl _ w4)) hb5; have hi5 := Lib.hid (hi4.out.step hb5); have b5 := Lib.hid (hb4.out.step hb5); have ho5 := Lib.hid (ho4.out.below hb5); have c3 := hi5.out.c3; have c4 := hi5.out.c4; have c5 := hi5.out.c5; have b0 := b5.out.c0; have b1 := b5.out.c1; have b2 := b5.out.c2; have dX := HXC.out _ hi5.out.bel; have dY := HYC.out _ hi5.out.bel; clear hb5))
              clear hi4 hb4 ho4
              go_upto_region 11 with fail
              go_region_held3 (fun w' => w'.cell? ⟨gb, 0, none⟩ = some (.int .i64 W) ∧ w'.cell? ⟨gb, 1, none⟩ = some (.int .i64 H) ∧ w'.cell? ⟨gb, 2, none⟩ = some (.slice (some ⟨g, 0, none⟩) n (n + 7)) ∧ w'.cell? ⟨W0, 3, none⟩ = some (.int .i64 tt) ∧
                  w'.cell? ⟨W0, 5, none⟩ = some (.slice (some ⟨by', oy, none⟩) ny cy) ∧ w'.cell? ⟨by', oy + i, none⟩ = some (.int .i64 (Y i))) (go_keep)
                ((go_at_call 15; refine (row_no1 tt (Y i) HT.out _ W H (some ⟨g, 0, none⟩) n (n + 7)).mono ?_; rintro e w6 ⟨rfl, hb6⟩; have hb6 : Below w5.heap.size w5 w6 := Below.trans (Below.drew (Below.refl _ w5)) hb6; have hi6 := Lib.hid (hi5.out.step hb6); have b6 := Lib.hid (b5.out.step hb6); have ho6 := Lib.hid (ho5.out.below hb6); have c3 := hi6.out.c3; have c5 := hi6.out.c5; have b0 := b6.out.c0; have b1 := b6.out.c1; have b2 := b6.out.c2; have dY := HYC.out _ hi6.out.bel; clear hb6))
              go_upto_region 12 with fail
              clear hi5 b5 ho5 c3 c4 c5 dX dY
              have c0 := hi6.out.c0
              have c1 := hi6.out.c1
              have c2 := hi6.out.c2
              go_upto_region 17 with (go_at_call 16; refine (back0 W H g a n cap B _ ho6.out (hi6.out.words HW0.out HBW.out) HN.out).mono ?_; rintro e w7 ⟨rfl, hg7⟩)
              have hi7 := Lib.hid (hi6.out.grown hg7 hW0g)
              clear hi6 b6 ho6 c0 c1 c2 b0 b1 b2 hg7
              have c0 := hi7.out.c0
              have c1 := hi7.out.c1
              have c2 := hi7.out.c2
              have c3 := hi7.out.c3
              have c4 := hi7.out.c4
              have c5 := hi7.out.c5
              go_upto_region 18 with (go_at_call 11; refine (may6_no tt HT.out _).mono ?_; rintro e w' ⟨rfl, rfl⟩)
              clear c0 c1 c2 c3 c4 c5
              go_wp2_with (go_at_call 20; refine (over_nil _).mono ?_; rintro e w9 ⟨rfl, hb9⟩)
              have hi9 := Lib.hid (hi7.out.step hb9)
              clear hb9
              go_roundw
              case rel => exact ⟨i + 1, by omega, by go_num, hi9⟩
              case measure => simp [intOf]; omega
        · have q1 : decide ((i : Int) < 30) = false := by simp; omega
          go_wp2_with (go_at_call 9; refine (wakes9 _).mono ?_; rintro e w' ⟨rfl, hbel⟩)
          go_ret
          exact ⟨rfl, by rw [HW0.out]; exact hi.out.bel.trans (hbel.mono (Nat.le_of_lt hi.out.lt))⟩
      · have q1 : decide ((i : Int) < (ny : Int)) = false := by simp; omega
        have q2 : decide (i < ny) = false := by simp; omega
        go_wp2_with (go_at_call 9; refine (wakes9 _).mono ?_; rintro e w' ⟨rfl, hbel⟩)
        go_ret
        exact ⟨rfl, by rw [HW0.out]; exact hi.out.bel.trans (hbel.mono (Nat.le_of_lt hi.out.lt))⟩
    · have q1 : decide ((i : Int) < (nx : Int)) = false := by simp; omega
      have q2 : decide (i < nx) = false := by simp; omega
      go_wp2_with (go_at_call 9; refine (wakes9 _).mono ?_; rintro e w' ⟨rfl, hbel⟩)
      go_ret
      exact ⟨rfl, by rw [HW0.out]; exact hi.out.bel.trans (hbel.mono (Nat.le_of_lt hi.out.lt))⟩
end Go.Proofs.Ytknhgenhknjkoaa
