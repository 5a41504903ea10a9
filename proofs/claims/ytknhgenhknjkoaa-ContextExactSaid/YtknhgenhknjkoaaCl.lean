/- A bitmap laid on another one (Lay, with the operation that replaces, inside). Conditions: the bounds that each theorem names. -/
import Derived.Test.YtknhgenhknjkoaaAi
namespace Go.Bm
/-- the first j rows, and i pixels of the next one, have been laid at (x, y) -/
def Laid (W H n : Nat) (D S : Int → Int → Nat) (x y Ws j i : Nat) (C : Nat → Nat) : Prop :=
  okB W H n C ∧ ∀ a b : Int, px W H C a b = if (x ≤ a ∧ a < x + Ws ∧ y ≤ b ∧ b < y + j) ∨ (b = y + j ∧ x ≤ a ∧ a < x + i) then S (a - x) (b - y) else D a b
theorem Laid.step {W H n : Nat} {D S : Int → Int → Nat} {x y Ws j i : Nat} {C : Nat → Nat} (h : Laid W H n D S x y Ws j i C) (hi : i < Ws) (hx : x + Ws ≤ W) (hy : y + j < H) (hS : S i j ≤ 1) :
    Laid W H n D S x y Ws j (i + 1) (setB C W (x + i) (y + j) (S i j)) := by
  refine ⟨okB_setB h.1 (by omega), fun a b => ?_⟩
  by_cases hin : 0 ≤ a ∧ a < W ∧ 0 ≤ b ∧ b < H
  · rw [px_setB W H C (x + i) (y + j) _ (by omega) hS a b hin]
    by_cases e : a = ((x + i : Nat) : Int) ∧ b = ((y + j : Nat) : Int)
    · rw [if_pos e, if_pos (by omega)]
      obtain ⟨rfl, rfl⟩ := e
      congr 1 <;> omega
    · rw [if_neg e, h.2 a b]
      by_cases c : (x ≤ a ∧ a < x + Ws ∧ y ≤ b ∧ b < y + j) ∨ (b = y + j ∧ x ≤ a ∧ a < x + i)
      · rw [if_pos c, if_pos (by omega)]
      · rw [if_neg c, if_neg (by omega)]
  · rw [px_setB_out W H C (x + i) (y + j) _ a b hin, h.2 a b]
    by_cases c : (x ≤ a ∧ a < x + Ws ∧ y ≤ b ∧ b < y + j) ∨ (b = y + j ∧ x ≤ a ∧ a < x + i)
    · rw [if_pos c, if_pos (by omega)]
    · rw [if_neg c, if_neg (by omega)]
theorem Laid.row {W H n : Nat} {D S : Int → Int → Nat} {x y Ws j : Nat} {C : Nat → Nat} (h : Laid W H n D S x y Ws j Ws C) : Laid W H n D S x y Ws (j + 1) 0 C := by
  refine ⟨h.1, fun a b => ?_⟩
  rw [h.2 a b]
  by_cases c : (x ≤ a ∧ a < x + Ws ∧ y ≤ b ∧ b < y + j) ∨ (b = y + j ∧ x ≤ a ∧ a < x + Ws)
  · rw [if_pos c, if_pos (by omega)]
  · rw [if_neg c, if_neg (by omega)]
theorem Laid.start {W H n : Nat} {S : Int → Int → Nat} {x y Ws : Nat} {C : Nat → Nat} (h : okB W H n C) : Laid W H n (px W H C) S x y Ws 0 0 C := by
  refine ⟨h, fun a b => ?_⟩
  rw [if_neg (by omega)]
end Go.Bm
namespace Go.Proofs.Ytknhgenhknjkoaa
open Go.RowKit Go.Bm

theorem IsWords.grown {w w' : World} {a : Option Addr} {n cap g : Nat} {L : Nat → Nat} (h : IsWords w a n cap L) (hg : w.grownBy w' (some g)) (hne : ∀ b off, a = some ⟨b, off, none⟩ → b ≠ g) : IsWords w' a n cap L := by
  rcases h with h | ⟨b, off, h1, h2, h3, h4, h5⟩
  · exact Or.inl h
  · have hb := hne b off h1
    exact Or.inr ⟨b, off, h1, h2, h3, Nat.lt_of_lt_of_le h4 hg.size, fun i hi => ⟨(hg.cell_far ⟨b, off + i, none⟩ h4 (by simpa using hb)).trans (h5 i hi).1, (h5 i hi).2⟩⟩
theorem do4 (p q : Int) (w : World) : Calls Try.prog 38 #[.int .i64 4, .int .i64 p, .int .i64 q] w fun e w' => e = .returned (.int .i64 q) ∧ w = w' := by
  go_enter Try.func38, Try.ntmps38
  go_wp2
  go_ret
  exact ⟨rfl, rfl⟩

set_option maxRecDepth 100000 in
set_option maxHeartbeats 8000000 in
theorem lay0 (W H : Nat) (g n cap : Nat) (D : Nat → Nat) (x y Ws Hs : Nat) (a : Option Addr) (ns cs : Nat) (S : Nat → Nat) (w : World) (hW : W ≤ 1048576) (hH : H ≤ 1048576) (hWs : Ws ≤ 1048576) (hHs : Hs ≤ 1048576) (h1 : 1 ≤ Ws) (h2 : 1 ≤ Hs)
    (hc1 : n ≤ cap) (hc2 : cap ≤ 9223372036854775807) (hD : okB W H n D) (hO : IsOwn w g n D) (hS : IsWords w a ns cs S) (hns : ns = Hs * wd Ws) (hx : x + Ws ≤ W) (hy : y + Hs ≤ H) (hag : ∀ b off, a = some ⟨b, off, none⟩ → b ≠ g) :
    Calls Try.prog 27 #[.agg #[.int .i64 (W : Int), .int .i64 (H : Int), .slice (some ⟨g, 0, none⟩) n cap], .int .i64 (x : Int), .int .i64 (y : Int), .int .i64 4, .agg #[.int .i64 (Ws : Int), .int .i64 (Hs : Int), .slice a ns cs]] w
      fun e w' => ∃ C, e = .returned (.tuple #[]) ∧ IsOwn w' g n C ∧ Laid W H n (px W H D) (px Ws Hs S) x y Ws Hs 0 C ∧ w.grownBy w' (some g) := by
  have hn0 : n = H * wd W := by have := hD.2.1; simpa using this
  have HN0 := Lib.hid hn0
  have HNS := Lib.hid hns
  have HC1 := Lib.hid hc1
  have HC2 := Lib.hid hc2
  have HL0 := Lib.hid (Laid.start (S := px Ws Hs S) (x := x) (y := y) (Ws := Ws) hD)
  have hgl := hO.lt
  have two := ((Below.refl w.heap.size w).alloc (Nat.le_refl _) (.cells #[.int .i64 (W : Int), .int .i64 (H : Int), .slice (some ⟨g, 0, none⟩) n cap] 24)).alloc (by simp) (.cells #[.int .i64 (Ws : Int), .int .i64 (Hs : Int), .slice a ns cs] 24)
  have HT := Lib.hid two
  have HO := Lib.hid (hO.below two)
  have HS := Lib.hid (hS.below two)
  have HA := Lib.hid hag
  have d0 : ((w.alloc (.cells #[.int .i64 (W : Int), .int .i64 (H : Int), .slice (some ⟨g, 0, none⟩) n cap] 24)).alloc (.cells #[.int .i64 (Ws : Int), .int .i64 (Hs : Int), .slice a ns cs] 24)).cell? ⟨w.heap.size, 0, none⟩ = some (.int .i64 (W : Int)) := by rw [World.cell?_alloc_past _ _ _ (by simp), World.cell?_alloc_at _ _ _ _ rfl]; rfl
  have d1 : ((w.alloc (.cells #[.int .i64 (W : Int), .int .i64 (H : Int), .slice (some ⟨g, 0, none⟩) n cap] 24)).alloc (.cells #[.int .i64 (Ws : Int), .int .i64 (Hs : Int), .slice a ns cs] 24)).cell? ⟨w.heap.size, 1, none⟩ = some (.int .i64 (H : Int)) := by rw [World.cell?_alloc_past _ _ _ (by simp), World.cell?_alloc_at _ _ _ _ rfl]; rfl
  have d2 : ((w.alloc (.cells #[.int .i64 (W : Int), .int .i64 (H : Int), .slice (some ⟨g, 0, none⟩) n cap] 24)).alloc (.cells #[.int .i64 (Ws : Int), .int .i64 (Hs : Int), .slice a ns cs] 24)).cell? ⟨w.heap.size, 2, none⟩ = some (.slice (some ⟨g, 0, none⟩) n cap) := by rw [World.cell?_alloc_past _ _ _ (by simp), World.cell?_alloc_at _ _ _ _ rfl]; rfl
  have s0 : ((w.alloc (.cells #[.int .i64 (W : Int), .int .i64 (H : Int), .slice (some ⟨g, 0, none⟩) n cap] 24)).alloc (.cells #[.int .i64 (Ws : Int), .int .i64 (Hs : Int), .slice a ns cs] 24)).cell? ⟨w.heap.size + 1, 0, none⟩ = some (.int .i64 (Ws : Int)) := by rw [World.cell?_alloc_at _ _ _ _ (by simp)]; rfl
  have s1 : ((w.alloc (.cells #[.int .i64 (W : Int), .int .i64 (H : Int), .slice (some ⟨g, 0, none⟩) n cap] 24)).alloc (.cells #[.int .i64 (Ws : Int), .int .i64 (Hs : Int), .slice a ns cs] 24)).cell? ⟨w.heap.size + 1, 1, none⟩ = some (.int .i64 (Hs : Int)) := by rw [World.cell?_alloc_at _ _ _ _ (by simp)]; rfl
  have s2 : ((w.alloc (.cells #[.int .i64 (W : Int), .int .i64 (H : Int), .slice (some ⟨g, 0, none⟩) n cap] 24)).alloc (.cells #[.int .i64 (Ws : Int), .int .i64 (Hs : Int), .slice a ns cs] 24)).cell? ⟨w.heap.size + 1, 2, none⟩ = some (.slice a ns cs) := by rw [World.cell?_alloc_at _ _ _ _ (by simp)]; rfl
  clear hn0 hns hc1 hc2 hD hO hS two hag
  have hx1 : ¬ (W : Int) ≤ (x : Int) := by omega
  have hy1 : ¬ (H : Int) ≤ (y : Int) := by omega
  have hx2 : ¬ (x : Int) ≤ -(Ws : Int) := by omega
  have hy2 : ¬ (y : Int) ≤ -(Hs : Int) := by omega
  go_enter Try.func27, Try.ntmps27
  go_upto_region 1 with fail
  obtain ⟨W0, hW0⟩ : ∃ W0, w.heap.size = W0 := ⟨_, rfl⟩
  rw [hW0] at d0 d1 d2 s0 s1 s2 hgl ⊢
  have hg2 := Lib.hid (grown_of_below HT.out (some g))
  have HW0 := Lib.hid hW0
  clear hW0
  generalize (w.alloc (.cells #[.int .i64 (W : Int), .int .i64 (H : Int), .slice (some ⟨g, 0, none⟩) n cap] 24)).alloc (.cells #[.int .i64 (Ws : Int), .int .i64 (Hs : Int), .slice a ns cs] 24) = w1 at *
  go_upto_region 2 with fail
  have hl0 : W0 < w1.heap.size := World.block_lt_of_cell? w1 _ d0
  have hl1 : W0 + 1 < w1.heap.size := World.block_lt_of_cell? w1 _ s0
  have hng0 : (some W0 : Option Nat) ≠ some g := by simp; omega
  have hng1 : (some (W0 + 1) : Option Nat) ≠ some g := by simp; omega
  have D0 := Lib.hid d0
  have D1 := Lib.hid d1
  have D2 := Lib.hid d2
  have S0 := Lib.hid s0
  have S1 := Lib.hid s1
  have S2 := Lib.hid s2
  clear d0 d1 d2 s0 s1 s2 hx1 hx2 hy1 hy2
  have hcell : ∀ (wx : World), w1.grownBy wx (some g) → (wx.cell? ⟨W0, 0, none⟩ = some (.int .i64 (W : Int)) ∧ wx.cell? ⟨W0, 1, none⟩ = some (.int .i64 (H : Int)) ∧ wx.cell? ⟨W0, 2, none⟩ = some (.slice (some ⟨g, 0, none⟩) n cap)) ∧
      (wx.cell? ⟨W0 + 1, 0, none⟩ = some (.int .i64 (Ws : Int)) ∧ wx.cell? ⟨W0 + 1, 1, none⟩ = some (.int .i64 (Hs : Int)) ∧ wx.cell? ⟨W0 + 1, 2, none⟩ = some (.slice a ns cs)) := fun wx hg =>
    ⟨⟨(hg.cell_far ⟨W0, 0, none⟩ hl0 hng0).trans D0.out, (hg.cell_far ⟨W0, 1, none⟩ hl0 hng0).trans D1.out, (hg.cell_far ⟨W0, 2, none⟩ hl0 hng0).trans D2.out⟩,
      (hg.cell_far ⟨W0 + 1, 0, none⟩ hl1 hng1).trans S0.out, (hg.cell_far ⟨W0 + 1, 1, none⟩ hl1 hng1).trans S1.out, (hg.cell_far ⟨W0 + 1, 2, none⟩ hl1 hng1).trans S2.out⟩
  have HCELL := Lib.hid hcell
  clear hcell D0 D1 D2 S0 S1 S2
  go_wp2_with fail
  go_loopw [10] (fun v wr => ∃ j : Nat, j ≤ Hs ∧ v = .int .i64 j ∧ ∃ C, Hid (Laid W H n (px W H D) (px Ws Hs S) x y Ws j 0 C) ∧ Hid (IsOwn wr g n C) ∧ Hid (w1.grownBy wr (some g))) (fun v _ => Hs - (intOf v).toNat)
  case atStart => exact ⟨0, Nat.zero_le _, rfl, D, HL0, HO, grown_refl _ _⟩
  case round =>
    obtain ⟨j, hj, rfl, C, hL, hown, hgr⟩ := hrel
    obtain ⟨_, s0, s1, s2⟩ := HCELL.out _ hgr.out
    by_cases hjH : j < Hs
    · go_wp2_with fail
      clear s0 s1 s2
      go_loopw [11] (fun v wr => ∃ i : Nat, i ≤ Ws ∧ v = .int .i64 i ∧ ∃ C, Hid (Laid W H n (px W H D) (px Ws Hs S) x y Ws j i C) ∧ Hid (IsOwn wr g n C) ∧ Hid (w1.grownBy wr (some g))) (fun v _ => Ws - (intOf v).toNat)
      case atStart => exact ⟨0, Nat.zero_le _, rfl, C, hL, hown, hgr⟩
      case round =>
        clear hL hown hgr
        obtain ⟨i, hi, rfl, C, hL, hown, hgr⟩ := hrel
        obtain ⟨⟨d0, d1, d2⟩, s0, s1, s2⟩ := HCELL.out _ hgr.out
        by_cases hiW : i < Ws
        · have q1 : (0 : Int) ≤ (x : Int) + (i : Int) := by omega
          have q2 : (x : Int) + (i : Int) < (W : Int) := by omega
          have q3 : (0 : Int) ≤ (y : Int) + (j : Int) := by omega
          have q4 : (y : Int) + (j : Int) < (H : Int) := by omega
          go_upto_region 9 with fail
          have hxi : x + i < W := by omega
          have hyj : y + j < H := by omega
          have hsp := px_le Ws Hs S i j
          have hwx : IntKind.i64.wrap ((x : Int) + (i : Int)) = ((x + i : Nat) : Int) := by rw [IntWalk.i64_in _ (by omega)]; omega
          have hwy : IntKind.i64.wrap ((y : Int) + (j : Int)) = ((y + j : Nat) : Int) := by rw [IntWalk.i64_in _ (by omega)]; omega
          clear q1 q2 q3 q4
          go_region_held3 (fun w' => w'.cell? ⟨W0, 0, none⟩ = some (.int .i64 (W : Int)) ∧ w'.cell? ⟨W0, 1, none⟩ = some (.int .i64 (H : Int)) ∧ w'.cell? ⟨W0, 2, none⟩ = some (.slice (some ⟨g, 0, none⟩) n cap) ∧
              w'.cell? ⟨W0 + 1, 0, none⟩ = some (.int .i64 (Ws : Int)) ∧ w'.cell? ⟨W0 + 1, 1, none⟩ = some (.int .i64 (Hs : Int)) ∧ w'.cell? ⟨W0 + 1, 2, none⟩ = some (.slice a ns cs)) (go_keep)
            ((first
              | (go_at_call_of 25 W; refine (get_any W H (some ⟨g, 0, none⟩) n cap C (x + i : Nat) (y + j : Nat) _ hW hH HN0.out ?_).mono ?_; exact (hown.out.words HC1.out HC2.out); rintro e w3 ⟨rfl, hb3⟩; have hb3 : Below wr.heap.size wr w3 := Below.trans (Below.drew (Below.refl _ wr)) hb3; have o3 := Lib.hid (hown.out.below hb3); have g3 := Lib.hid (hgr.out.trans (grown_of_below hb3 (some g))); have KK := HCELL.out _ g3.out; have d0 := KK.1.1; have d1 := KK.1.2.1; have d2 := KK.1.2.2; have s0 := KK.2.1; have s1 := KK.2.2.1; have s2 := KK.2.2.2; clear KK hb3)
              | (go_at_call_of 25 Ws; refine (get_any Ws Hs a ns cs S i j _ hWs hHs HNS.out ?_).mono ?_; exact (HS.out.grown g3.out HA.out); rintro e w4 ⟨rfl, hb4⟩; have o4 := Lib.hid (o3.out.below hb4); have g4 := Lib.hid (g3.out.trans (grown_of_below hb4 (some g))); have KK := HCELL.out _ g4.out; have d0 := KK.1.1; have d1 := KK.1.2.1; have d2 := KK.1.2.2; have s0 := KK.2.1; have s1 := KK.2.2.1; have s2 := KK.2.2.2; clear KK hb4)
              | (go_at_call 38; refine (do4 _ _ _).mono ?_; rintro e w5 ⟨rfl, rfl⟩)
              | (go_at_call 24; refine (put0 W H g n cap C (x + i) (y + j) (px Ws Hs S i j) _ hW hH HN0.out ?_ hxi hyj hsp).mono ?_; exact o4.out; rintro e w6 ⟨rfl, o6, h6⟩; have g6 := Lib.hid (g4.out.trans h6); have O6 := Lib.hid o6; have KK := HCELL.out _ g6.out; have d0 := KK.1.1; have d1 := KK.1.2.1; have d2 := KK.1.2.2; have s0 := KK.2.1; have s1 := KK.2.2.1; have s2 := KK.2.2.2; clear KK o6 h6)))
          have HL2 := Lib.hid (hL.out.step hiW hx hyj hsp)
          clear d0 d1 d2 s0 s1 s2 hwx hwy
          go_wp2_with fail
          go_roundw
          case rel => exact ⟨i + 1, by omega, by go_num, _, HL2, O6, g6⟩
          case measure => simp [intOf]; omega
        · obtain rfl : i = Ws := by omega
          have HL2 := Lib.hid hL.out.row
          go_wp2_with fail
          go_roundw
          case rel => exact ⟨j + 1, by omega, by go_num, C, HL2, hown, hgr⟩
          case measure => simp [intOf]; omega
    · obtain rfl : j = Hs := by omega
      go_wp2_with fail
      go_end0
      exact ⟨C, rfl, hown.out, hL.out, hg2.out.trans hgr.out⟩
end Go.Proofs.Ytknhgenhknjkoaa
