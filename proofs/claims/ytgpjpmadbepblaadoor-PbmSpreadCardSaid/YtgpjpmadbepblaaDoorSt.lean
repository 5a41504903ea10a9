/- wakes of the laws of chapter 3. Conditions: the bounds that each theorem names. -/
import Derived.Test.YtgpjpmadbepblaaDoorSs
namespace Go.Proofs.YtgpjpmadbepblaaDoor
open Go.RowKit Go.Bm Go.Pbm Go.Sort

def wkB : Nat → Nat := fun _ => 9223372036854775808
def wkL : List UInt8 := [80, 49, 32, 50, 35, 120, 10, 49, 32, 49, 32, 48, 32, 35, 32, 101, 110, 100]
theorem wk_ok : okB 2 1 1 wkB := ⟨by unfold okS; decide, by unfold wd; decide, fun y hy => Or.inr (by show 9223372036854775808 * 2 ^ (2 % 64) % 18446744073709551616 = 0; decide)⟩
theorem dec2 : Lib.decDigits 2 = [50] := by rw [digits_step]; rfl
theorem dec1 : Lib.decDigits 1 = [49] := by rw [digits_step]; rfl
theorem wk_f0 : fileF 0 2 1 wkB = [80, 49, 10, 50, 32, 49, 10, 49, 48, 10] := by
  unfold fileF headF
  rw [dec1, dec2]
  rfl
theorem wk_f1 : fileF 1 2 1 wkB = [80, 52, 10, 50, 32, 49, 10, 128] := by
  unfold fileF headF
  rw [dec1, dec2]
  rfl
theorem wk_read : readS wkL = .inr (2, 1, [true, false]) := by
  have h1 : numS wkL 2 = some (2, 4) := by decide
  have h2 : numS wkL 4 = some (1, 8) := by decide
  unfold readS
  rw [if_neg (by decide), if_neg (by decide), h1]
  dsimp only
  rw [h2]
  dsimp only
  rw [if_pos (by unfold okS; decide)]
  unfold bodyS
  rw [if_pos (by decide), if_neg (by rintro ⟨c, hc, h3, h4⟩; have : c = 32 := (Option.some.inj (show some (32 : UInt8) = some c from hc)).symm; subst this; exact h3 (by decide))]
  rfl
theorem wk_pix : PixOk 2 1 1 [true, false] wkB := by
  refine ⟨wk_ok, fun x y hx hy => ?_⟩
  obtain rfl : y = 0 := by omega
  rcases (show x = 0 ∨ x = 1 by omega) with rfl | rfl <;> decide
theorem str_of_bytes {w : World} {a : Option Addr} {cap n : Nat} {l : List UInt8} (h : IsBytes w a cap l) (h0 : 0 < l.length) (hn : n = l.length) : (convert 27 9 (.slice a n cap)).run Tryd.prog w = .ok (.string ⟨l.toArray⟩) w := by
  subst hn
  rcases h with h | ⟨b, off, rfl, h1, h2, h3, h4⟩
  · rw [h] at h0; simp at h0
  · refine run_convert_bytes_back (P := Tryd.prog) w 27 9 5 ⟨b, off, none⟩ cap l Tryd.underlying27 Tryd.underlying5 Tryd.underlying9 (fun j hj => ?_)
    have h5 := h4 j _ (List.getElem?_eq_getElem hj)
    have e : (⟨b, off, none⟩ : Addr).add j = ⟨b, off + j, none⟩ := by unfold Addr.add; split <;> simp_all
    rw [e]
    exact h5
theorem wk_bitmap (w : World) (hT : PowW w) : BI w (w.heap.size + 1) 2 1 (some ⟨w.heap.size, 0, none⟩) 1 1 wkB ((w.alloc (.cells #[.int .u64 9223372036854775808] 50)).alloc (.cells #[.int .i64 2, .int .i64 1, .slice (some ⟨w.heap.size, 0, none⟩) 1 1] 25)) := by
  have h1 := (Below.refl w.heap.size w).alloc (Nat.le_refl _) (.cells #[.int .u64 9223372036854775808] 50)
  have hw : IsWords (w.alloc (.cells #[.int .u64 9223372036854775808] 50)) (some ⟨w.heap.size, 0, none⟩) 1 1 wkB := by
    refine Or.inr ⟨w.heap.size, 0, rfl, Nat.le_refl _, by decide, by simp, fun i hi => ?_⟩
    obtain rfl : i = 0 := by omega
    exact ⟨Joins.cell_of_block (heap_alloc_new w _) 0, by show 9223372036854775808 < 2 ^ 64; decide⟩
  have h2 := BI.new (W := 2) (H := 1) hw (hT.below h1)
  have hs : (w.alloc (.cells #[.int .u64 9223372036854775808] 50)).heap.size = w.heap.size + 1 := by simp
  rw [hs] at h2
  exact ⟨h2.c0, h2.c1, h2.c2, h2.k, h2.t, h1.trans (h2.bel.mono (by rw [hs]; omega))⟩

theorem wk_w0 (g : Nat) (w : World) (hK : IsWords w (some ⟨g, 0, none⟩) 1 1 wkB) (hT : PowW w) : Calls Tryd.prog 8 #[.agg #[.int .i64 2, .int .i64 1, .slice (some ⟨g, 0, none⟩) 1 1], .int .i64 0] w fun e w' =>
    ∃ a cap, e = .returned (.tuple #[.slice a 10 cap, .int .i64 0]) ∧ IsBytes w' a cap [80, 49, 10, 50, 32, 49, 10, 49, 48, 10] ∧ Below w.heap.size w w' := by
  refine (write8_ok0 2 1 (some ⟨g, 0, none⟩) 1 1 wkB w hK hT wk_ok).mono ?_
  rintro e w' ⟨v, B0, rfl, ho, -, hb⟩
  rw [wk_f0] at ho
  obtain ⟨a, cap, rfl, hk⟩ := ho.bytes
  exact ⟨a, cap, rfl, hk, hb⟩
theorem wk_w1 (g : Nat) (w : World) (hK : IsWords w (some ⟨g, 0, none⟩) 1 1 wkB) (hT : PowW w) : Calls Tryd.prog 8 #[.agg #[.int .i64 2, .int .i64 1, .slice (some ⟨g, 0, none⟩) 1 1], .int .i64 1] w fun e w' =>
    ∃ a cap, e = .returned (.tuple #[.slice a 8 cap, .int .i64 0]) ∧ IsBytes w' a cap [80, 52, 10, 50, 32, 49, 10, 128] ∧ Below w.heap.size w w' := by
  refine (write8_ok1 2 1 (some ⟨g, 0, none⟩) 1 1 wkB w hK hT wk_ok).mono ?_
  rintro e w' ⟨v, B0, rfl, ho, -, hb⟩
  rw [wk_f1] at ho
  obtain ⟨a, cap, rfl, hk⟩ := ho.bytes
  exact ⟨a, cap, rfl, hk, hb⟩
theorem wk_rd (a : Option Addr) (cap : Nat) (w : World) (hK : IsBytes w a cap wkL) : Calls Tryd.prog 14 #[.slice a 18 cap] w fun e w' =>
    ∃ c cap, e = .returned (.tuple #[.agg #[.int .i64 2, .int .i64 1, .slice c 1 cap], .int .i64 0]) ∧ IsWords w' c 1 cap wkB ∧ Below w.heap.size w w' := by
  refine (read14 a cap wkL w (by decide) hK).mono ?_
  intro e w' h
  rw [wk_read] at h
  obtain ⟨hb, c, cap', C, rfl, hk, hp, -⟩ := h
  refine ⟨c, cap', rfl, ?_, hb⟩
  have he := pix_ext hp wk_pix (IsWords.lt hk) (fun i _ => by show 9223372036854775808 < 2 ^ 64; decide)
  rcases hk with h0 | ⟨b, off, rfl, h1, h2, h3, h4⟩
  · exact Or.inl h0
  · exact Or.inr ⟨b, off, rfl, h1, h2, h3, fun i hi => by rw [← he i hi]; exact h4 i hi⟩

theorem wk_bytes (w : World) (arr : Array Value) (fr : Nat × Nat) (h : arr.toList = bv wkL) : IsBytes (w.alloc (.cells arr 5 fr)) (some ⟨w.heap.size, 0, none⟩) 18 wkL := by
  refine Or.inr ⟨w.heap.size, 0, rfl, by decide, by decide, by simp, fun i u hu => ?_⟩
  rw [Nat.zero_add]
  refine (Joins.cell_of_block (heap_alloc_new w (.cells arr 5 fr)) i).trans ?_
  rw [← Array.getElem?_toList, h]
  exact bv_get wkL i u hu
set_option maxHeartbeats 4000000 in
set_option maxRecDepth 100000 in
theorem wakes12 (w : World) (hT : PowW w) : Calls Tryd.prog 12 #[] w fun e w' => e = .returned (.bool true) ∧ Below w.heap.size w w' := by
  have HW1 := Lib.hid (wk_bitmap w hT)
  clear hT
  go_enter Tryd.func12, Tryd.ntmps12
  go_upto_region 2 with fail
  obtain ⟨g, hg⟩ : ∃ g, w.heap.size = g := ⟨_, rfl⟩
  rw [hg] at HW1
  rw [hg]
  have HG := Lib.hid hg
  clear hg
  have c0 := HW1.out.c0
  have c1 := HW1.out.c1
  have c2 := HW1.out.c2
  generalize (w.alloc (.cells #[.int .u64 9223372036854775808] 50)).alloc (.cells #[.int .i64 2, .int .i64 1, .slice (some ⟨g, 0, none⟩) 1 1] 25) = w1 at *
  go_upto_region 3 with (go_at_call 8; refine (wk_w0 g _ HW1.out.k HW1.out.t).mono ?_; rintro e w2 ⟨a2, cap2, rfl, hk2, hb2⟩; have HK2 := Lib.hid hk2; have HW2 := Lib.hid (HW1.out.step hb2); clear hk2 hb2 c0 c1 c2 HW1; have c0 := HW2.out.c0; have c1 := HW2.out.c1; have c2 := HW2.out.c2)
  go_upto_region 4 with (go_at_call 8; refine (wk_w1 g _ HW2.out.k HW2.out.t).mono ?_; rintro e w3 ⟨a3, cap3, rfl, hk3, hb3⟩; have HK3 := Lib.hid hk3; have HK2b := Lib.hid (HK2.out.below hb3); have HW3 := Lib.hid (HW2.out.step hb3); clear hk3 hb3 c0 c1 c2 HW2 HK2; have c0 := HW3.out.c0; have c1 := HW3.out.c1; have c2 := HW3.out.c2)
  have hcv := Lib.run_convert_bytes_const (P := Tryd.prog) w3 27 5 #[.int .u8 80, .int .u8 49, .int .u8 32, .int .u8 50, .int .u8 35, .int .u8 120, .int .u8 10, .int .u8 49, .int .u8 32, .int .u8 49, .int .u8 32, .int .u8 48, .int .u8 32, .int .u8 35, .int .u8 32, .int .u8 101, .int .u8 110, .int .u8 100] 18 18 Tryd.underlying27 Tryd.underlying5
  go_upto_region 5 with (go_at_call 14; refine (wk_rd _ _ _ ?_).mono ?_; exact wk_bytes w3 _ _ rfl; rintro e w4 ⟨c4, cap4, rfl, hk4, hb4⟩; have hb4 := ((Below.refl w3.heap.size w3).alloc (Nat.le_refl _) _).trans (hb4.mono (by simp)); have HK3b := Lib.hid (HK3.out.below hb4); have HK2c := Lib.hid (HK2b.out.below hb4); have HW4 := Lib.hid (HW3.out.step hb4); have HK4 := Lib.hid hk4; clear hk4 hb4 c0 c1 c2 HW3 HK2b HK3; have c0 := HW4.out.c0; have c1 := HW4.out.c1; have c2 := HW4.out.c2)
  have hb5 := (Below.refl w4.heap.size w4).alloc (Nat.le_refl _) (.cells #[.int .i64 2, .int .i64 1, .slice c4 1 cap4] 25)
  have HN := Lib.hid (BI.new (W := 2) (H := 1) HK4.out HW4.out.t)
  have HW5 := Lib.hid (HW4.out.step hb5)
  have HS2 := Lib.hid (str_of_bytes (HK2c.out.below hb5) (by decide) (n := 10) rfl)
  have HS3 := Lib.hid (str_of_bytes (HK3b.out.below hb5) (by decide) (n := 8) rfl)
  clear hb5 c0 c1 c2
  have c0 := HW5.out.c0
  have c1 := HW5.out.c1
  have c2 := HW5.out.c2
  have e0 := HN.out.c0
  have e1 := HN.out.c1
  have e2 := HN.out.c2
  have hs2 := HS2.out
  have hs3 := HS3.out
  obtain ⟨g4, hg4⟩ : ∃ g4, w4.heap.size = g4 := ⟨_, rfl⟩
  rw [hg4] at e0 e1 e2 ⊢
  generalize w4.alloc (.cells #[.int .i64 2, .int .i64 1, .slice c4 1 cap4] 25) = w5 at *
  go_wp2_with (go_at_call 17; refine (eqbitmap0 2 1 c4 1 cap4 wkB 2 1 (some ⟨g, 0, none⟩) 1 1 wkB true _ HN.out.k HW5.out.k ⟨fun _ => ⟨rfl, rfl, rfl, fun _ _ => rfl⟩, fun _ => rfl⟩ (by decide)).mono ?_; rintro e w6 ⟨rfl, hb6⟩; have HB6 := Lib.hid hb6; clear hb6)
  go_ret
  exact ⟨rfl, HW5.out.bel.trans (HB6.out.mono HW5.out.bel.size)⟩
end Go.Proofs.YtgpjpmadbepblaaDoor
