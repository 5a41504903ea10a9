/- The walk of MeasureMeans. -/
import Derived.Test.YtokdgppaedklhaaW8
namespace Go.Proofs.Ytokdgppaedklhaa
open Go.RowKit Fl Go.FlW

theorem IsWords.below {w w' : World} {a : Option Addr} {n cap : Nat} {L : Nat → Nat} (h : IsWords w a n cap L) (hb : Below w.heap.size w w') : IsWords w' a n cap L := by
  rcases h with h | ⟨b, off, h1, h2, h3, h4, h5⟩
  · exact Or.inl h
  · exact Or.inr ⟨b, off, h1, h2, h3, Nat.lt_of_lt_of_le h4 hb.size, fun i hi => ⟨(hb.cell (p := ⟨b, off + i, none⟩) h4).trans (h5 i hi).1, (h5 i hi).2⟩⟩
theorem IsWords.lt {w : World} {a : Option Addr} {n cap : Nat} {L : Nat → Nat} (h : IsWords w a n cap L) : ∀ i, i < n → L i < 2 ^ 64 := by
  intro i hi
  rcases h with h | ⟨b, off, h1, h2, h3, h4, h5⟩
  · omega
  · exact (h5 i hi).2

/-- 'floats', told by what it makes -/
theorem floats_fl (a : Option Addr) (len cap : Nat) (L : Nat → Nat) (w : World) (h : IsWords w a len cap L) (hlen : len ≤ 2000) :
    Calls Try.prog 24 #[.slice a len cap] w fun e w' => ∃ v, e = .returned v ∧ IsFl w' v len L ∧ Below w.heap.size w w' :=
  (floats24 a len cap L w h hlen).mono fun _ _ ⟨v, he, ho, hb⟩ => ⟨v, he, isFl_of_owns ho h.lt, hb⟩

set_option maxRecDepth 100000 in
set_option maxHeartbeats 1000000 in
/-- lists that read alike are equal -/
theorem eqints28 (g g' n : Nat) (Z : Nat → Int) (w : World) (hn : n ≤ 5000) (h1 : ∀ i, i < n → w.cell? ⟨g, i, none⟩ = some (.int .i64 (Z i))) (h2 : ∀ i, i < n → w.cell? ⟨g', i, none⟩ = some (.int .i64 (Z i))) :
    Calls Try.prog 28 #[.slice (some ⟨g, 0, none⟩) n n, .slice (some ⟨g', 0, none⟩) n n] w (BoolN true w) := by
  go_enter Try.func28, Try.ntmps28
  go_wp2
  go_loopw [5] (fun i wr => ∃ k : Nat, k ≤ n ∧ i = .int .i64 k ∧ ∃ m, wr = w.drewN m) (fun i _ => n - (intOf i).toNat)
  case atStart => exact ⟨0, Nat.zero_le _, rfl, 0, rfl⟩
  case round =>
    obtain ⟨k, hk, rfl, m, rfl⟩ := hrel
    by_cases hlt : k < n
    · have c1 := h1 k hlt
      have c2 := h2 k hlt
      clear h1 h2
      generalize Z k = z at *
      go_wp2
      go_quiet (fail)
      go_wp2
      go_roundw
      case rel => exact ⟨k + 1, by omega, by go_num, _, rfl⟩
      case measure => simp [intOf]; omega
    · clear h1 h2
      go_wp2
      go_ret
      exact ⟨rfl, _, rfl⟩

theorem eqnil28 (w : World) : Calls Try.prog 28 #[.slice none 0 0, .slice none 0 0] w (BoolN true w) := by
  go_enter Try.func28, Try.ntmps28
  go_wp2
  go_loopw [5] (fun i wr => i = .int .i64 0 ∧ wr = w) (fun i _ => 0)
  case atStart => exact ⟨rfl, rfl⟩
  case round =>
    obtain ⟨rfl, rfl⟩ := hrel
    go_wp2
    go_ret
    exact ⟨rfl, 0, rfl⟩

/-- what holds of the box and of the two lists in every world from then on -/
structure MInv (w : World) (W0 : Nat) (a : Option Addr) (len cap : Nat) (L : Nat → Nat) (b : Option Addr) (len2 cap2 : Nat) (L2 : Nat → Nat) (W : World) : Prop where
  lt : W0 < W.heap.size
  c0 : W.cell? ⟨W0, 0, none⟩ = some (.slice a len cap)
  c1 : W.cell? ⟨W0, 1, none⟩ = some (.slice b len2 cap2)
  k1 : IsWords W a len cap L
  k2 : IsWords W b len2 cap2 L2
  bel : Below W0 w W

theorem MInv.step {w : World} {W0 : Nat} {a : Option Addr} {len cap : Nat} {L : Nat → Nat} {b : Option Addr} {len2 cap2 : Nat} {L2 : Nat → Nat} {W W' : World}
    (h : MInv w W0 a len cap L b len2 cap2 L2 W) (hb : Below W.heap.size W W') : MInv w W0 a len cap L b len2 cap2 L2 W' :=
  ⟨Nat.lt_of_lt_of_le h.lt hb.size, (hb.cell (p := ⟨W0, 0, none⟩) h.lt).trans h.c0, (hb.cell (p := ⟨W0, 1, none⟩) h.lt).trans h.c1, h.k1.below hb, h.k2.below hb,
    h.bel.trans (hb.mono (Nat.le_of_lt h.lt))⟩
theorem MInv.draws {w : World} {W0 : Nat} {a : Option Addr} {len cap : Nat} {L : Nat → Nat} {b : Option Addr} {len2 cap2 : Nat} {L2 : Nat → Nat} {W : World}
    (h : MInv w W0 a len cap L b len2 cap2 L2 W) (n : Nat) : MInv w W0 a len cap L b len2 cap2 L2 (W.drewN n) := h.step (below_drewN (Below.refl _ _) n)

/-- the counts, or the refusal -/
def BinsV (E : Nat → Nat) (ne : Nat) (L : Nat → Nat) (n : Nat) (w : World) (v : Value) (c : Int) : Prop :=
  (¬ okE E ne ∧ v = .slice none 0 0 ∧ c = 102) ∨ (okE E ne ∧ c = 0 ∧ ∃ g, v = .slice (some ⟨g, 0, none⟩) (ne + 2) (ne + 2) ∧ g < w.heap.size ∧ w.heap[g]? = some (.cells (cntArr E ne L n) 3 (0, 0)))
theorem BinsV.of {E : Nat → Nat} {ne : Nat} {L : Nat → Nat} {n : Nat} {w w' : World} {e : Ending} (h : BinsOk E ne L n w e w') :
    ∃ v c, e = .returned (.tuple #[v, .int .i64 c]) ∧ BinsV E ne L n w' v c ∧ Below w.heap.size w w' := by
  obtain ⟨hb, h⟩ := h
  rcases h with ⟨h1, h2⟩ | ⟨h1, g, h2, h3, h4⟩
  · exact ⟨_, _, h2, Or.inl ⟨h1, rfl, rfl⟩, hb⟩
  · exact ⟨_, _, h3, Or.inr ⟨h1, rfl, g, rfl, (Array.getElem?_eq_some_iff.1 h4).1, h4⟩, hb⟩
theorem BinsV.below {E : Nat → Nat} {ne : Nat} {L : Nat → Nat} {n : Nat} {w w' : World} {v : Value} {c : Int} (h : BinsV E ne L n w v c) (hb : Below w.heap.size w w') : BinsV E ne L n w' v c := by
  rcases h with h | ⟨h1, h2, g, h3, h4, h5⟩
  · exact Or.inl h
  · exact Or.inr ⟨h1, h2, g, h3, Nat.lt_of_lt_of_le h4 hb.size, (hb.block g h4).trans h5⟩
theorem BinsV.agree {E : Nat → Nat} {ne : Nat} {L : Nat → Nat} {n : Nat} {w w' : World} {v v' : Value} {c c' : Int} (h : BinsV E ne L n w v c) (h' : BinsV E ne L n w' v' c') : c = c' := by
  rcases h with ⟨h1, _, h2⟩ | ⟨h1, h2, _⟩ <;> rcases h' with ⟨g1, _, g2⟩ | ⟨g1, g2, _⟩
  · rw [h2, g2]
  · exact absurd g1 h1
  · exact absurd h1 g1
  · rw [h2, g2]
theorem eqbins28 {E : Nat → Nat} {ne : Nat} {L : Nat → Nat} {n : Nat} {w : World} {v v' : Value} {c c' : Int} (hne : ne ≤ 200) (h : BinsV E ne L n w v c) (h' : BinsV E ne L n w v' c') :
    Calls Try.prog 28 #[v, v'] w (BoolN true w) := by
  rcases h with ⟨h1, h2, _⟩ | ⟨h1, _, g, h2, h3, h4⟩ <;> rcases h' with ⟨g1, g2, _⟩ | ⟨g1, _, g', g2, g3, g4⟩
  · subst h2; subst g2; exact eqnil28 w
  · exact absurd g1 h1
  · exact absurd h1 g1
  · subst h2; subst g2
    refine eqints28 g g' (ne + 2) (fun j => (cnt E ne L n j : Nat)) w (by omega) (fun i hi => ?_) (fun i hi => ?_)
    · rw [← cntArr_get E ne L n hi]; exact Joins.cell_of_block h4 _
    · rw [← cntArr_get E ne L n hi]; exact Joins.cell_of_block g4 _
theorem bins25v {v u : Value} {n ne : Nat} {L E : Nat → Nat} (w : World) (hv : IsFl w v n L) (hu : IsFl w u ne E) (hn : n ≤ 2000) (hne : ne ≤ 200) :
    Calls Try.prog 25 #[v, u] w fun e w' => ∃ x c, e = .returned (.tuple #[x, .int .i64 c]) ∧ BinsV E ne L n w' x c ∧ Below w.heap.size w w' :=
  (bins25 v u n ne L E w hv hu hn hne).mono fun _ _ h => BinsV.of h
theorem bins26v {v u : Value} {n ne : Nat} {L E : Nat → Nat} (w : World) (hv : IsFl w v n L) (hu : IsFl w u ne E) (hn : n ≤ 2000) (hne : ne ≤ 200) :
    Calls Try.prog 26 #[v, u] w fun e w' => ∃ x c, e = .returned (.tuple #[x, .int .i64 c]) ∧ BinsV E ne L n w' x c ∧ Below w.heap.size w w' :=
  (bins26 v u n ne L E w hv hu hn hne).mono fun _ _ h => BinsV.of h

theorem same13_true {x y : Nat} (w : World) (h : same x y = true) (hx : x < 2 ^ 64) (hy : y < 2 ^ 64) : Calls Try.prog 13 #[.float .f64 x, .float .f64 y] w (BoolN true w) :=
  (same13 x y w hx hy).mono fun e w' ⟨he, hw⟩ => ⟨by rw [he, h], hw⟩

set_option maxRecDepth 100000 in
set_option maxHeartbeats 4000000 in
theorem means_walk (a : Option Addr) (len cap : Nat) (L : Nat → Nat) (b : Option Addr) (len2 cap2 : Nat) (L2 : Nat → Nat) (w : World) (h : IsWords w a len cap L) (h2 : IsWords w b len2 cap2 L2) :
    Calls Try.prog 10 #[.agg #[.slice a len cap, .slice b len2 cap2]] w fun e w' => e = .returned (.bool true) ∧ Below w.heap.size w w' := by
  by_cases hl : len ≤ 2000
  · by_cases hl2 : len2 ≤ 200
    · have f1 : decide ((2000 : Int) < (len : Int)) = false := by simp; omega
      have f2 : decide ((200 : Int) < (len2 : Int)) = false := by simp; omega
      go_enter Try.func10, Try.ntmps10
      go_upto_region 3 with fail
      -- the box
      have hb0 : Below w.heap.size w (w.alloc (.cells #[.slice a len cap, .slice b len2 cap2] 46)) := (Below.refl _ _).alloc (Nat.le_refl _) _
      have I0 : MInv w w.heap.size a len cap L b len2 cap2 L2 (w.alloc (.cells #[.slice a len cap, .slice b len2 cap2] 46)) :=
        ⟨by simp, by rw [World.cell?_alloc_at _ _ _ _ rfl]; rfl, by rw [World.cell?_alloc_at _ _ _ _ rfl]; rfl, h.below hb0, h2.below hb0, hb0⟩
      obtain ⟨W0, hW0⟩ : ∃ W0, w.heap.size = W0 := ⟨_, rfl⟩
      rw [hW0] at I0 ⊢
      clear h h2 hb0 f1 f2
      generalize w.alloc (.cells #[.slice a len cap, .slice b len2 cap2] 46) = w0 at *
      have c0 := I0.c0
      have c1 := I0.c1
      go_upto_region 4 with (go_at_call 24; refine (floats_fl a len cap L _ I0.k1 hl).mono ?_; rintro e w1 ⟨v1, rfl, f1, bel1⟩)
      have I1 := I0.step bel1
      clear I0 c0 c1 bel1
      have c0 := I1.c0
      have c1 := I1.c1
      go_upto_region 5 with (go_at_call 24; refine (floats_fl b len2 cap2 L2 _ I1.k2 (by omega)).mono ?_; rintro e w2 ⟨v2, rfl, f2, bel2⟩)
      have I2 := I1.step bel2
      have f1 := f1.below bel2
      clear I1 c0 c1 bel2
      go_upto_region 6 with (go_at_call 18; refine (mean18 v1 len L _ f1).mono ?_; rintro e w3 ⟨r1, rfl, hr1, hrl1, n1, rfl⟩)
      have I3 := I2.draws n1
      have f1 := f1.below (below_drewN (Below.refl _ _) n1)
      have f2 := f2.below (below_drewN (Below.refl _ _) n1)
      clear I2
      generalize w2.drewN n1 = w3 at *
      go_upto_region 7 with (go_at_call 25; refine (bins25v _ f1 f2 hl hl2).mono ?_; rintro e w4 ⟨bv, bc, rfl, hbv, bel4⟩)
      have I4 := I3.step bel4
      have f1 := f1.below bel4
      clear I3 bel4 f2
      have c0 := I4.c0
      have c1 := I4.c1
      have I := Lib.hid I4
      have HV := Lib.hid hbv
      have F1 := Lib.hid f1
      have HR := Lib.hid hr1
      clear I4 hbv f1 hr1
      go_region_held3 (fun w' => w'.cell? ⟨W0, 0, none⟩ = some (.slice a len cap) ∧ w'.cell? ⟨W0, 1, none⟩ = some (.slice b len2 cap2)) (go_keep)
        ((first
          | (go_at_call_of 24 len; refine (floats_fl a len cap L _ ?_ hl).mono ?_; exact I.out.k1; rintro e w5 ⟨v3, rfl, f3, bel5⟩; have bel5 : Below w4.heap.size w4 w5 := Below.trans (Below.drew (Below.refl _ w4)) bel5; have I5 := Lib.hid (MInv.step I.out bel5); have F3 := Lib.hid f3; have HV5 := Lib.hid (BinsV.below HV.out bel5); have F15 := Lib.hid (IsFl.below F1.out bel5); have c0 := I5.out.c0; have c1 := I5.out.c1; clear f3 bel5)
          | (go_at_call_of 24 len2; refine (floats_fl b len2 cap2 L2 _ ?_ ?_).mono ?_; exact I5.out.k2; omega; rintro e w6 ⟨v4, rfl, f4, bel6⟩; have I6 := Lib.hid (MInv.step I5.out bel6); have F4 := Lib.hid f4; have F3b := Lib.hid (IsFl.below F3.out bel6); have HV6 := Lib.hid (BinsV.below HV5.out bel6); have F16 := Lib.hid (IsFl.below F15.out bel6); have c0 := I6.out.c0; have c1 := I6.out.c1; clear f4 bel6)
          | (go_at_call 26; refine (bins26v (v := v3) (u := v4) (n := len) (ne := len2) (L := L) (E := L2) _ ?_ ?_ hl hl2).mono ?_; exact F3b.out; exact F4.out; rintro e w7 ⟨cv, cc, rfl, hcv, bel7⟩; have I7 := Lib.hid (MInv.step I6.out bel7); have HC := Lib.hid hcv; have HV7 := Lib.hid (BinsV.below HV6.out bel7); have F17 := Lib.hid (IsFl.below F16.out bel7); have c0 := I7.out.c0; have c1 := I7.out.c1; clear hcv bel7)))
      clear I I5 I6 F1 F15 F16 HV HV5 HV6 F3 F3b F4 c0 c1
      have hcc : bc = cc := HV7.out.agree HC.out
      subst hcc
      have c0 := I7.out.c0
      have c1 := I7.out.c1
      go_upto_region 10 with (first
        | (go_at_call 24; refine (floats_fl a len cap L _ I7.out.k1 hl).mono ?_; rintro e w8 ⟨v5, rfl, f5, bel8⟩; have I8 := Lib.hid (I7.out.step bel8); have HV8 := Lib.hid (HV7.out.below bel8); have HC8 := Lib.hid (HC.out.below bel8); have F18 := Lib.hid (F17.out.below bel8); have F5 := Lib.hid f5; clear f5 bel8)
        | (go_at_call 27; refine (mean27 v5 len L _ F5.out).mono ?_; rintro e w9 ⟨r5, rfl, hr5, hrl5, n5, rfl⟩; have HS := Lib.hid (same_of_cl (HR.out.trans hr5.symm)); clear hr5)
        | (go_at_call 13; refine (same13_true _ HS.out hrl1 hrl5).mono ?_; rintro e w9 ⟨rfl, n6, rfl⟩)
        | (go_at_call 28; refine (eqbins28 hl2 (HV8.out.below (below_drewN (Below.refl _ _) _)) (HC8.out.below (below_drewN (Below.refl _ _) _))).mono ?_; rintro e w9 ⟨rfl, n7, rfl⟩))
      clear c0 c1 HV7 HC HV8 HC8 HS HR F17 F5 I7
      obtain ⟨a1, cap1, hv1, hF⟩ := F18.out
      rw [hv1]
      clear F18 hv1
      go_wp2_with fail
      go_loopw [10] (fun i wr => ∃ k : Nat, k ≤ len ∧ i = .int .i64 k ∧ ∃ m, wr = w8.drewN m) (fun i _ => len - (intOf i).toNat)
      case atStart => exact ⟨0, Nat.zero_le _, rfl, _, rfl⟩
      case round =>
        obtain ⟨k, hk, rfl, m, rfl⟩ := hrel
        by_cases hlt : k < len
        · rcases hF with rfl | ⟨g, rfl, hlc, hcm, hgs, hcell⟩
          · omega
          · rcases I8.out.k1 with rfl | ⟨bw, offw, rfl, hlw, hcw, hbw, hcellw⟩
            · omega
            · have c0 := I8.out.c0
              have d1 := (hcell k hlt).1
              have d2 := (hcellw k hlt).1
              have h29 := call29 (L k)
              have hb : ((L k : Int) != (L k : Int)) = false := by simp
              clear hcell hcellw
              generalize L k = lk at *
              go_wp2
              go_quiet (fail)
              go_wp2
              go_roundw
              case rel => exact ⟨k + 1, by omega, by go_num, _, rfl⟩
              case measure => simp [intOf]; omega
        · have hb8 := I8.out.bel
          go_wp2_with (go_at_call 14; refine (wakes14 _).mono ?_; rintro e w' ⟨rfl, n, rfl⟩)
          go_ret
          rw [← hW0] at hb8
          exact ⟨rfl, below_drewN hb8 _⟩
    · have hl2' : ¬ (len2 : Int) ≤ 200 := by omega
      have hl2'' : (200 : Int) < len2 := by omega
      go_enter Try.func10, Try.ntmps10
      go_wp2_with (go_at_call 14; refine (wakes14 _).mono ?_; rintro e w' ⟨rfl, n, rfl⟩)
      go_ret
      exact ⟨rfl, below_drewN ((Below.refl _ _).alloc (Nat.le_refl _) _) _⟩
  · have hl' : (2000 : Int) < len := by omega
    go_enter Try.func10, Try.ntmps10
    go_wp2_with (go_at_call 14; refine (wakes14 _).mono ?_; rintro e w' ⟨rfl, n, rfl⟩)
    go_ret
    exact ⟨rfl, below_drewN ((Below.refl _ _).alloc (Nat.le_refl _) _) _⟩
end Go.Proofs.Ytokdgppaedklhaa
