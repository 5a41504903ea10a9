/- PbmReads walked. Conditions: the bounds that each theorem names. -/
import Derived.Test.YtgpjpmadbepblaaDoorSy
namespace Go.Proofs.YtgpjpmadbepblaaDoor
open Go.RowKit Go.Bm Go.Pbm Go.Sort

/-- bytes of the list, and the same lent -/
structure RSt (w w1 : World) (b o : Nat) (m : BL) (g : Nat) : Prop where
  hm : BytesAt w b o m
  t : PowW w
  own : IsOwnB w1 g (lendK m.l 7)
  bel : Below w.heap.size w w1
  hg : w.heap.size ≤ g
theorem RSt.step {w w1 w2 : World} {b o : Nat} {m : BL} {g : Nat} (h : RSt w w1 b o m g) (hb : Below w1.heap.size w1 w2) : RSt w w2 b o m g :=
  ⟨h.hm, h.t, h.own.below hb, h.bel.trans (hb.mono h.bel.size), h.hg⟩
theorem RSt.at {w w1 : World} {b o : Nat} {m : BL} {g : Nat} (h : RSt w w1 b o m g) : BytesAt w1 b o m := BytesAt.below h.hm h.bel
theorem RSt.bytes {w w1 : World} {b o : Nat} {m : BL} {g : Nat} (h : RSt w w1 b o m g) (hn : m.l.length ≤ 20000) : IsBytes w1 (some ⟨g, 0, none⟩) (m.l.length + 7) m.l :=
  IsOwnB.bytes (IsOwnB.take (m := List.replicate 7 165) h.own) (by omega) (by omega)
theorem RSt.back {w w1 w2 : World} {b o : Nat} {m : BL} {g : Nat} (h : RSt w w1 b o m g) (hg : w1.grownBy w2 (some g)) : Below w.heap.size w w2 ∧ BytesAt w2 b o m := by
  have h1 := h.hg
  have hb : Below w.heap.size w w2 := Below.grown h.bel hg h.bel.size (fun z hz => by cases hz; omega)
  exact ⟨hb, BytesAt.below h.hm hb⟩
/-- a bitmap that was told, in a box -/
structure RBox (w1 : World) (p g : Nat) (X : Nat ⊕ (Nat × Nat × List Bool)) (c : Option Addr) (cap : Nat) (C : Nat → Nat) : Prop where
  c0 : w1.cell? ⟨p, 0, none⟩ = some (.int .i64 (outW X : Int))
  c1 : w1.cell? ⟨p, 1, none⟩ = some (.int .i64 (outH X : Int))
  c2 : w1.cell? ⟨p, 2, none⟩ = some (.slice c (outN X) cap)
  k : IsWords w1 c (outN X) cap C
  ok : WordsOf C X
  hc : ∀ x, c = some x → g < x.block
  hp : g ≠ p
theorem RBox.step {w1 w2 : World} {p g : Nat} {X : Nat ⊕ (Nat × Nat × List Bool)} {c : Option Addr} {cap : Nat} {C : Nat → Nat} (h : RBox w1 p g X c cap C) (hb : Below w1.heap.size w1 w2) : RBox w2 p g X c cap C :=
  have l := World.block_lt_of_cell? w1 _ h.c0
  ⟨(hb.cell (p := ⟨p, 0, none⟩) l).trans h.c0, (hb.cell (p := ⟨p, 1, none⟩) l).trans h.c1, (hb.cell (p := ⟨p, 2, none⟩) l).trans h.c2, h.k.below hb, h.ok, h.hc, h.hp⟩
theorem RBox.back {w1 w2 : World} {p g : Nat} {X : Nat ⊕ (Nat × Nat × List Bool)} {c : Option Addr} {cap : Nat} {C : Nat → Nat} (h : RBox w1 p g X c cap C) (hg : w1.grownBy w2 (some g)) : RBox w2 p g X c cap C :=
  ⟨hg.cell h.c0 (fun e => h.hp (Option.some.inj e).symm), hg.cell h.c1 (fun e => h.hp (Option.some.inj e).symm), hg.cell h.c2 (fun e => h.hp (Option.some.inj e).symm), words_back ⟨h.k, h.hc⟩ hg, h.ok, h.hc, h.hp⟩
theorem RBox.new {w2 : World} {g : Nat} {X : Nat ⊕ (Nat × Nat × List Bool)} {c : Option Addr} {cap : Nat} {C : Nat → Nat} (hk : IsWords w2 c (outN X) cap C) (ho : WordsOf C X) (hc : ∀ x, c = some x → g < x.block) (hg : g < w2.heap.size) :
    RBox (w2.alloc (.cells #[.int .i64 (outW X : Int), .int .i64 (outH X : Int), .slice c (outN X) cap] 25)) w2.heap.size g X c cap C := by
  have hn := heap_alloc_new w2 (.cells #[.int .i64 (outW X : Int), .int .i64 (outH X : Int), .slice c (outN X) cap] 25)
  have hb := (Below.refl w2.heap.size w2).alloc (Nat.le_refl _) (.cells #[.int .i64 (outW X : Int), .int .i64 (outH X : Int), .slice c (outN X) cap] 25)
  exact ⟨Joins.cell_of_block hn 0, Joins.cell_of_block hn 1, Joins.cell_of_block hn 2, hk.below hb, ho, hc, by omega⟩
theorem lend13n (a : Option Addr) (n cap : Nat) (l : List UInt8) (w : World) (hn : l.length = n) (hB : IsBytes w a cap l) (hno : a = none → l.length = 0 ∧ cap = 0) (hl : l.length ≤ 100000000) :
    Calls Tryd.prog 13 #[.slice a n cap] w fun e w' => ∃ g, e = .returned (.slice (some ⟨g, 0, none⟩) n (n + 7)) ∧ IsOwnB w' g (lendK l 7) ∧ w.heap.size ≤ g ∧ Below w.heap.size w w' := by
  subst hn
  exact lend13 a cap l w hB hno hl
theorem back16n (g : Nat) (a : Option Addr) (n cap : Nat) (l : List UInt8) (w : World) (hn : l.length = n) (hO : IsOwnB w g (lendK l 7)) (hB : IsBytes w a cap l) (hl : l.length ≤ 100000000) :
    Calls Tryd.prog 16 #[.slice (some ⟨g, 0, none⟩) n (n + 7), .slice a n cap] w fun e w' => e = .returned (.bool true) ∧ w.grownBy w' (some g) := by
  subst hn
  exact back16 g a cap l w hO hB hl
theorem alloc_below (w2 : World) (o : Obj) : Below w2.heap.size w2 (w2.alloc o) := (Below.refl _ _).alloc (Nat.le_refl _) _

set_option maxHeartbeats 4000000 in
set_option maxRecDepth 100000 in
theorem reads_walk (a : Option Addr) (len cap : Nat) (M : Nat → BL) (w : World) (hM : IsLists w a len cap M) (hT : PowW w) :
    Calls Tryd.prog 4 #[.slice a len cap] w fun e w' => e = .returned (.bool true) ∧ Below w.heap.size w w' := by
  have HM := Lib.hid hM
  have HT := Lib.hid hT
  clear hM hT
  go_enter Tryd.func4, Tryd.ntmps4
  go_wp2_with fail
  go_loopw [3] (fun v wr => ∃ i : Nat, v = .int .i64 i ∧ i ≤ 12 ∧ i ≤ len ∧ Hid (Below w.heap.size w wr)) (fun v _ => 12 - (intOf v).toNat)
  case atStart => exact ⟨0, rfl, by omega, Nat.zero_le _, Below.refl _ _⟩
  case round =>
    obtain ⟨i, rfl, hi12, hil, hbel⟩ := hrel
    by_cases hgo : i < len ∧ i < 12
    · obtain ⟨hlt, h12⟩ := hgo
      obtain ⟨b, off, ha, hcap, hcm, hmap⟩ : ∃ b off, a = some ⟨b, off, none⟩ ∧ len ≤ cap ∧ cap ≤ 9223372036854775807 ∧ ∀ i, i < len → BytesAt w b (off + i) (M i) := by
        rcases HM.out with h | h
        · omega
        · exact h
      subst ha
      have HMA := Lib.hid (hmap i hlt)
      obtain ⟨m, hm⟩ : ∃ m, M i = m := ⟨_, rfl⟩
      rw [hm] at HMA
      clear hmap
      have hltI : (i : Int) < (len : Int) := by omega
      have h12I : (i : Int) < 12 := by omega
      have HW1 := Lib.hid (BytesAt.below HMA.out hbel.out)
      have d0 := HW1.out.e
      obtain ⟨n, hn⟩ : ∃ n, m.l.length = n := ⟨_, rfl⟩
      rw [hn] at d0
      have HN := Lib.hid hn
      clear hn
      by_cases hbig : 20000 < n
      · have hbI : (20000 : Int) < (n : Int) := by omega
        clear hbig
        go_wp2_with fail
        go_roundw
        case rel => exact ⟨i + 1, by go_num, by omega, by omega, hbel⟩
        case measure => simp [intOf]; omega
      · have hbI : ¬ (20000 : Int) < (n : Int) := by omega
        have HMN : Hid (m.l.length ≤ 20000) := by show _ ≤ _; rw [HN.out]; omega
        clear hbig
        obtain ⟨X, hX⟩ : ∃ X, readS m.l = X := ⟨_, rfl⟩
        have HX := Lib.hid hX
        clear hX
        go_upto_region 6 with (go_at_call 13; refine (lend13n m.a n m.c m.l _ HN.out HW1.out.k HW1.out.no (Nat.le_trans HMN.out (by decide))).mono ?_; rintro e w4 ⟨g, rfl, ho, hg, hb4⟩; have HST : Hid (RSt w w4 b (off + i) m g) := ⟨HMA.out, HT.out, ho, hbel.out.trans (hb4.mono hbel.out.size), Nat.le_trans hbel.out.size hg⟩; clear ho hg hb4)
        clear d0 HW1
        go_upto_region 7 with (go_at_call 14; refine (read14_res (some ⟨g, 0, none⟩) n (n + 7) m.l _ HN.out (Nat.le_trans HMN.out (by decide)) (by rw [← HN.out]; exact HST.out.bytes HMN.out)).mono ?_; rw [HX.out]; rintro e w5 ⟨c5, cap5, C5, rfl, hk5, ho5, hc5, hb5⟩; have HB5 := Lib.hid (RBox.new (g := g) hk5 ho5 (fun x hx => Nat.lt_of_lt_of_le HST.out.own.lt (hc5 x hx)) (Nat.lt_of_lt_of_le HST.out.own.lt hb5.size)); have HST5 := Lib.hid ((HST.out.step hb5).step (alloc_below w5 (.cells #[.int .i64 (outW X : Int), .int .i64 (outH X : Int), .slice c5 (outN X) cap5] 25))); clear hk5 ho5 hc5 hb5 HST)
        obtain ⟨p5, hp5⟩ : ∃ p5, w5.heap.size = p5 := ⟨_, rfl⟩
        rw [hp5] at HB5 ⊢
        clear hp5
        generalize w5.alloc (.cells #[.int .i64 (outW X : Int), .int .i64 (outH X : Int), .slice c5 (outN X) cap5] 25) = w6 at *
        have d0 := HST5.out.at.e
        rw [HN.out] at d0
        go_upto_region 8 with (go_at_call 15; refine (rread15_res m.a n m.c m.l _ HN.out (Nat.le_trans HMN.out (by decide)) HST5.out.at.k).mono ?_; rw [HX.out]; rintro e w7 ⟨c7, cap7, C7, rfl, hk7, ho7, hc7, hb7⟩; have HB7 := Lib.hid (RBox.new (g := g) hk7 ho7 (fun x hx => Nat.lt_of_lt_of_le HST5.out.own.lt (hc7 x hx)) (Nat.lt_of_lt_of_le HST5.out.own.lt hb7.size)); have hall := alloc_below w7 (.cells #[.int .i64 (outW X : Int), .int .i64 (outH X : Int), .slice c7 (outN X) cap7] 25); have HST7 := Lib.hid ((HST5.out.step hb7).step hall); have HB5b := Lib.hid ((HB5.out.step hb7).step hall); clear hk7 ho7 hc7 hb7 HST5 HB5 hall d0)
        obtain ⟨p7, hp7⟩ : ∃ p7, w7.heap.size = p7 := ⟨_, rfl⟩
        rw [hp7] at HB7 ⊢
        clear hp7
        generalize w7.alloc (.cells #[.int .i64 (outW X : Int), .int .i64 (outH X : Int), .slice c7 (outN X) cap7] 25) = w8 at *
        have d0 := HST7.out.at.e
        rw [HN.out] at d0
        go_wp2_with (first
          | (go_at_call 16; refine (back16n g m.a n m.c m.l _ HN.out HST7.out.own HST7.out.at.k (Nat.le_trans HMN.out (by decide))).mono ?_; rintro e w9 ⟨rfl, hg9⟩; have HBK := Lib.hid (HST7.out.back hg9); have HB5c := Lib.hid (HB5b.out.back hg9); have HB7c := Lib.hid (HB7.out.back hg9); clear hg9 d0; have c0 := HB5c.out.c0; have c1 := HB5c.out.c1; have c2 := HB5c.out.c2; have e0 := HB7c.out.c0; have e1 := HB7c.out.c1; have e2 := HB7c.out.c2)
          | (go_at_call 17; refine (eqbitmap0 _ _ c5 _ cap5 C5 _ _ c7 _ cap7 C7 true _ HB5c.out.k HB7c.out.k ⟨fun _ => ⟨rfl, rfl, words_eq HB5c.out.k HB7c.out.k HB5c.out.ok HB7c.out.ok⟩, fun _ => rfl⟩ (outN_le HB5c.out.k)).mono ?_; rintro e w10 ⟨rfl, hb10⟩; have HB10 := Lib.hid hb10; clear hb10))
        have HEND := Lib.hid (HBK.out.1.trans (HB10.out.mono HBK.out.1.size))
        clear HBK HB5c HB7c HB10
        go_roundw
        case rel => exact ⟨i + 1, by go_num, by omega, by omega, HEND⟩
        case measure => simp [intOf]; omega
    · have hend : ¬ (i : Int) < (len : Int) ∨ ((i : Int) < (len : Int) ∧ ¬ (i : Int) < 12) := by omega
      rcases hend with h | ⟨h, h2⟩
      · go_wp2_with (go_at_call 12; refine (wakes12 _ (HT.out.below hbel.out)).mono ?_; rintro e w9 ⟨rfl, hb9⟩; have HB9 := Lib.hid hb9; clear hb9)
        go_ret
        exact ⟨rfl, hbel.out.trans (HB9.out.mono hbel.out.size)⟩
      · go_wp2_with (go_at_call 12; refine (wakes12 _ (HT.out.below hbel.out)).mono ?_; rintro e w9 ⟨rfl, hb9⟩; have HB9 := Lib.hid hb9; clear hb9)
        go_ret
        exact ⟨rfl, hbel.out.trans (HB9.out.mono hbel.out.size)⟩
end Go.Proofs.YtgpjpmadbepblaaDoor
