/- Bitmaps that are turned and mirrored by the reference. Conditions: the bounds that each theorem names. -/
import Derived.Test.YtokdgppaedklhaaDoorWj
namespace Go.Bm
/-- the first j rows, and i pixels of the next one, have been laid at (x, y) -/
def Laid (W H n : Nat) (D S : Int → Int → Nat) (x y Ws j i : Nat) (C : Nat → Nat) : Prop :=
  okB W H n C ∧ ∀ a b : Int, px W H C a b = if (x ≤ a ∧ a < x + Ws ∧ y ≤ b ∧ b < y + j) ∨ (b = y + j ∧ x ≤ a ∧ a < x + i) then S (a - x) (b - y) else D a b
theorem Laid.step {W H n : Nat} {D S : Int → Int → Nat} {x y Ws j i : Nat} {C : Nat → Nat} (h : Laid W H n D S x y Ws j i C) (hi : i < Ws) (hx : x + Ws ≤ W) (hy : y + j < H) (hS : S i j ≤ 1) :
    Laid W H n D S x y Ws j (i + 1) (setB C W (x + i) (y + j) (S i j)) := by
  refine ⟨okB_setB h.1 (by omega), fun a b => ?_⟩
  by_cases hin : 0 ≤ a ∧ a < W ∧ 0 ≤ b ∧ b < H
  · rw [px_setB W H C (x + i) (y + j) _ (by omega) hS a b hin]
    by_cases e : a = ((x + i : Nat) : Int) ∧ b = ((y + j : Nat) : Int)
    · rw [if_pos e, if_pos (by omega)]
      obtain ⟨rfl, rfl⟩ := e
      congr 1 <;> omega
    · rw [if_neg e, h.2 a b]
      by_cases c : (x ≤ a ∧ a < x + Ws ∧ y ≤ b ∧ b < y + j) ∨ (b = y + j ∧ x ≤ a ∧ a < x + i)
      · rw [if_pos c, if_pos (by omega)]
      · rw [if_neg c, if_neg (by omega)]
  · rw [px_setB_out W H C (x + i) (y + j) _ a b hin, h.2 a b]
    by_cases c : (x ≤ a ∧ a < x + Ws ∧ y ≤ b ∧ b < y + j) ∨ (b = y + j ∧ x ≤ a ∧ a < x + i)
    · rw [if_pos c, if_pos (by omega)]
    · rw [if_neg c, if_neg (by omega)]
theorem Laid.row {W H n : Nat} {D S : Int → Int → Nat} {x y Ws j : Nat} {C : Nat → Nat} (h : Laid W H n D S x y Ws j Ws C) : Laid W H n D S x y Ws (j + 1) 0 C := by
  refine ⟨h.1, fun a b => ?_⟩
  rw [h.2 a b]
  by_cases c : (x ≤ a ∧ a < x + Ws ∧ y ≤ b ∧ b < y + j) ∨ (b = y + j ∧ x ≤ a ∧ a < x + Ws)
  · rw [if_pos c, if_pos (by omega)]
  · rw [if_neg c, if_neg (by omega)]
theorem Laid.start {W H n : Nat} {S : Int → Int → Nat} {x y Ws : Nat} {C : Nat → Nat} (h : okB W H n C) : Laid W H n (px W H C) S x y Ws 0 0 C := by
  refine ⟨h, fun a b => ?_⟩
  rw [if_neg (by omega)]
end Go.Bm
namespace Go.Proofs.YtokdgppaedklhaaDoor
open Go.RowKit Go.Bm
theorem IsWords.grown {w w' : World} {a : Option Addr} {n cap g : Nat} {L : Nat → Nat} (h : IsWords w a n cap L) (hg : w.grownBy w' (some g)) (hne : ∀ b off, a = some ⟨b, off, none⟩ → b ≠ g) : IsWords w' a n cap L := by
  rcases h with h | ⟨b, off, h1, h2, h3, h4, h5⟩
  · exact Or.inl h
  · have hb := hne b off h1
    exact Or.inr ⟨b, off, h1, h2, h3, Nat.lt_of_lt_of_le h4 hg.size, fun i hi => ⟨(hg.cell_far ⟨b, off + i, none⟩ h4 (by simpa using hb)).trans (h5 i hi).1, (h5 i hi).2⟩⟩
/-- what holds while a bitmap is written: the boxes of the source and of the new one, the result's box -/
structure TB (W0 W3 g : Nat) (W H : Int) (a : Option Addr) (n cap : Nat) (A : Nat → Nat) (W2 H2 : Int) (N : Nat) (w : World) : Prop where
  c0 : w.cell? ⟨W0, 0, none⟩ = some (.int .i64 W)
  c1 : w.cell? ⟨W0, 1, none⟩ = some (.int .i64 H)
  c2 : w.cell? ⟨W0, 2, none⟩ = some (.slice a n cap)
  o0 : w.cell? ⟨W3, 0, none⟩ = some (.int .i64 W2)
  o1 : w.cell? ⟨W3, 1, none⟩ = some (.int .i64 H2)
  o2 : w.cell? ⟨W3, 2, none⟩ = some (.slice (some ⟨g, 0, none⟩) N N)
  rb : w.heap[W0 + 1]? = some (.cells #[.int .i64 0, .int .i64 0, .slice none 0 0] 25 (0, 0))
  ka : IsWords w a n cap A
  na : ∀ b off, a = some ⟨b, off, none⟩ → b ≠ g
  n0 : g ≠ W0
  n1 : g ≠ W0 + 1
  n3 : g ≠ W3
theorem TB.grown {W0 W3 g : Nat} {W H : Int} {a : Option Addr} {n cap : Nat} {A : Nat → Nat} {W2 H2 : Int} {N : Nat} {w w' : World} (h : TB W0 W3 g W H a n cap A W2 H2 N w) (hg : w.grownBy w' (some g)) : TB W0 W3 g W H a n cap A W2 H2 N w' := by
  have far : ∀ b o v, g ≠ b → w.cell? ⟨b, o, none⟩ = some v → w'.cell? ⟨b, o, none⟩ = some v := fun b o v hne hc => (hg.cell_far ⟨b, o, none⟩ (World.block_lt_of_cell? w _ hc) (fun e => hne (Option.some.inj e).symm)).trans hc
  have hl : W0 + 1 < w.heap.size := (Array.getElem?_eq_some_iff.1 h.rb).1
  exact ⟨far _ _ _ h.n0 h.c0, far _ _ _ h.n0 h.c1, far _ _ _ h.n0 h.c2, far _ _ _ h.n3 h.o0, far _ _ _ h.n3 h.o1, far _ _ _ h.n3 h.o2, (hg.block (W0 + 1) hl (fun e => h.n1 (Option.some.inj e).symm)).trans h.rb, h.ka.grown hg h.na, h.na, h.n0, h.n1, h.n3⟩
theorem TB.below {W0 W3 g : Nat} {W H : Int} {a : Option Addr} {n cap : Nat} {A : Nat → Nat} {W2 H2 : Int} {N : Nat} {w w' : World} (h : TB W0 W3 g W H a n cap A W2 H2 N w) (hb : Below w.heap.size w w') : TB W0 W3 g W H a n cap A W2 H2 N w' := by
  have far : ∀ b o v, w.cell? ⟨b, o, none⟩ = some v → w'.cell? ⟨b, o, none⟩ = some v := fun b o v hc => (hb.cell (p := ⟨b, o, none⟩) (World.block_lt_of_cell? w _ hc)).trans hc
  have hl : W0 + 1 < w.heap.size := (Array.getElem?_eq_some_iff.1 h.rb).1
  exact ⟨far _ _ _ h.c0, far _ _ _ h.c1, far _ _ _ h.c2, far _ _ _ h.o0, far _ _ _ h.o1, far _ _ _ h.o2, (hb.block _ hl).trans h.rb, h.ka.below hb, h.na, h.n0, h.n1, h.n3⟩

set_option maxRecDepth 100000 in
set_option maxHeartbeats 8000000 in
/-- Turn: the pixel (i, j) is the elder (j, H - 1 - i) -/
theorem turn19 (W H : Nat) (a : Option Addr) (n cap : Nat) (A : Nat → Nat) (w : World) (hA : IsWords w a n cap A) (ho : okB W H n A) :
    Calls Tryd.prog 19 #[.agg #[.int .i64 (W : Int), .int .i64 (H : Int), .slice a n cap]] w fun e w' => ∃ g C, e = .returned (.agg #[.int .i64 (H : Int), .int .i64 (W : Int), .slice (some ⟨g, 0, none⟩) (W * wd H) (W * wd H)]) ∧ IsOwn w' g (W * wd H) C ∧ Laid H W (W * wd H) (fun _ _ => 0) (fun i j => px W H A j (H - 1 - i)) 0 0 H W 0 C ∧ w.heap.size ≤ g ∧ Below w.heap.size w w' := by
  have hs := okS_le ho.1
  have hw1 : W ≤ 1048576 := by omega
  have hh1 : H ≤ 1048576 := by omega
  have hw0 : 1 ≤ W := by have := ho.1.1; omega
  have hh0 : 1 ≤ H := by have := ho.1.2.1; omega
  have hn0 : n = H * wd W := by have := ho.2.1; simpa using this
  have hok2 : okB H W (W * wd H) (fun _ => 0) := by
    refine ⟨⟨by omega, by omega, ?_⟩, by simp, fun _ _ => Or.inr (by simp)⟩
    have := ho.1.2.2
    first | exact this | (rw [Int.mul_comm]; exact this)
  have hl0 : Laid H W (W * wd H) (fun _ _ => 0) (fun i j => px W H A j (H - 1 - i)) 0 0 H 0 0 (fun _ => 0) := by
    refine ⟨hok2, fun x y => ?_⟩
    rw [if_neg (by omega)]
    unfold px; split <;> simp
  have HL0 := Lib.hid hl0
  have HN0 := Lib.hid hn0
  have hcap : W * wd H ≤ 9223372036854775807 := Nat.le_trans (Nat.mul_le_mul (show W ≤ 1048576 by omega) (wd_le (W := H) (by omega))) (by decide)
  have HCAP := Lib.hid hcap
  have two : Below w.heap.size w ((w.alloc (.cells #[.int .i64 (W : Int), .int .i64 (H : Int), .slice a n cap] 25)).alloc (.cells #[.int .i64 0, .int .i64 0, .slice none 0 0] 25)) := ((Below.refl _ _).alloc (Nat.le_refl _) _).alloc (by simp) _
  have TWO := Lib.hid two
  have hcc := two_cells w #[.int .i64 (W : Int), .int .i64 (H : Int), .slice a n cap] #[.int .i64 0, .int .i64 0, .slice none 0 0] 25 25
  have CC := Lib.hid hcc
  have HA := Lib.hid hA
  have hrb : ((w.alloc (.cells #[.int .i64 (W : Int), .int .i64 (H : Int), .slice a n cap] 25)).alloc (.cells #[.int .i64 0, .int .i64 0, .slice none 0 0] 25)).heap[w.heap.size + 1]? = some (.cells #[.int .i64 0, .int .i64 0, .slice none 0 0] 25 (0, 0)) := by
    have h2 := heap_alloc_new (w.alloc (.cells #[.int .i64 (W : Int), .int .i64 (H : Int), .slice a n cap] 25)) (.cells #[.int .i64 0, .int .i64 0, .slice none 0 0] 25)
    simpa using h2
  have HRB := Lib.hid hrb
  have hsz2 : ((w.alloc (.cells #[.int .i64 (W : Int), .int .i64 (H : Int), .slice a n cap] 25)).alloc (.cells #[.int .i64 0, .int .i64 0, .slice none 0 0] 25)).heap.size = w.heap.size + 2 := by simp
  have HSZ2 := Lib.hid hsz2
  clear hs hok2 hl0 hn0 hcap two hcc hA ho hrb hsz2
  go_enter Tryd.func19, Tryd.ntmps19
  go_upto_region 1 with fail
  generalize (w.alloc (.cells #[.int .i64 (W : Int), .int .i64 (H : Int), .slice a n cap] 25)).alloc (.cells #[.int .i64 0, .int .i64 0, .slice none 0 0] 25) = w1 at *
  obtain ⟨W0, hW0⟩ : ∃ W0, w.heap.size = W0 := ⟨_, rfl⟩
  have CC := Lib.hid (hW0 ▸ CC.out)
  have HRB := Lib.hid (hW0 ▸ HRB.out)
  have HSZ2 := Lib.hid (hW0 ▸ HSZ2.out)
  have HW0 := Lib.hid hW0
  rw [hW0]
  clear hW0
  have c0 : w1.cell? ⟨W0, 0, none⟩ = some (.int .i64 (W : Int)) := CC.out.1 0
  have c1 : w1.cell? ⟨W0, 1, none⟩ = some (.int .i64 (H : Int)) := CC.out.1 1
  go_upto_region 2 with (go_at_call 36; refine (white0 H W _ (by omega) (by omega)).mono ?_; rintro e w2 ⟨g, rfl, hown, hg, hbel⟩)
  have hb3 : Below w1.heap.size w1 (w2.alloc (.cells #[.int .i64 (H : Int), .int .i64 (W : Int), .slice (some ⟨g, 0, none⟩) (W * wd H) (W * wd H)] 25)) := hbel.alloc hbel.size _
  have hb3w : Below w2.heap.size w2 (w2.alloc (.cells #[.int .i64 (H : Int), .int .i64 (W : Int), .slice (some ⟨g, 0, none⟩) (W * wd H) (W * wd H)] 25)) := (Below.refl _ _).alloc (Nat.le_refl _) _
  have hsz := HSZ2.out
  have hgl := hown.lt
  have hnn : 0 < n := by
    rw [HN0.out]
    exact Nat.mul_pos hh0 (wd_pos hw0)
  have hna : ∀ b off, a = some ⟨b, off, none⟩ → b ≠ g := fun b off e => by
    rcases HA.out with h | ⟨b', off', h1, _, _, h4, _⟩
    · omega
    · rw [e] at h1
      cases h1
      have := HW0.out
      omega
  have htb : TB W0 w2.heap.size g W H a n cap A H W (W * wd H) (w2.alloc (.cells #[.int .i64 (H : Int), .int .i64 (W : Int), .slice (some ⟨g, 0, none⟩) (W * wd H) (W * wd H)] 25)) :=
    ⟨(hb3.cell (p := ⟨W0, 0, none⟩) (by show W0 < _; omega)).trans (CC.out.1 0), (hb3.cell (p := ⟨W0, 1, none⟩) (by show W0 < _; omega)).trans (CC.out.1 1), (hb3.cell (p := ⟨W0, 2, none⟩) (by show W0 < _; omega)).trans (CC.out.1 2),
      by rw [World.cell?_alloc_at _ _ _ _ rfl]; rfl, by rw [World.cell?_alloc_at _ _ _ _ rfl]; rfl, by rw [World.cell?_alloc_at _ _ _ _ rfl]; rfl,
      (hb3.block (W0 + 1) (by omega)).trans HRB.out, (HA.out.below TWO.out).below hb3, hna, by omega, by omega, by omega⟩
  have HTB := Lib.hid htb
  have HOWN := Lib.hid (hown.below hb3w)
  have HBW : Hid (Below w.heap.size w (w2.alloc (.cells #[.int .i64 (H : Int), .int .i64 (W : Int), .slice (some ⟨g, 0, none⟩) (W * wd H) (W * wd H)] 25))) := TWO.out.trans (hb3.mono TWO.out.size)
  have HG : Hid (w.heap.size ≤ g) := Nat.le_trans TWO.out.size hg
  clear hb3 hb3w hsz hgl hnn hna htb hown hbel hg c0 c1 CC HRB HSZ2 HA TWO
  obtain ⟨W3, hW3⟩ : ∃ W3, w2.heap.size = W3 := ⟨_, rfl⟩
  rw [hW3] at HTB ⊢
  clear hW3
  generalize w2.alloc (.cells #[.int .i64 (H : Int), .int .i64 (W : Int), .slice (some ⟨g, 0, none⟩) (W * wd H) (W * wd H)] 25) = w3 at *
  have HWW := Lib.hid (And.intro hw0 (And.intro hh0 (And.intro hw1 hh1)))
  clear hw0 hh0
  go_wp2_with fail
  go_loopw [4, 5] (fun yy _ wr => ∃ j C, j ≤ W ∧ yy = .int .i64 ((j : Nat) : Int) ∧ Hid (TB W0 W3 g W H a n cap A H W (W * wd H) wr) ∧ Hid (IsOwn wr g (W * wd H) C) ∧ Hid (Laid H W (W * wd H) (fun _ _ => 0) (fun i j => px W H A j (H - 1 - i)) 0 0 H j 0 C) ∧ Hid (Below w.heap.size w wr)) (fun yy _ _ => W - (intOf yy).toNat)
  case atStart => exact ⟨0, _, Nat.zero_le _, rfl, HTB, HOWN, HL0, HBW⟩
  case round =>
    clear HTB HOWN HL0 HBW
    obtain ⟨j, C, hj, rfl, HTB, HOWN, HL, HBW⟩ := hrel
    have c0 := HTB.out.c0
    by_cases hjl : j < W
    · go_wp2_with fail
      clear c0
      go_loopw [5] (fun xx wr => ∃ i C, i ≤ H ∧ xx = .int .i64 ((i : Nat) : Int) ∧ Hid (TB W0 W3 g W H a n cap A H W (W * wd H) wr) ∧ Hid (IsOwn wr g (W * wd H) C) ∧ Hid (Laid H W (W * wd H) (fun _ _ => 0) (fun i j => px W H A j (H - 1 - i)) 0 0 H j i C) ∧ Hid (Below w.heap.size w wr)) (fun xx _ => H - (intOf xx).toNat)
      case atStart => exact ⟨0, C, Nat.zero_le _, rfl, HTB, HOWN, HL, HBW⟩
      case round =>
        clear HTB HOWN HL HBW
        obtain ⟨i, C, hi, rfl, HTB, HOWN, HL, HBW⟩ := hrel
        have c1 := HTB.out.c1
        by_cases hil : i < H
        · have hpx := px_le W H A ((j : Int)) ((H : Int) - 1 - (i : Int))
          have hst := Laid.step HL.out hil (by omega) (by omega) (px_le W H A ((j : Int)) ((H : Int) - 1 - (i : Int)))
          obtain ⟨bit, hbit⟩ : ∃ bit, px W H A ((j : Int)) ((H : Int) - 1 - (i : Int)) = bit := ⟨_, rfl⟩
          rw [hbit] at hst hpx
          have HBIT := Lib.hid hbit
          have HST := Lib.hid hst
          have HPX := Lib.hid hpx
          have HIL := Lib.hid hil
          have HJL := Lib.hid hjl
          clear hbit hst hpx
          have z1 : IntKind.i64.wrap ((H : Int) - 1) = (H : Int) - 1 := IntWalk.i64_in _ (by omega)
          have z2 : IntKind.i64.wrap ((H : Int) - 1 - (i : Int)) = (H : Int) - 1 - (i : Int) := IntWalk.i64_in _ (by omega)
          go_upto_region 8 with fail
          have c0 := HTB.out.c0
          have c1 := HTB.out.c1
          have c2 := HTB.out.c2
          have o0 := HTB.out.o0
          have o1 := HTB.out.o1
          have o2 := HTB.out.o2
          go_region_held3 (fun w' => w'.cell? ⟨W0, 0, none⟩ = some (.int .i64 (W : Int)) ∧ w'.cell? ⟨W0, 1, none⟩ = some (.int .i64 (H : Int)) ∧ w'.cell? ⟨W0, 2, none⟩ = some (.slice a n cap) ∧ w'.cell? ⟨W3, 0, none⟩ = some (.int .i64 (H : Int)) ∧ w'.cell? ⟨W3, 1, none⟩ = some (.int .i64 (W : Int)) ∧ w'.cell? ⟨W3, 2, none⟩ = some (.slice (some ⟨g, 0, none⟩) (W * wd H) (W * wd H))) (go_keep)
            ((first
              | (go_at_call 32; refine (get_any W H a n cap A _ _ _ hw1 hh1 HN0.out ?_).mono ?_; exact HTB.out.ka; rw [HBIT.out]; rintro e w4 ⟨rfl, hbel⟩; have hbel : Below wr.heap.size wr w4 := Below.trans (Below.drew (Below.refl _ wr)) hbel; have HBW := Lib.hid (HBW.out.trans (hbel.mono HBW.out.size)); have HOWN := Lib.hid (HOWN.out.below hbel); have HTB := Lib.hid (HTB.out.below hbel); have c0 := HTB.out.c0; have c1 := HTB.out.c1; have c2 := HTB.out.c2; have o0 := HTB.out.o0; have o1 := HTB.out.o1; have o2 := HTB.out.o2; clear hbel)
              | (go_at_call 37; refine (put0 H W g (W * wd H) (W * wd H) C i j bit _ (by omega) (by omega) rfl ?_ HIL.out HJL.out HPX.out).mono ?_; exact HOWN.out; rintro e w5 ⟨rfl, hown5, hgr⟩; have HOWN5 := Lib.hid hown5; have HBW5 := Lib.hid (HBW.out.grown hgr HBW.out.size (fun q hq => by cases hq; exact HG.out)); have HTB5 := Lib.hid (HTB.out.grown hgr); have c0 := HTB5.out.c0; have c1 := HTB5.out.c1; have c2 := HTB5.out.c2; have o0 := HTB5.out.o0; have o1 := HTB5.out.o1; have o2 := HTB5.out.o2; clear hown5 hgr)))
          go_wp2_with fail
          go_roundw
          case rel => exact ⟨i + 1, _, by omega, by go_num, HTB5, HOWN5, by simpa using HST, HBW5⟩
          case measure => simp [intOf]; omega
        · obtain rfl : i = H := by omega
          have HR := Lib.hid (Laid.row HL.out)
          go_wp2_with fail
          go_roundw
          case rel => exact ⟨j + 1, C, by omega, by go_num, HTB, HOWN, HR, HBW⟩
          case measure => simp [intOf]; omega
    · obtain rfl : j = W := by omega
      have o0 := HTB.out.o0
      have o1 := HTB.out.o1
      have o2 := HTB.out.o2
      have k0 := Joins.cell_of_block HTB.out.rb 0
      have k1 := Joins.cell_of_block HTB.out.rb 1
      have k2 := Joins.cell_of_block HTB.out.rb 2
      have f0 := Joins.unfrozen_of_block HTB.out.rb 0
      have f1 := Joins.unfrozen_of_block HTB.out.rb 1
      have f2 := Joins.unfrozen_of_block HTB.out.rb 2
      have HGN := Lib.hid HTB.out.n1
      clear HTB
      go_wp2_with fail
      refine bodyPost_ret (v := .agg #[.int .i64 (H : Int), .int .i64 (j : Int), .slice (some ⟨g, 0, none⟩) (j * wd H) (j * wd H)]) (by simp [results, Tryd.results19, go_sem, k0, k1, k2]) rfl ⟨g, C, rfl, ?_, HL.out, HG.out, ?_⟩
      · exact ((HOWN.out.other (by simpa using HGN.out) _).other (by simpa using HGN.out) _).other (by simpa using HGN.out) _
      · have h0 : w.heap.size ≤ W0 + 1 := by have := HW0.out; omega
        exact ((HBW.out.setCell h0 _).setCell h0 _).setCell h0 _

set_option maxRecDepth 100000 in
set_option maxHeartbeats 8000000 in
/-- Mirror: the pixel (i, j) is the elder (W - 1 - i, j) -/
theorem mirror20 (W H : Nat) (a : Option Addr) (n cap : Nat) (A : Nat → Nat) (w : World) (hA : IsWords w a n cap A) (ho : okB W H n A) :
    Calls Tryd.prog 20 #[.agg #[.int .i64 (W : Int), .int .i64 (H : Int), .slice a n cap]] w fun e w' => ∃ g C, e = .returned (.agg #[.int .i64 (W : Int), .int .i64 (H : Int), .slice (some ⟨g, 0, none⟩) (H * wd W) (H * wd W)]) ∧ IsOwn w' g (H * wd W) C ∧ Laid W H (H * wd W) (fun _ _ => 0) (fun i j => px W H A (W - 1 - i) j) 0 0 W H 0 C ∧ w.heap.size ≤ g ∧ Below w.heap.size w w' := by
  have hs := okS_le ho.1
  have hw1 : W ≤ 1048576 := by omega
  have hh1 : H ≤ 1048576 := by omega
  have hw0 : 1 ≤ W := by have := ho.1.1; omega
  have hh0 : 1 ≤ H := by have := ho.1.2.1; omega
  have hn0 : n = H * wd W := by have := ho.2.1; simpa using this
  have hok2 : okB W H (H * wd W) (fun _ => 0) := by
    refine ⟨⟨by omega, by omega, ?_⟩, by simp, fun _ _ => Or.inr (by simp)⟩
    have := ho.1.2.2
    first | exact this | (rw [Int.mul_comm]; exact this)
  have hl0 : Laid W H (H * wd W) (fun _ _ => 0) (fun i j => px W H A (W - 1 - i) j) 0 0 W 0 0 (fun _ => 0) := by
    refine ⟨hok2, fun x y => ?_⟩
    rw [if_neg (by omega)]
    unfold px; split <;> simp
  have HL0 := Lib.hid hl0
  have HN0 := Lib.hid hn0
  have hcap : H * wd W ≤ 9223372036854775807 := Nat.le_trans (Nat.mul_le_mul (show H ≤ 1048576 by omega) (wd_le (W := W) (by omega))) (by decide)
  have HCAP := Lib.hid hcap
  have two : Below w.heap.size w ((w.alloc (.cells #[.int .i64 (W : Int), .int .i64 (H : Int), .slice a n cap] 25)).alloc (.cells #[.int .i64 0, .int .i64 0, .slice none 0 0] 25)) := ((Below.refl _ _).alloc (Nat.le_refl _) _).alloc (by simp) _
  have TWO := Lib.hid two
  have hcc := two_cells w #[.int .i64 (W : Int), .int .i64 (H : Int), .slice a n cap] #[.int .i64 0, .int .i64 0, .slice none 0 0] 25 25
  have CC := Lib.hid hcc
  have HA := Lib.hid hA
  have hrb : ((w.alloc (.cells #[.int .i64 (W : Int), .int .i64 (H : Int), .slice a n cap] 25)).alloc (.cells #[.int .i64 0, .int .i64 0, .slice none 0 0] 25)).heap[w.heap.size + 1]? = some (.cells #[.int .i64 0, .int .i64 0, .slice none 0 0] 25 (0, 0)) := by
    have h2 := heap_alloc_new (w.alloc (.cells #[.int .i64 (W : Int), .int .i64 (H : Int), .slice a n cap] 25)) (.cells #[.int .i64 0, .int .i64 0, .slice none 0 0] 25)
    simpa using h2
  have HRB := Lib.hid hrb
  have hsz2 : ((w.alloc (.cells #[.int .i64 (W : Int), .int .i64 (H : Int), .slice a n cap] 25)).alloc (.cells #[.int .i64 0, .int .i64 0, .slice none 0 0] 25)).heap.size = w.heap.size + 2 := by simp
  have HSZ2 := Lib.hid hsz2
  clear hs hok2 hl0 hn0 hcap two hcc hA ho hrb hsz2
  go_enter Tryd.func20, Tryd.ntmps20
  go_upto_region 1 with fail
  generalize (w.alloc (.cells #[.int .i64 (W : Int), .int .i64 (H : Int), .slice a n cap] 25)).alloc (.cells #[.int .i64 0, .int .i64 0, .slice none 0 0] 25) = w1 at *
  obtain ⟨W0, hW0⟩ : ∃ W0, w.heap.size = W0 := ⟨_, rfl⟩
  have CC := Lib.hid (hW0 ▸ CC.out)
  have HRB := Lib.hid (hW0 ▸ HRB.out)
  have HSZ2 := Lib.hid (hW0 ▸ HSZ2.out)
  have HW0 := Lib.hid hW0
  rw [hW0]
  clear hW0
  have c0 : w1.cell? ⟨W0, 0, none⟩ = some (.int .i64 (W : Int)) := CC.out.1 0
  have c1 : w1.cell? ⟨W0, 1, none⟩ = some (.int .i64 (H : Int)) := CC.out.1 1
  go_upto_region 2 with (go_at_call 36; refine (white0 W H _ (by omega) (by omega)).mono ?_; rintro e w2 ⟨g, rfl, hown, hg, hbel⟩)
  have hb3 : Below w1.heap.size w1 (w2.alloc (.cells #[.int .i64 (W : Int), .int .i64 (H : Int), .slice (some ⟨g, 0, none⟩) (H * wd W) (H * wd W)] 25)) := hbel.alloc hbel.size _
  have hb3w : Below w2.heap.size w2 (w2.alloc (.cells #[.int .i64 (W : Int), .int .i64 (H : Int), .slice (some ⟨g, 0, none⟩) (H * wd W) (H * wd W)] 25)) := (Below.refl _ _).alloc (Nat.le_refl _) _
  have hsz := HSZ2.out
  have hgl := hown.lt
  have hnn : 0 < n := by
    rw [HN0.out]
    exact Nat.mul_pos hh0 (wd_pos hw0)
  have hna : ∀ b off, a = some ⟨b, off, none⟩ → b ≠ g := fun b off e => by
    rcases HA.out with h | ⟨b', off', h1, _, _, h4, _⟩
    · omega
    · rw [e] at h1
      cases h1
      have := HW0.out
      omega
  have htb : TB W0 w2.heap.size g W H a n cap A W H (H * wd W) (w2.alloc (.cells #[.int .i64 (W : Int), .int .i64 (H : Int), .slice (some ⟨g, 0, none⟩) (H * wd W) (H * wd W)] 25)) :=
    ⟨(hb3.cell (p := ⟨W0, 0, none⟩) (by show W0 < _; omega)).trans (CC.out.1 0), (hb3.cell (p := ⟨W0, 1, none⟩) (by show W0 < _; omega)).trans (CC.out.1 1), (hb3.cell (p := ⟨W0, 2, none⟩) (by show W0 < _; omega)).trans (CC.out.1 2),
      by rw [World.cell?_alloc_at _ _ _ _ rfl]; rfl, by rw [World.cell?_alloc_at _ _ _ _ rfl]; rfl, by rw [World.cell?_alloc_at _ _ _ _ rfl]; rfl,
      (hb3.block (W0 + 1) (by omega)).trans HRB.out, (HA.out.below TWO.out).below hb3, hna, by omega, by omega, by omega⟩
  have HTB := Lib.hid htb
  have HOWN := Lib.hid (hown.below hb3w)
  have HBW : Hid (Below w.heap.size w (w2.alloc (.cells #[.int .i64 (W : Int), .int .i64 (H : Int), .slice (some ⟨g, 0, none⟩) (H * wd W) (H * wd W)] 25))) := TWO.out.trans (hb3.mono TWO.out.size)
  have HG : Hid (w.heap.size ≤ g) := Nat.le_trans TWO.out.size hg
  clear hb3 hb3w hsz hgl hnn hna htb hown hbel hg c0 c1 CC HRB HSZ2 HA TWO
  obtain ⟨W3, hW3⟩ : ∃ W3, w2.heap.size = W3 := ⟨_, rfl⟩
  rw [hW3] at HTB ⊢
  clear hW3
  generalize w2.alloc (.cells #[.int .i64 (W : Int), .int .i64 (H : Int), .slice (some ⟨g, 0, none⟩) (H * wd W) (H * wd W)] 25) = w3 at *
  have HWW := Lib.hid (And.intro hw0 (And.intro hh0 (And.intro hw1 hh1)))
  clear hw0 hh0
  go_wp2_with fail
  go_loopw [4, 5] (fun yy _ wr => ∃ j C, j ≤ H ∧ yy = .int .i64 ((j : Nat) : Int) ∧ Hid (TB W0 W3 g W H a n cap A W H (H * wd W) wr) ∧ Hid (IsOwn wr g (H * wd W) C) ∧ Hid (Laid W H (H * wd W) (fun _ _ => 0) (fun i j => px W H A (W - 1 - i) j) 0 0 W j 0 C) ∧ Hid (Below w.heap.size w wr)) (fun yy _ _ => H - (intOf yy).toNat)
  case atStart => exact ⟨0, _, Nat.zero_le _, rfl, HTB, HOWN, HL0, HBW⟩
  case round =>
    clear HTB HOWN HL0 HBW
    obtain ⟨j, C, hj, rfl, HTB, HOWN, HL, HBW⟩ := hrel
    have c1 := HTB.out.c1
    by_cases hjl : j < H
    · go_wp2_with fail
      clear c1
      go_loopw [5] (fun xx wr => ∃ i C, i ≤ W ∧ xx = .int .i64 ((i : Nat) : Int) ∧ Hid (TB W0 W3 g W H a n cap A W H (H * wd W) wr) ∧ Hid (IsOwn wr g (H * wd W) C) ∧ Hid (Laid W H (H * wd W) (fun _ _ => 0) (fun i j => px W H A (W - 1 - i) j) 0 0 W j i C) ∧ Hid (Below w.heap.size w wr)) (fun xx _ => W - (intOf xx).toNat)
      case atStart => exact ⟨0, C, Nat.zero_le _, rfl, HTB, HOWN, HL, HBW⟩
      case round =>
        clear HTB HOWN HL HBW
        obtain ⟨i, C, hi, rfl, HTB, HOWN, HL, HBW⟩ := hrel
        have c0 := HTB.out.c0
        by_cases hil : i < W
        · have hpx := px_le W H A ((W : Int) - 1 - (i : Int)) ((j : Int))
          have hst := Laid.step HL.out hil (by omega) (by omega) (px_le W H A ((W : Int) - 1 - (i : Int)) ((j : Int)))
          obtain ⟨bit, hbit⟩ : ∃ bit, px W H A ((W : Int) - 1 - (i : Int)) ((j : Int)) = bit := ⟨_, rfl⟩
          rw [hbit] at hst hpx
          have HBIT := Lib.hid hbit
          have HST := Lib.hid hst
          have HPX := Lib.hid hpx
          have HIL := Lib.hid hil
          have HJL := Lib.hid hjl
          clear hbit hst hpx
          have z1 : IntKind.i64.wrap ((W : Int) - 1) = (W : Int) - 1 := IntWalk.i64_in _ (by omega)
          have z2 : IntKind.i64.wrap ((W : Int) - 1 - (i : Int)) = (W : Int) - 1 - (i : Int) := IntWalk.i64_in _ (by omega)
          go_upto_region 8 with fail
          have c0 := HTB.out.c0
          have c1 := HTB.out.c1
          have c2 := HTB.out.c2
          have o0 := HTB.out.o0
          have o1 := HTB.out.o1
          have o2 := HTB.out.o2
          go_region_held3 (fun w' => w'.cell? ⟨W0, 0, none⟩ = some (.int .i64 (W : Int)) ∧ w'.cell? ⟨W0, 1, none⟩ = some (.int .i64 (H : Int)) ∧ w'.cell? ⟨W0, 2, none⟩ = some (.slice a n cap) ∧ w'.cell? ⟨W3, 0, none⟩ = some (.int .i64 (W : Int)) ∧ w'.cell? ⟨W3, 1, none⟩ = some (.int .i64 (H : Int)) ∧ w'.cell? ⟨W3, 2, none⟩ = some (.slice (some ⟨g, 0, none⟩) (H * wd W) (H * wd W))) (go_keep)
            ((first
              | (go_at_call 32; refine (get_any W H a n cap A _ _ _ hw1 hh1 HN0.out ?_).mono ?_; exact HTB.out.ka; rw [HBIT.out]; rintro e w4 ⟨rfl, hbel⟩; have hbel : Below wr.heap.size wr w4 := Below.trans (Below.drew (Below.refl _ wr)) hbel; have HBW := Lib.hid (HBW.out.trans (hbel.mono HBW.out.size)); have HOWN := Lib.hid (HOWN.out.below hbel); have HTB := Lib.hid (HTB.out.below hbel); have c0 := HTB.out.c0; have c1 := HTB.out.c1; have c2 := HTB.out.c2; have o0 := HTB.out.o0; have o1 := HTB.out.o1; have o2 := HTB.out.o2; clear hbel)
              | (go_at_call 37; refine (put0 W H g (H * wd W) (H * wd W) C i j bit _ (by omega) (by omega) rfl ?_ HIL.out HJL.out HPX.out).mono ?_; exact HOWN.out; rintro e w5 ⟨rfl, hown5, hgr⟩; have HOWN5 := Lib.hid hown5; have HBW5 := Lib.hid (HBW.out.grown hgr HBW.out.size (fun q hq => by cases hq; exact HG.out)); have HTB5 := Lib.hid (HTB.out.grown hgr); have c0 := HTB5.out.c0; have c1 := HTB5.out.c1; have c2 := HTB5.out.c2; have o0 := HTB5.out.o0; have o1 := HTB5.out.o1; have o2 := HTB5.out.o2; clear hown5 hgr)))
          go_wp2_with fail
          go_roundw
          case rel => exact ⟨i + 1, _, by omega, by go_num, HTB5, HOWN5, by simpa using HST, HBW5⟩
          case measure => simp [intOf]; omega
        · obtain rfl : i = W := by omega
          have HR := Lib.hid (Laid.row HL.out)
          go_wp2_with fail
          go_roundw
          case rel => exact ⟨j + 1, C, by omega, by go_num, HTB, HOWN, HR, HBW⟩
          case measure => simp [intOf]; omega
    · obtain rfl : j = H := by omega
      have o0 := HTB.out.o0
      have o1 := HTB.out.o1
      have o2 := HTB.out.o2
      have k0 := Joins.cell_of_block HTB.out.rb 0
      have k1 := Joins.cell_of_block HTB.out.rb 1
      have k2 := Joins.cell_of_block HTB.out.rb 2
      have f0 := Joins.unfrozen_of_block HTB.out.rb 0
      have f1 := Joins.unfrozen_of_block HTB.out.rb 1
      have f2 := Joins.unfrozen_of_block HTB.out.rb 2
      have HGN := Lib.hid HTB.out.n1
      clear HTB
      go_wp2_with fail
      refine bodyPost_ret (v := .agg #[.int .i64 (W : Int), .int .i64 (j : Int), .slice (some ⟨g, 0, none⟩) (j * wd W) (j * wd W)]) (by simp [results, Tryd.results20, go_sem, k0, k1, k2]) rfl ⟨g, C, rfl, ?_, HL.out, HG.out, ?_⟩
      · exact ((HOWN.out.other (by simpa using HGN.out) _).other (by simpa using HGN.out) _).other (by simpa using HGN.out) _
      · have h0 : w.heap.size ≤ W0 + 1 := by have := HW0.out; omega
        exact ((HBW.out.setCell h0 _).setCell h0 _).setCell h0 _
end Go.Proofs.YtokdgppaedklhaaDoor
