/- PbmWrites walked. Conditions: the bounds that each theorem names. -/
import Derived.Test.YtgpjpmadbepblaaDoorSx
namespace Go.Proofs.YtgpjpmadbepblaaDoor
open Go.RowKit Go.Bm Go.Pbm Go.Sort

/-- a bitmap of the list, and the same lent in a box -/
structure WSt (w w1 : World) (b o : Nat) (m : BM) (p g : Nat) : Prop where
  hm : MapAt w b o m
  t : PowW w
  q0 : w1.cell? ⟨p, 0, none⟩ = some (.int .i64 m.w)
  q1 : w1.cell? ⟨p, 1, none⟩ = some (.int .i64 m.h)
  q2 : w1.cell? ⟨p, 2, none⟩ = some (.slice (some ⟨g, 0, none⟩) m.n (m.n + 7))
  own : IsOwn w1 g (m.n + 7) (lendB m.L m.n)
  bel : Below w.heap.size w w1
  hg : w.heap.size ≤ g ∧ g ≠ p ∧ w.heap.size ≤ p
theorem WSt.step {w w1 w2 : World} {b o : Nat} {m : BM} {p g : Nat} (h : WSt w w1 b o m p g) (hb : Below w1.heap.size w1 w2) : WSt w w2 b o m p g :=
  have l := World.block_lt_of_cell? w1 _ h.q0
  ⟨h.hm, h.t, (hb.cell (p := ⟨p, 0, none⟩) l).trans h.q0, (hb.cell (p := ⟨p, 1, none⟩) l).trans h.q1, (hb.cell (p := ⟨p, 2, none⟩) l).trans h.q2, h.own.below hb, h.bel.trans (hb.mono h.bel.size), h.hg⟩
theorem WSt.map {w w1 : World} {b o : Nat} {m : BM} {p g : Nat} (h : WSt w w1 b o m p g) : MapAt w1 b o m := MapAt.below h.hm h.bel
theorem WSt.words {w w1 : World} {b o : Nat} {m : BM} {p g : Nat} (h : WSt w w1 b o m p g) (hn : m.n ≤ 10000) : IsWords w1 (some ⟨g, 0, none⟩) m.n (m.n + 7) m.L :=
  IsWords.congr ((h.own.words (Nat.le_refl _) (by omega)).short (Nat.le_add_right _ _)) (fun i hi => by unfold lendB; rw [if_pos hi])
theorem WSt.new {w w1 w2 : World} {b o : Nat} {m : BM} {g : Nat} (hm : MapAt w b o m) (ht : PowW w) (h1 : Below w.heap.size w w1) (h2 : Below w1.heap.size w1 w2) (ho : IsOwn w2 g (m.n + 7) (lendB m.L m.n)) (hg : w1.heap.size ≤ g) :
    WSt w (w2.alloc (.cells #[.int .i64 m.w, .int .i64 m.h, .slice (some ⟨g, 0, none⟩) m.n (m.n + 7)] 25)) b o m w2.heap.size g := by
  have hn := heap_alloc_new w2 (.cells #[.int .i64 m.w, .int .i64 m.h, .slice (some ⟨g, 0, none⟩) m.n (m.n + 7)] 25)
  have hb := (Below.refl w2.heap.size w2).alloc (Nat.le_refl _) (.cells #[.int .i64 m.w, .int .i64 m.h, .slice (some ⟨g, 0, none⟩) m.n (m.n + 7)] 25)
  have h3 := h1.size
  have h4 := h2.size
  have h5 := ho.lt
  exact ⟨hm, ht, Joins.cell_of_block hn 0, Joins.cell_of_block hn 1, Joins.cell_of_block hn 2, ho.below hb, h1.trans ((h2.mono h3).trans (hb.mono (by omega))), by omega, by omega, by omega⟩

/-- behind BackBitmap -/
theorem WSt.back {w w1 w2 : World} {b o : Nat} {m : BM} {p g : Nat} (h : WSt w w1 b o m p g) (hg : w1.grownBy w2 (some g)) : Below w.heap.size w w2 ∧ MapAt w2 b o m ∧ w2.cell? ⟨p, 0, none⟩ = some (.int .i64 m.w) ∧ w2.cell? ⟨p, 1, none⟩ = some (.int .i64 m.h) ∧ w2.cell? ⟨p, 2, none⟩ = some (.slice (some ⟨g, 0, none⟩) m.n (m.n + 7)) := by
  have h1 := h.hg
  have hb : Below w.heap.size w w2 := Below.grown h.bel hg h.bel.size (fun z hz => by cases hz; omega)
  exact ⟨hb, MapAt.below h.hm hb, hg.cell h.q0 (fun e => h1.2.1 (Option.some.inj e).symm), hg.cell h.q1 (fun e => h1.2.1 (Option.some.inj e).symm), hg.cell h.q2 (fun e => h1.2.1 (Option.some.inj e).symm)⟩
theorem isBytes_len {w : World} {a : Option Addr} {cap : Nat} {l : List UInt8} (h : IsBytes w a cap l) : l.length ≤ 9223372036854775807 := by
  rcases h with h | ⟨b, off, h1, h2, h3, _⟩
  · rw [h]; decide
  · omega
theorem bytes_back {w1 w2 : World} {a : Option Addr} {cap g : Nat} {l : List UInt8} (h : IsBytes w1 a cap l ∧ ∀ x, a = some x → g < x.block) (hg : w1.grownBy w2 (some g)) : IsBytes w2 a cap l :=
  h.1.grown hg fun b off hb => by have h1 : g < b := h.2 _ hb; exact Nat.ne_of_gt h1

set_option maxHeartbeats 4000000 in
set_option maxRecDepth 100000 in
theorem writes_walk (a : Option Addr) (len cap : Nat) (M : Nat → BM) (w : World) (hM : IsMaps w a len cap M) (hT : PowW w) :
    Calls Tryd.prog 3 #[.slice a len cap] w fun e w' => e = .returned (.bool true) ∧ Below w.heap.size w w' := by
  have HM := Lib.hid hM
  have HT := Lib.hid hT
  clear hM hT
  go_enter Tryd.func3, Tryd.ntmps3
  go_wp2_with fail
  go_loopw [3] (fun v wr => ∃ i : Nat, v = .int .i64 i ∧ i ≤ 12 ∧ i ≤ len ∧ Hid (Below w.heap.size w wr)) (fun v _ => 12 - (intOf v).toNat)
  case atStart => exact ⟨0, rfl, by omega, Nat.zero_le _, Below.refl _ _⟩
  case round =>
    obtain ⟨i, rfl, hi12, hil, hbel⟩ := hrel
    by_cases hgo : i < len ∧ i < 12
    · obtain ⟨hlt, h12⟩ := hgo
      obtain ⟨b, off, ha, hcap, hcm, hmap⟩ : ∃ b off, a = some ⟨b, off, none⟩ ∧ len ≤ cap ∧ cap ≤ 9223372036854775807 ∧ ∀ i, i < len → MapAt w b (off + i * 3) (M i) := by
        rcases HM.out with h | h
        · omega
        · exact h
      subst ha
      have hma := (hmap i hlt)
      have HMA := Lib.hid hma
      obtain ⟨m, hm⟩ : ∃ m, M i = m := ⟨_, rfl⟩
      rw [hm] at HMA
      clear hmap hma
      have hltI : (i : Int) < (len : Int) := by omega
      have h12I : (i : Int) < 12 := by omega
      have HW1 := Lib.hid (MapAt.below HMA.out hbel.out)
      have d0 := HW1.out.e0
      have d1 := HW1.out.e1
      have d2 := HW1.out.e2
      by_cases hbig : 937 < m.n
      · have hbI : (937 : Int) < (m.n : Int) := by omega
        clear hbig
        go_wp2_with fail
        go_roundw
        case rel => exact ⟨i + 1, by go_num, by omega, by omega, hbel⟩
        case measure => simp [intOf]; omega
      · have hbI : ¬ (937 : Int) < (m.n : Int) := by omega
        have HMN : Hid (m.n ≤ 10000) := by show _ ≤ _; omega
        clear hbig
        go_wp2_with fail
        clear d0 d1 d2 HW1
        go_loopw [4] (fun v wr => ∃ k : Int, v = .int .i64 k ∧ -1 ≤ k ∧ k ≤ 3 ∧ Hid (Below w.heap.size w wr)) (fun v _ => (3 - intOf v).toNat)
        case atStart => exact ⟨-1, rfl, by omega, by omega, hbel⟩
        case round =>
          obtain ⟨k, rfl, hk1, hk3, hbel2⟩ := hrel
          by_cases hk : k < 3
          · have HW1 := Lib.hid (MapAt.below HMA.out hbel2.out)
            have d0 := HW1.out.e0
            have d1 := HW1.out.e1
            have d2 := HW1.out.e2
            go_upto_region 9 with (go_at_call 7; refine (lend0 m.w m.h m.a m.n m.c m.L _ HW1.out.k HW1.out.no HMN.out).mono ?_; rintro e w4 ⟨g, rfl, ho, hg, hb4⟩; have HST := Lib.hid (WSt.new HMA.out HT.out hbel2.out hb4 ho hg); clear ho hg hb4)
            obtain ⟨p, hp⟩ : ∃ p, w4.heap.size = p := ⟨_, rfl⟩
            rw [hp] at HST ⊢
            clear hp d0 d1 d2 HW1
            generalize w4.alloc (.cells #[.int .i64 m.w, .int .i64 m.h, .slice (some ⟨g, 0, none⟩) m.n (m.n + 7)] 25) = w5 at *
            obtain ⟨l, code, hX⟩ : ∃ l code, wOut m.w m.h m.n m.L k = (l, code) := ⟨_, _, rfl⟩
            have HX := Lib.hid hX
            clear hX w4
            have c0 := HST.out.q0
            have c1 := HST.out.q1
            have c2 := HST.out.q2
            go_upto_region 10 with (go_at_call 8; refine (write8_any m.w m.h (some ⟨g, 0, none⟩) m.n (m.n + 7) m.L k _ (HST.out.words HMN.out) (HT.out.below HST.out.bel)).mono ?_; rw [HX.out]; rintro e w6 ⟨a6, cap6, rfl, hk6, ha6, hb6⟩; have HK6 := Lib.hid (And.intro hk6 (fun x hx => Nat.lt_of_lt_of_le HST.out.own.lt (ha6 x hx))); have HST6 := Lib.hid (HST.out.step hb6); clear hk6 ha6 hb6 c0 c1 c2)
            have d0 := HST6.out.map.e0
            have d1 := HST6.out.map.e1
            have d2 := HST6.out.map.e2
            go_upto_region 11 with (go_at_call 9; refine (rwrite9_any m.w m.h m.a m.n m.c m.L k _ HST6.out.map.k).mono ?_; rw [HX.out]; rintro e w7 ⟨a7, cap7, rfl, hk7, ha7, hb7⟩; have HK7 := Lib.hid (And.intro hk7 (fun x hx => Nat.lt_of_lt_of_le HST6.out.own.lt (ha7 x hx))); have HST7 := Lib.hid (HST6.out.step hb7); have HK6b := Lib.hid (And.intro (HK6.out.1.below hb7) HK6.out.2); clear hk7 ha7 hb7 d0 d1 d2)
            have HLN : Hid (l.length ≤ 9223372036854775807) := isBytes_len HK7.out.1
            have c0 := HST7.out.q0
            have c1 := HST7.out.q1
            have c2 := HST7.out.q2
            have d0 := HST7.out.map.e0
            have d1 := HST7.out.map.e1
            have d2 := HST7.out.map.e2
            go_region_held3 (fun w' => w'.cell? ⟨p, 0, none⟩ = some (.int .i64 m.w) ∧ w'.cell? ⟨p, 1, none⟩ = some (.int .i64 m.h) ∧ w'.cell? ⟨p, 2, none⟩ = some (.slice (some ⟨g, 0, none⟩) m.n (m.n + 7)) ∧
                w'.cell? ⟨b, off + i * 3, none⟩ = some (.int .i64 m.w) ∧ w'.cell? ⟨b, off + i * 3 + 1, none⟩ = some (.int .i64 m.h) ∧ w'.cell? ⟨b, off + i * 3 + 2, none⟩ = some (.slice m.a m.n m.c)) (go_keep)
              ((first
                | (go_at_call 10; refine (back0 m.w m.h g m.a m.n m.c m.L _ ?_ ?_ HMN.out).mono ?_; exact HST7.out.own; exact HST7.out.map.k; rintro e w8 ⟨rfl, hg8⟩; have hg8 := (grown_drewN w7 _ (some g)).trans hg8; have HBK := Lib.hid (HST7.out.back hg8); have HA8 := Lib.hid (bytes_back HK6b.out hg8); have HC8 := Lib.hid (bytes_back HK7.out hg8); have d0 := HBK.out.2.1.e0; have d1 := HBK.out.2.1.e1; have d2 := HBK.out.2.1.e2; have c0 := HBK.out.2.2.1; have c1 := HBK.out.2.2.2.1; have c2 := HBK.out.2.2.2.2; clear hg8)
                | (go_at_call 11; refine (eq11 a6 cap6 l a7 cap7 l true _ ?_ ?_ (by simp) HLN.out).mono ?_; exact HA8.out; exact HC8.out; rintro e w9 ⟨rfl, k9, rfl⟩)))
            have HBE := Lib.hid (below_drewN HBK.out.1 k9)
            clear HBK HA8 HC8
            generalize w8.drewN k9 = w9 at *
            go_wp2_with fail
            go_roundw
            case rel => exact ⟨k + 1, rfl, by omega, by omega, HBE⟩
            case measure => simp [intOf]; omega
          · obtain rfl : k = 3 := by omega
            go_wp2_with fail
            go_roundw
            case rel => exact ⟨i + 1, by go_num, by omega, by omega, hbel2⟩
            case measure => simp [intOf]; omega
    · have hend : ¬ (i : Int) < (len : Int) ∨ ((i : Int) < (len : Int) ∧ ¬ (i : Int) < 12) := by omega
      rcases hend with h | ⟨h, h2⟩
      · go_wp2_with (go_at_call 12; refine (wakes12 _ (HT.out.below hbel.out)).mono ?_; rintro e w9 ⟨rfl, hb9⟩; have HB9 := Lib.hid hb9; clear hb9)
        go_ret
        exact ⟨rfl, hbel.out.trans (HB9.out.mono hbel.out.size)⟩
      · go_wp2_with (go_at_call 12; refine (wakes12 _ (HT.out.below hbel.out)).mono ?_; rintro e w9 ⟨rfl, hb9⟩; have HB9 := Lib.hid hb9; clear hb9)
        go_ret
        exact ⟨rfl, hbel.out.trans (HB9.out.mono hbel.out.size)⟩
end Go.Proofs.YtgpjpmadbepblaaDoor
