/- The reference's Read of chapter 3, by cases. Conditions: the bounds that each theorem names. -/
import Derived.Test.YtgpjpmadbepblaaDoorSp
namespace Go.Proofs.YtgpjpmadbepblaaDoor
open Go.RowKit Go.Bm Go.Pbm Go.Sort

theorem rnumber34_none (b off cap : Nat) (l : List UInt8) (n i : Nat) (w : World) (hn : l.length = n) (hk : ∀ (u : Nat) (c : UInt8), l[u]? = some c → w.cell? ⟨b, off + u, none⟩ = some (.int .u8 (c.toNat : Int))) (hl : l.length ≤ 100000000000000) (hi : i ≤ l.length) (hs : numS l i = none) :
    Calls Tryd.prog 34 #[.slice (some ⟨b, off, none⟩) n cap, .int .i64 i] w fun e w' => e = .returned (.tuple #[.int .i64 0, .int .i64 (-1)]) ∧ w = w' := by
  subst hn
  have h := rnumber34 b off cap l i w hk hl hi
  rw [hs] at h
  exact h
theorem rnumber34_some (b off cap : Nat) (l : List UInt8) (n i v j : Nat) (w : World) (hn : l.length = n) (hk : ∀ (u : Nat) (c : UInt8), l[u]? = some c → w.cell? ⟨b, off + u, none⟩ = some (.int .u8 (c.toNat : Int))) (hl : l.length ≤ 100000000000000) (hi : i ≤ l.length) (hs : numS l i = some (v, j)) :
    Calls Tryd.prog 34 #[.slice (some ⟨b, off, none⟩) n cap, .int .i64 i] w fun e w' => e = .returned (.tuple #[.int .i64 v, .int .i64 j]) ∧ w = w' := by
  subst hn
  have h := rnumber34 b off cap l i w hk hl hi
  rw [hs] at h
  exact h
theorem numS_le {l : List UInt8} {i v j : Nat} (h : numS l i = some (v, j)) (hi : i ≤ l.length) : j ≤ l.length := by
  unfold numS at h
  split at h
  · have h1 := Prod.mk.inj (Option.some.inj h)
    have h2 := pasAt_ge false l hi
    have h3 := digL_len 0 (l.drop (pasAt false l i))
    rw [List.length_drop] at h3
    omega
  · cases h
theorem rbody (y : Nat) (b off cap : Nat) (l : List UInt8) (i W H : Nat) (w : World) (hk : ∀ (u : Nat) (c : UInt8), l[u]? = some c → w.cell? ⟨b, off + u, none⟩ = some (.int .u8 (c.toNat : Int))) (hl : l.length ≤ 100000000000000) (hi : i ≤ l.length) (hS : okS W H) (hy : (l.getD 1 0).toNat = y) (hyy : y = 49 ∨ y = 52) :
    Calls Tryd.prog (if y = 49 then 37 else 36) #[.slice (some ⟨b, off, none⟩) l.length cap, .int .i64 i, .int .i64 W, .int .i64 H] w (RdOutR w (liftS W H (bodyS l i W H))) := by
  unfold bodyS
  rw [hy]
  rcases hyy with rfl | rfl
  · rw [if_pos rfl, if_pos rfl]
    by_cases hb : ∃ c : UInt8, l[i]? = some c ∧ ¬ isW c.toNat = true ∧ ¬ c.toNat = 35
    · rw [if_pos hb]
      obtain ⟨c, hc, h1, h2⟩ := hb
      exact rtext37_bad b off cap l i W H w c hc (hk i c hc) h1 h2
    · rw [if_neg hb]
      refine rtext37_go b off cap l i W H w hk hl hi hS ?_
      by_cases hj : i < l.length
      · right
        refine ⟨_, List.getElem?_eq_getElem hj, ?_⟩
        by_cases h1 : isW (l[i]).toNat = true
        · exact Or.inl h1
        · right
          by_cases h3 : (l[i]).toNat = 35
          · exact h3
          · exact absurd ⟨_, List.getElem?_eq_getElem hj, h1, h3⟩ hb
      · left; omega
  · rw [if_neg (by decide), if_neg (by decide)]
    by_cases hj : i < l.length
    · have hc := List.getElem?_eq_getElem hj
      by_cases hw : isWI (hereV l i) = false
      · rw [if_pos hw]
        rw [hereV_at hc, isWI_nat] at hw
        exact rbytes36_bad b off cap l i W H w _ hc (hk i _ hc) hw
      · rw [if_neg hw]
        have hw1 : isWI (hereV l i) = true := by simpa using hw
        rw [hereV_at hc, isWI_nat] at hw1
        by_cases c1 : (l.drop (i + 1)).length < (W + 7) / 8 * H
        · rw [if_pos c1]
          exact rbytes36_len b off cap l i W H w _ hc (hk i _ hc) hw1 hl hS 32 (Or.inl ⟨c1, rfl⟩)
        · rw [if_neg c1]
          by_cases c2 : (W + 7) / 8 * H < (l.drop (i + 1)).length
          · rw [if_pos c2]
            exact rbytes36_len b off cap l i W H w _ hc (hk i _ hc) hw1 hl hS 33 (Or.inr ⟨c2, rfl⟩)
          · rw [if_neg c2]
            exact rbytes36_just b off cap l i W H w _ hc hk hw1 hl hS (by omega)
    · rw [if_pos (by rw [hereV_end (by omega)]; rfl)]
      exact rbytes36_end b off cap l i W H w (by omega)
theorem rbody_fault (y F n : Nat) (b off cap : Nat) (l : List UInt8) (i W H : Nat) (w : World) (p code : Nat) (hn : l.length = n) (hk : ∀ (u : Nat) (c : UInt8), l[u]? = some c → w.cell? ⟨b, off + u, none⟩ = some (.int .u8 (c.toNat : Int))) (hl : l.length ≤ 100000000000000) (hi : i ≤ l.length) (hS : okS W H) (hy : (l.getD 1 0).toNat = y) (hyy : y = 49 ∨ y = 52) (hF : F = if y = 49 then 37 else 36) (hp : p = w.heap.size) (hX : bodyS l i W H = .inl code) :
    Calls Tryd.prog F #[.slice (some ⟨b, off, none⟩) n cap, .int .i64 i, .int .i64 W, .int .i64 H] w fun e w' => e = .returned (.tuple #[.agg #[.int .i64 0, .int .i64 0, .slice none 0 0], .int .i64 code]) ∧ Below p w w' := by
  subst hn hF hp
  have h := rbody y b off cap l i W H w hk hl hi hS hy hyy
  rw [hX] at h
  exact h.mono fun e w' h => ⟨h.2, h.1⟩
theorem rbody_good (y F n : Nat) (b off cap : Nat) (l : List UInt8) (i W H : Nat) (w : World) (p : Nat) (ps : List Bool) (hn : l.length = n) (hk : ∀ (u : Nat) (c : UInt8), l[u]? = some c → w.cell? ⟨b, off + u, none⟩ = some (.int .u8 (c.toNat : Int))) (hl : l.length ≤ 100000000000000) (hi : i ≤ l.length) (hS : okS W H) (hy : (l.getD 1 0).toNat = y) (hyy : y = 49 ∨ y = 52) (hF : F = if y = 49 then 37 else 36) (hp : p = w.heap.size) (hX : bodyS l i W H = .inr ps) :
    Calls Tryd.prog F #[.slice (some ⟨b, off, none⟩) n cap, .int .i64 i, .int .i64 W, .int .i64 H] w fun e w' => ∃ g C, e = .returned (.tuple #[.agg #[.int .i64 W, .int .i64 H, .slice (some ⟨g, 0, none⟩) (H * wd W) (H * wd W)], .int .i64 0]) ∧ IsOwn w' g (H * wd W) C ∧ p ≤ g ∧ PixOk W H (H * wd W) ps C ∧ Below p w w' := by
  subst hn hF hp
  have h := rbody y b off cap l i W H w hk hl hi hS hy hyy
  rw [hX] at h
  exact h.mono fun e w' ⟨h1, g, C, h2, h3, h4, h5⟩ => ⟨g, C, h2, h3, h4, h5, h1⟩
theorem zsize_at (W H : Nat) (w : World) (b : Bool) (hb : b = decide (okS W H)) : Calls Tryd.prog 35 #[.int .i64 (W : Int), .int .i64 (H : Int)] w fun e w' => e = .returned (.bool b) ∧ w = w' := zsize W H b hb w

set_option maxHeartbeats 1000000 in
set_option maxRecDepth 100000 in
theorem rread15_short (a : Option Addr) (n cap : Nat) (w : World) (hn : n < 2) : Calls Tryd.prog 15 #[.slice a n cap] w (RdOutR w (.inl 30)) := by
  have hnI : (n : Int) < 2 := by omega
  go_enter Tryd.func15, Tryd.ntmps15
  go_wp2_with fail
  exact bodyPost_ret (v := .tuple #[.agg #[.int .i64 0, .int .i64 0, .slice none 0 0], .int .i64 30]) (by simp [results, Tryd.results15, go_sem]) rfl ⟨(Below.refl _ _).alloc (Nat.le_refl _) _, rfl⟩

set_option maxHeartbeats 1000000 in
set_option maxRecDepth 100000 in
theorem rread15_head0 (b off n cap : Nat) (x y : Nat) (w : World) (h2 : 2 ≤ n) (d0 : w.cell? ⟨b, off, none⟩ = some (.int .u8 (x : Int))) (d1 : w.cell? ⟨b, off + 1, none⟩ = some (.int .u8 (y : Int))) (hx : ¬ x = 80) :
    Calls Tryd.prog 15 #[.slice (some ⟨b, off, none⟩) n cap] w (RdOutR w (.inl 30)) := by
  have hnI : ¬ (n : Int) < 2 := by omega
  have hn0 : (0 : Int) < (n : Int) := by omega
  have hn1 : (1 : Int) < (n : Int) := by omega
  have e0 : ((x : Int) != 80) = true := by simp; omega
  clear hx
  have hb := (Below.refl w.heap.size w).alloc (Nat.le_refl _) (.cells #[.int .i64 0, .int .i64 0, .slice none 0 0] 25)
  have g0 := (hb.cell (p := ⟨b, off, none⟩) (World.block_lt_of_cell? w _ d0)).trans d0
  have g1 := (hb.cell (p := ⟨b, off + 1, none⟩) (World.block_lt_of_cell? w _ d1)).trans d1
  clear d0 d1 hb
  go_enter Tryd.func15, Tryd.ntmps15
  go_wp2_with fail
  exact bodyPost_ret (v := .tuple #[.agg #[.int .i64 0, .int .i64 0, .slice none 0 0], .int .i64 30]) (by simp [results, Tryd.results15, go_sem]) rfl ⟨(Below.refl _ _).alloc (Nat.le_refl _) _, rfl⟩

set_option maxHeartbeats 1000000 in
set_option maxRecDepth 100000 in
theorem rread15_head1 (b off n cap : Nat) (x y : Nat) (w : World) (h2 : 2 ≤ n) (d0 : w.cell? ⟨b, off, none⟩ = some (.int .u8 (x : Int))) (d1 : w.cell? ⟨b, off + 1, none⟩ = some (.int .u8 (y : Int))) (hx : x = 80 ∧ ¬ y = 49 ∧ ¬ y = 52) :
    Calls Tryd.prog 15 #[.slice (some ⟨b, off, none⟩) n cap] w (RdOutR w (.inl 30)) := by
  have hnI : ¬ (n : Int) < 2 := by omega
  have hn0 : (0 : Int) < (n : Int) := by omega
  have hn1 : (1 : Int) < (n : Int) := by omega
  obtain ⟨rfl, hy1, hy2⟩ := hx
  have e1 : ((y : Int) != 49) = true := by simp; omega
  have e2 : ((y : Int) != 52) = true := by simp; omega
  clear hy1 hy2
  have hb := (Below.refl w.heap.size w).alloc (Nat.le_refl _) (.cells #[.int .i64 0, .int .i64 0, .slice none 0 0] 25)
  have g0 := (hb.cell (p := ⟨b, off, none⟩) (World.block_lt_of_cell? w _ d0)).trans d0
  have g1 := (hb.cell (p := ⟨b, off + 1, none⟩) (World.block_lt_of_cell? w _ d1)).trans d1
  clear d0 d1 hb
  go_enter Tryd.func15, Tryd.ntmps15
  go_wp2_with fail
  exact bodyPost_ret (v := .tuple #[.agg #[.int .i64 0, .int .i64 0, .slice none 0 0], .int .i64 30]) (by simp [results, Tryd.results15, go_sem]) rfl ⟨(Below.refl _ _).alloc (Nat.le_refl _) _, rfl⟩

set_option maxHeartbeats 4000000 in
set_option maxRecDepth 100000 in
theorem rread15_none1_49 (b off cap : Nat) (l : List UInt8) (w : World) (h2 : 2 ≤ l.length) (hl : l.length ≤ 100000000000000) (hk : ∀ (u : Nat) (c : UInt8), l[u]? = some c → w.cell? ⟨b, off + u, none⟩ = some (.int .u8 (c.toNat : Int))) (hyy : (l.getD 1 0).toNat = 49)
    (d0 : w.cell? ⟨b, off, none⟩ = some (.int .u8 80)) (d1 : w.cell? ⟨b, off + 1, none⟩ = some (.int .u8 49)) (hs1 : numS l 2 = none) :
    Calls Tryd.prog 15 #[.slice (some ⟨b, off, none⟩) l.length cap] w (RdOutR w (.inl 30)) := by
  obtain ⟨n, hn⟩ : ∃ n, l.length = n := ⟨_, rfl⟩
  have hnI : ¬ (n : Int) < 2 := by omega
  have hn0 : (0 : Int) < (n : Int) := by omega
  have hn1 : (1 : Int) < (n : Int) := by omega
  have HL := Lib.hid hl
  have H2 := Lib.hid h2
  have HY := Lib.hid hyy
  have HN := Lib.hid hn
  rw [hn]
  have hb := (Below.refl w.heap.size w).alloc (Nat.le_refl _) (.cells #[.int .i64 0, .int .i64 0, .slice none 0 0] 25)
  have g0 := (hb.cell (p := ⟨b, off, none⟩) (World.block_lt_of_cell? w _ d0)).trans d0
  have g1 := (hb.cell (p := ⟨b, off + 1, none⟩) (World.block_lt_of_cell? w _ d1)).trans d1
  have HK : Hid (∀ (u : Nat) (c : UInt8), l[u]? = some c → (w.alloc (.cells #[.int .i64 0, .int .i64 0, .slice none 0 0] 25)).cell? ⟨b, off + u, none⟩ = some (.int .u8 (c.toNat : Int))) := fun u c hc => (hb.cell (p := ⟨b, off + u, none⟩) (World.block_lt_of_cell? w _ (hk u c hc))).trans (hk u c hc)
  have HB := Lib.hid hb
  have HH := Lib.hid (heap_alloc_new w (.cells #[.int .i64 0, .int .i64 0, .slice none 0 0] 25))
  have HSZ : Hid (w.heap.size + 1 = (w.alloc (.cells #[.int .i64 0, .int .i64 0, .slice none 0 0] 25)).heap.size) := by show _ = _; simp
  clear hl h2 hk hyy hn d0 d1 hb
  go_enter Tryd.func15, Tryd.ntmps15
  go_wp2_with (go_at_call 34; refine (rnumber34_none b off cap l n 2 _ HN.out HK.out HL.out H2.out hs1).mono ?_; rintro e w4 ⟨rfl, rfl⟩)
  exact bodyPost_ret (v := .tuple #[.agg #[.int .i64 0, .int .i64 0, .slice none 0 0], .int .i64 30]) (by simp [results, Tryd.results15, go_sem]) rfl ⟨(Below.refl _ _).alloc (Nat.le_refl _) _, rfl⟩

set_option maxHeartbeats 4000000 in
set_option maxRecDepth 100000 in
theorem rread15_none2_49 (b off cap : Nat) (l : List UInt8) (w : World) (h2 : 2 ≤ l.length) (hl : l.length ≤ 100000000000000) (hk : ∀ (u : Nat) (c : UInt8), l[u]? = some c → w.cell? ⟨b, off + u, none⟩ = some (.int .u8 (c.toNat : Int))) (hyy : (l.getD 1 0).toNat = 49)
    (d0 : w.cell? ⟨b, off, none⟩ = some (.int .u8 80)) (d1 : w.cell? ⟨b, off + 1, none⟩ = some (.int .u8 49)) (W i : Nat) (hs1 : numS l 2 = some (W, i)) (hs2 : numS l i = none) :
    Calls Tryd.prog 15 #[.slice (some ⟨b, off, none⟩) l.length cap] w (RdOutR w (.inl 30)) := by
  obtain ⟨n, hn⟩ : ∃ n, l.length = n := ⟨_, rfl⟩
  have hnI : ¬ (n : Int) < 2 := by omega
  have hn0 : (0 : Int) < (n : Int) := by omega
  have hn1 : (1 : Int) < (n : Int) := by omega
  have HL := Lib.hid hl
  have H2 := Lib.hid h2
  have HY := Lib.hid hyy
  have HN := Lib.hid hn
  rw [hn]
  have hb := (Below.refl w.heap.size w).alloc (Nat.le_refl _) (.cells #[.int .i64 0, .int .i64 0, .slice none 0 0] 25)
  have g0 := (hb.cell (p := ⟨b, off, none⟩) (World.block_lt_of_cell? w _ d0)).trans d0
  have g1 := (hb.cell (p := ⟨b, off + 1, none⟩) (World.block_lt_of_cell? w _ d1)).trans d1
  have HK : Hid (∀ (u : Nat) (c : UInt8), l[u]? = some c → (w.alloc (.cells #[.int .i64 0, .int .i64 0, .slice none 0 0] 25)).cell? ⟨b, off + u, none⟩ = some (.int .u8 (c.toNat : Int))) := fun u c hc => (hb.cell (p := ⟨b, off + u, none⟩) (World.block_lt_of_cell? w _ (hk u c hc))).trans (hk u c hc)
  have HB := Lib.hid hb
  have HH := Lib.hid (heap_alloc_new w (.cells #[.int .i64 0, .int .i64 0, .slice none 0 0] 25))
  have HSZ : Hid (w.heap.size + 1 = (w.alloc (.cells #[.int .i64 0, .int .i64 0, .slice none 0 0] 25)).heap.size) := by show _ = _; simp
  clear hl h2 hk hyy hn d0 d1 hb
  go_enter Tryd.func15, Tryd.ntmps15
  have hi0 : ¬ (i : Int) < 0 := by omega
  go_upto_region 6 with (go_at_call 34; refine (rnumber34_some b off cap l n 2 W i _ HN.out HK.out HL.out H2.out hs1).mono ?_; rintro e w4 ⟨rfl, rfl⟩)
  go_wp2_with (go_at_call 34; refine (rnumber34_none b off cap l n i _ HN.out HK.out HL.out (numS_le hs1 H2.out) hs2).mono ?_; rintro e w4 ⟨rfl, rfl⟩)
  exact bodyPost_ret (v := .tuple #[.agg #[.int .i64 0, .int .i64 0, .slice none 0 0], .int .i64 30]) (by simp [results, Tryd.results15, go_sem]) rfl ⟨(Below.refl _ _).alloc (Nat.le_refl _) _, rfl⟩

set_option maxHeartbeats 4000000 in
set_option maxRecDepth 100000 in
theorem rread15_area_49 (b off cap : Nat) (l : List UInt8) (w : World) (h2 : 2 ≤ l.length) (hl : l.length ≤ 100000000000000) (hk : ∀ (u : Nat) (c : UInt8), l[u]? = some c → w.cell? ⟨b, off + u, none⟩ = some (.int .u8 (c.toNat : Int))) (hyy : (l.getD 1 0).toNat = 49)
    (d0 : w.cell? ⟨b, off, none⟩ = some (.int .u8 80)) (d1 : w.cell? ⟨b, off + 1, none⟩ = some (.int .u8 49)) (W i H j : Nat) (hs1 : numS l 2 = some (W, i)) (hs2 : numS l i = some (H, j)) (hS : ¬ okS W H) :
    Calls Tryd.prog 15 #[.slice (some ⟨b, off, none⟩) l.length cap] w (RdOutR w (.inl 31)) := by
  obtain ⟨n, hn⟩ : ∃ n, l.length = n := ⟨_, rfl⟩
  have hnI : ¬ (n : Int) < 2 := by omega
  have hn0 : (0 : Int) < (n : Int) := by omega
  have hn1 : (1 : Int) < (n : Int) := by omega
  have HL := Lib.hid hl
  have H2 := Lib.hid h2
  have HY := Lib.hid hyy
  have HN := Lib.hid hn
  rw [hn]
  have hb := (Below.refl w.heap.size w).alloc (Nat.le_refl _) (.cells #[.int .i64 0, .int .i64 0, .slice none 0 0] 25)
  have g0 := (hb.cell (p := ⟨b, off, none⟩) (World.block_lt_of_cell? w _ d0)).trans d0
  have g1 := (hb.cell (p := ⟨b, off + 1, none⟩) (World.block_lt_of_cell? w _ d1)).trans d1
  have HK : Hid (∀ (u : Nat) (c : UInt8), l[u]? = some c → (w.alloc (.cells #[.int .i64 0, .int .i64 0, .slice none 0 0] 25)).cell? ⟨b, off + u, none⟩ = some (.int .u8 (c.toNat : Int))) := fun u c hc => (hb.cell (p := ⟨b, off + u, none⟩) (World.block_lt_of_cell? w _ (hk u c hc))).trans (hk u c hc)
  have HB := Lib.hid hb
  have HH := Lib.hid (heap_alloc_new w (.cells #[.int .i64 0, .int .i64 0, .slice none 0 0] 25))
  have HSZ : Hid (w.heap.size + 1 = (w.alloc (.cells #[.int .i64 0, .int .i64 0, .slice none 0 0] 25)).heap.size) := by show _ = _; simp
  clear hl h2 hk hyy hn d0 d1 hb
  go_enter Tryd.func15, Tryd.ntmps15
  have hi0 : ¬ (i : Int) < 0 := by omega
  have hj0 : ¬ (j : Int) < 0 := by omega
  have HZ := Lib.hid (decide_eq_false hS).symm
  go_upto_region 6 with (go_at_call 34; refine (rnumber34_some b off cap l n 2 W i _ HN.out HK.out HL.out H2.out hs1).mono ?_; rintro e w4 ⟨rfl, rfl⟩)
  go_upto_region 9 with (go_at_call 34; refine (rnumber34_some b off cap l n i H j _ HN.out HK.out HL.out (numS_le hs1 H2.out) hs2).mono ?_; rintro e w4 ⟨rfl, rfl⟩)
  go_wp2_with (go_at_call 35; refine (zsize_at W H _ false HZ.out).mono ?_; rintro e w4 ⟨rfl, rfl⟩)
  exact bodyPost_ret (v := .tuple #[.agg #[.int .i64 0, .int .i64 0, .slice none 0 0], .int .i64 31]) (by simp [results, Tryd.results15, go_sem]) rfl ⟨(Below.refl _ _).alloc (Nat.le_refl _) _, rfl⟩

set_option maxHeartbeats 4000000 in
set_option maxRecDepth 100000 in
theorem rread15_fault_49 (b off cap : Nat) (l : List UInt8) (w : World) (h2 : 2 ≤ l.length) (hl : l.length ≤ 100000000000000) (hk : ∀ (u : Nat) (c : UInt8), l[u]? = some c → w.cell? ⟨b, off + u, none⟩ = some (.int .u8 (c.toNat : Int))) (hyy : (l.getD 1 0).toNat = 49)
    (d0 : w.cell? ⟨b, off, none⟩ = some (.int .u8 80)) (d1 : w.cell? ⟨b, off + 1, none⟩ = some (.int .u8 49)) (W i H j : Nat) (hs1 : numS l 2 = some (W, i)) (hs2 : numS l i = some (H, j)) (hS : okS W H) (code : Nat) (hX : bodyS l j W H = .inl code) :
    Calls Tryd.prog 15 #[.slice (some ⟨b, off, none⟩) l.length cap] w (RdOutR w (.inl code)) := by
  obtain ⟨n, hn⟩ : ∃ n, l.length = n := ⟨_, rfl⟩
  have hnI : ¬ (n : Int) < 2 := by omega
  have hn0 : (0 : Int) < (n : Int) := by omega
  have hn1 : (1 : Int) < (n : Int) := by omega
  have HL := Lib.hid hl
  have H2 := Lib.hid h2
  have HY := Lib.hid hyy
  have HN := Lib.hid hn
  rw [hn]
  have hb := (Below.refl w.heap.size w).alloc (Nat.le_refl _) (.cells #[.int .i64 0, .int .i64 0, .slice none 0 0] 25)
  have g0 := (hb.cell (p := ⟨b, off, none⟩) (World.block_lt_of_cell? w _ d0)).trans d0
  have g1 := (hb.cell (p := ⟨b, off + 1, none⟩) (World.block_lt_of_cell? w _ d1)).trans d1
  have HK : Hid (∀ (u : Nat) (c : UInt8), l[u]? = some c → (w.alloc (.cells #[.int .i64 0, .int .i64 0, .slice none 0 0] 25)).cell? ⟨b, off + u, none⟩ = some (.int .u8 (c.toNat : Int))) := fun u c hc => (hb.cell (p := ⟨b, off + u, none⟩) (World.block_lt_of_cell? w _ (hk u c hc))).trans (hk u c hc)
  have HB := Lib.hid hb
  have HH := Lib.hid (heap_alloc_new w (.cells #[.int .i64 0, .int .i64 0, .slice none 0 0] 25))
  have HSZ : Hid (w.heap.size + 1 = (w.alloc (.cells #[.int .i64 0, .int .i64 0, .slice none 0 0] 25)).heap.size) := by show _ = _; simp
  clear hl h2 hk hyy hn d0 d1 hb
  go_enter Tryd.func15, Tryd.ntmps15
  have hi0 : ¬ (i : Int) < 0 := by omega
  have hj0 : ¬ (j : Int) < 0 := by omega
  have HZ := Lib.hid (decide_eq_true hS).symm
  go_upto_region 6 with (go_at_call 34; refine (rnumber34_some b off cap l n 2 W i _ HN.out HK.out HL.out H2.out hs1).mono ?_; rintro e w4 ⟨rfl, rfl⟩)
  go_upto_region 9 with (go_at_call 34; refine (rnumber34_some b off cap l n i H j _ HN.out HK.out HL.out (numS_le hs1 H2.out) hs2).mono ?_; rintro e w4 ⟨rfl, rfl⟩)
  go_upto_region 11 with (go_at_call 35; refine (zsize_at W H _ true HZ.out).mono ?_; rintro e w4 ⟨rfl, rfl⟩)
  have HBL := Lib.hid (rfl : w.heap.size = w.heap.size)
  obtain ⟨p, hp⟩ : ∃ p, w.heap.size = p := ⟨_, rfl⟩
  rw [hp] at HH HSZ HB
  rw [hp]
  have HP := Lib.hid hp
  clear hp
  generalize w.alloc (.cells #[.int .i64 0, .int .i64 0, .slice none 0 0] 25) = w1 at *
  go_wp2_with (go_at_call 37; refine (rbody_fault 49 37 n b off cap l j W H _ (p + 1) code HN.out HK.out HL.out (numS_le hs2 (numS_le hs1 H2.out)) hS HY.out (by decide) (by decide) HSZ.out hX).mono ?_; rintro e w9 ⟨rfl, hb9⟩; have hh := (hb9.block p (Nat.lt_succ_self p)).trans HH.out; have HH9 := Lib.hid hh; have HB9 := Lib.hid (HB.out.trans (hb9.mono (Nat.le_succ p))); have f0 := Joins.cell_of_block hh 0; have f1 := Joins.cell_of_block hh 1; have f2 := Joins.cell_of_block hh 2; have y0 := Joins.unfrozen_of_block hh 0; have y1 := Joins.unfrozen_of_block hh 1; have y2 := Joins.unfrozen_of_block hh 2; clear hh hb9)
  obtain ⟨t0, t1, t2, t3⟩ := rend_fault (code := code) HP.out.symm HB9.out HH9.out
  exact bodyPost_ret (v := .tuple #[.agg #[.int .i64 0, .int .i64 0, .slice none 0 0], .int .i64 code]) (by simp [results, Tryd.results15, go_sem, t0, t1, t2]) rfl t3

set_option maxHeartbeats 4000000 in
set_option maxRecDepth 100000 in
theorem rread15_good_49 (b off cap : Nat) (l : List UInt8) (w : World) (h2 : 2 ≤ l.length) (hl : l.length ≤ 100000000000000) (hk : ∀ (u : Nat) (c : UInt8), l[u]? = some c → w.cell? ⟨b, off + u, none⟩ = some (.int .u8 (c.toNat : Int))) (hyy : (l.getD 1 0).toNat = 49)
    (d0 : w.cell? ⟨b, off, none⟩ = some (.int .u8 80)) (d1 : w.cell? ⟨b, off + 1, none⟩ = some (.int .u8 49)) (W i H j : Nat) (hs1 : numS l 2 = some (W, i)) (hs2 : numS l i = some (H, j)) (hS : okS W H) (ps : List Bool) (hX : bodyS l j W H = .inr ps) :
    Calls Tryd.prog 15 #[.slice (some ⟨b, off, none⟩) l.length cap] w (RdOutR w (.inr (W, H, ps))) := by
  obtain ⟨n, hn⟩ : ∃ n, l.length = n := ⟨_, rfl⟩
  have hnI : ¬ (n : Int) < 2 := by omega
  have hn0 : (0 : Int) < (n : Int) := by omega
  have hn1 : (1 : Int) < (n : Int) := by omega
  have HL := Lib.hid hl
  have H2 := Lib.hid h2
  have HY := Lib.hid hyy
  have HN := Lib.hid hn
  rw [hn]
  have hb := (Below.refl w.heap.size w).alloc (Nat.le_refl _) (.cells #[.int .i64 0, .int .i64 0, .slice none 0 0] 25)
  have g0 := (hb.cell (p := ⟨b, off, none⟩) (World.block_lt_of_cell? w _ d0)).trans d0
  have g1 := (hb.cell (p := ⟨b, off + 1, none⟩) (World.block_lt_of_cell? w _ d1)).trans d1
  have HK : Hid (∀ (u : Nat) (c : UInt8), l[u]? = some c → (w.alloc (.cells #[.int .i64 0, .int .i64 0, .slice none 0 0] 25)).cell? ⟨b, off + u, none⟩ = some (.int .u8 (c.toNat : Int))) := fun u c hc => (hb.cell (p := ⟨b, off + u, none⟩) (World.block_lt_of_cell? w _ (hk u c hc))).trans (hk u c hc)
  have HB := Lib.hid hb
  have HH := Lib.hid (heap_alloc_new w (.cells #[.int .i64 0, .int .i64 0, .slice none 0 0] 25))
  have HSZ : Hid (w.heap.size + 1 = (w.alloc (.cells #[.int .i64 0, .int .i64 0, .slice none 0 0] 25)).heap.size) := by show _ = _; simp
  clear hl h2 hk hyy hn d0 d1 hb
  go_enter Tryd.func15, Tryd.ntmps15
  have hi0 : ¬ (i : Int) < 0 := by omega
  have hj0 : ¬ (j : Int) < 0 := by omega
  have HZ := Lib.hid (decide_eq_true hS).symm
  go_upto_region 6 with (go_at_call 34; refine (rnumber34_some b off cap l n 2 W i _ HN.out HK.out HL.out H2.out hs1).mono ?_; rintro e w4 ⟨rfl, rfl⟩)
  go_upto_region 9 with (go_at_call 34; refine (rnumber34_some b off cap l n i H j _ HN.out HK.out HL.out (numS_le hs1 H2.out) hs2).mono ?_; rintro e w4 ⟨rfl, rfl⟩)
  go_upto_region 11 with (go_at_call 35; refine (zsize_at W H _ true HZ.out).mono ?_; rintro e w4 ⟨rfl, rfl⟩)
  have HBL := Lib.hid (rfl : w.heap.size = w.heap.size)
  obtain ⟨p, hp⟩ : ∃ p, w.heap.size = p := ⟨_, rfl⟩
  rw [hp] at HH HSZ HB
  rw [hp]
  have HP := Lib.hid hp
  clear hp
  generalize w.alloc (.cells #[.int .i64 0, .int .i64 0, .slice none 0 0] 25) = w1 at *
  go_wp2_with (go_at_call 37; refine (rbody_good 49 37 n b off cap l j W H _ (p + 1) ps HN.out HK.out HL.out (numS_le hs2 (numS_le hs1 H2.out)) hS HY.out (by decide) (by decide) HSZ.out hX).mono ?_; rintro e w9 ⟨g, C, rfl, hown, hpg, hpx, hb9⟩; have HO := Lib.hid (And.intro hown (And.intro hpg hpx)); clear hown hpg hpx; have hh := (hb9.block p (Nat.lt_succ_self p)).trans HH.out; have HH9 := Lib.hid hh; have HB9 := Lib.hid (HB.out.trans (hb9.mono (Nat.le_succ p))); have f0 := Joins.cell_of_block hh 0; have f1 := Joins.cell_of_block hh 1; have f2 := Joins.cell_of_block hh 2; have y0 := Joins.unfrozen_of_block hh 0; have y1 := Joins.unfrozen_of_block hh 1; have y2 := Joins.unfrozen_of_block hh 2; clear hh hb9)
  obtain ⟨s0, s1, s2⟩ := store3 HB9.out HH9.out (.int .i64 (W : Int)) (.int .i64 (H : Int)) (.slice (some ⟨g, 0, none⟩) (H * wd W) (H * wd W))
  have t0 := Joins.cell_of_block s0 0
  have t1 := Joins.cell_of_block s0 1
  have t2 := Joins.cell_of_block s0 2
  exact bodyPost_ret (v := .tuple #[.agg #[.int .i64 W, .int .i64 H, .slice (some ⟨g, 0, none⟩) (H * wd W) (H * wd W)], .int .i64 0]) (by simp [results, Tryd.results15, go_sem, t0, t1, t2]) rfl ⟨by rw [HP.out]; exact s1, g, C, rfl, IsOwn.grown HO.out.1 s2 (by have := HO.out.2.1; omega), by rw [HP.out]; have := HO.out.2.1; omega, HO.out.2.2⟩

set_option maxHeartbeats 4000000 in
set_option maxRecDepth 100000 in
theorem rread15_none1_52 (b off cap : Nat) (l : List UInt8) (w : World) (h2 : 2 ≤ l.length) (hl : l.length ≤ 100000000000000) (hk : ∀ (u : Nat) (c : UInt8), l[u]? = some c → w.cell? ⟨b, off + u, none⟩ = some (.int .u8 (c.toNat : Int))) (hyy : (l.getD 1 0).toNat = 52)
    (d0 : w.cell? ⟨b, off, none⟩ = some (.int .u8 80)) (d1 : w.cell? ⟨b, off + 1, none⟩ = some (.int .u8 52)) (hs1 : numS l 2 = none) :
    Calls Tryd.prog 15 #[.slice (some ⟨b, off, none⟩) l.length cap] w (RdOutR w (.inl 30)) := by
  obtain ⟨n, hn⟩ : ∃ n, l.length = n := ⟨_, rfl⟩
  have hnI : ¬ (n : Int) < 2 := by omega
  have hn0 : (0 : Int) < (n : Int) := by omega
  have hn1 : (1 : Int) < (n : Int) := by omega
  have HL := Lib.hid hl
  have H2 := Lib.hid h2
  have HY := Lib.hid hyy
  have HN := Lib.hid hn
  rw [hn]
  have hb := (Below.refl w.heap.size w).alloc (Nat.le_refl _) (.cells #[.int .i64 0, .int .i64 0, .slice none 0 0] 25)
  have g0 := (hb.cell (p := ⟨b, off, none⟩) (World.block_lt_of_cell? w _ d0)).trans d0
  have g1 := (hb.cell (p := ⟨b, off + 1, none⟩) (World.block_lt_of_cell? w _ d1)).trans d1
  have HK : Hid (∀ (u : Nat) (c : UInt8), l[u]? = some c → (w.alloc (.cells #[.int .i64 0, .int .i64 0, .slice none 0 0] 25)).cell? ⟨b, off + u, none⟩ = some (.int .u8 (c.toNat : Int))) := fun u c hc => (hb.cell (p := ⟨b, off + u, none⟩) (World.block_lt_of_cell? w _ (hk u c hc))).trans (hk u c hc)
  have HB := Lib.hid hb
  have HH := Lib.hid (heap_alloc_new w (.cells #[.int .i64 0, .int .i64 0, .slice none 0 0] 25))
  have HSZ : Hid (w.heap.size + 1 = (w.alloc (.cells #[.int .i64 0, .int .i64 0, .slice none 0 0] 25)).heap.size) := by show _ = _; simp
  clear hl h2 hk hyy hn d0 d1 hb
  go_enter Tryd.func15, Tryd.ntmps15
  go_wp2_with (go_at_call 34; refine (rnumber34_none b off cap l n 2 _ HN.out HK.out HL.out H2.out hs1).mono ?_; rintro e w4 ⟨rfl, rfl⟩)
  exact bodyPost_ret (v := .tuple #[.agg #[.int .i64 0, .int .i64 0, .slice none 0 0], .int .i64 30]) (by simp [results, Tryd.results15, go_sem]) rfl ⟨(Below.refl _ _).alloc (Nat.le_refl _) _, rfl⟩

set_option maxHeartbeats 4000000 in
set_option maxRecDepth 100000 in
theorem rread15_none2_52 (b off cap : Nat) (l : List UInt8) (w : World) (h2 : 2 ≤ l.length) (hl : l.length ≤ 100000000000000) (hk : ∀ (u : Nat) (c : UInt8), l[u]? = some c → w.cell? ⟨b, off + u, none⟩ = some (.int .u8 (c.toNat : Int))) (hyy : (l.getD 1 0).toNat = 52)
    (d0 : w.cell? ⟨b, off, none⟩ = some (.int .u8 80)) (d1 : w.cell? ⟨b, off + 1, none⟩ = some (.int .u8 52)) (W i : Nat) (hs1 : numS l 2 = some (W, i)) (hs2 : numS l i = none) :
    Calls Tryd.prog 15 #[.slice (some ⟨b, off, none⟩) l.length cap] w (RdOutR w (.inl 30)) := by
  obtain ⟨n, hn⟩ : ∃ n, l.length = n := ⟨_, rfl⟩
  have hnI : ¬ (n : Int) < 2 := by omega
  have hn0 : (0 : Int) < (n : Int) := by omega
  have hn1 : (1 : Int) < (n : Int) := by omega
  have HL := Lib.hid hl
  have H2 := Lib.hid h2
  have HY := Lib.hid hyy
  have HN := Lib.hid hn
  rw [hn]
  have hb := (Below.refl w.heap.size w).alloc (Nat.le_refl _) (.cells #[.int .i64 0, .int .i64 0, .slice none 0 0] 25)
  have g0 := (hb.cell (p := ⟨b, off, none⟩) (World.block_lt_of_cell? w _ d0)).trans d0
  have g1 := (hb.cell (p := ⟨b, off + 1, none⟩) (World.block_lt_of_cell? w _ d1)).trans d1
  have HK : Hid (∀ (u : Nat) (c : UInt8), l[u]? = some c → (w.alloc (.cells #[.int .i64 0, .int .i64 0, .slice none 0 0] 25)).cell? ⟨b, off + u, none⟩ = some (.int .u8 (c.toNat : Int))) := fun u c hc => (hb.cell (p := ⟨b, off + u, none⟩) (World.block_lt_of_cell? w _ (hk u c hc))).trans (hk u c hc)
  have HB := Lib.hid hb
  have HH := Lib.hid (heap_alloc_new w (.cells #[.int .i64 0, .int .i64 0, .slice none 0 0] 25))
  have HSZ : Hid (w.heap.size + 1 = (w.alloc (.cells #[.int .i64 0, .int .i64 0, .slice none 0 0] 25)).heap.size) := by show _ = _; simp
  clear hl h2 hk hyy hn d0 d1 hb
  go_enter Tryd.func15, Tryd.ntmps15
  have hi0 : ¬ (i : Int) < 0 := by omega
  go_upto_region 6 with (go_at_call 34; refine (rnumber34_some b off cap l n 2 W i _ HN.out HK.out HL.out H2.out hs1).mono ?_; rintro e w4 ⟨rfl, rfl⟩)
  go_wp2_with (go_at_call 34; refine (rnumber34_none b off cap l n i _ HN.out HK.out HL.out (numS_le hs1 H2.out) hs2).mono ?_; rintro e w4 ⟨rfl, rfl⟩)
  exact bodyPost_ret (v := .tuple #[.agg #[.int .i64 0, .int .i64 0, .slice none 0 0], .int .i64 30]) (by simp [results, Tryd.results15, go_sem]) rfl ⟨(Below.refl _ _).alloc (Nat.le_refl _) _, rfl⟩

set_option maxHeartbeats 4000000 in
set_option maxRecDepth 100000 in
theorem rread15_area_52 (b off cap : Nat) (l : List UInt8) (w : World) (h2 : 2 ≤ l.length) (hl : l.length ≤ 100000000000000) (hk : ∀ (u : Nat) (c : UInt8), l[u]? = some c → w.cell? ⟨b, off + u, none⟩ = some (.int .u8 (c.toNat : Int))) (hyy : (l.getD 1 0).toNat = 52)
    (d0 : w.cell? ⟨b, off, none⟩ = some (.int .u8 80)) (d1 : w.cell? ⟨b, off + 1, none⟩ = some (.int .u8 52)) (W i H j : Nat) (hs1 : numS l 2 = some (W, i)) (hs2 : numS l i = some (H, j)) (hS : ¬ okS W H) :
    Calls Tryd.prog 15 #[.slice (some ⟨b, off, none⟩) l.length cap] w (RdOutR w (.inl 31)) := by
  obtain ⟨n, hn⟩ : ∃ n, l.length = n := ⟨_, rfl⟩
  have hnI : ¬ (n : Int) < 2 := by omega
  have hn0 : (0 : Int) < (n : Int) := by omega
  have hn1 : (1 : Int) < (n : Int) := by omega
  have HL := Lib.hid hl
  have H2 := Lib.hid h2
  have HY := Lib.hid hyy
  have HN := Lib.hid hn
  rw [hn]
  have hb := (Below.refl w.heap.size w).alloc (Nat.le_refl _) (.cells #[.int .i64 0, .int .i64 0, .slice none 0 0] 25)
  have g0 := (hb.cell (p := ⟨b, off, none⟩) (World.block_lt_of_cell? w _ d0)).trans d0
  have g1 := (hb.cell (p := ⟨b, off + 1, none⟩) (World.block_lt_of_cell? w _ d1)).trans d1
  have HK : Hid (∀ (u : Nat) (c : UInt8), l[u]? = some c → (w.alloc (.cells #[.int .i64 0, .int .i64 0, .slice none 0 0] 25)).cell? ⟨b, off + u, none⟩ = some (.int .u8 (c.toNat : Int))) := fun u c hc => (hb.cell (p := ⟨b, off + u, none⟩) (World.block_lt_of_cell? w _ (hk u c hc))).trans (hk u c hc)
  have HB := Lib.hid hb
  have HH := Lib.hid (heap_alloc_new w (.cells #[.int .i64 0, .int .i64 0, .slice none 0 0] 25))
  have HSZ : Hid (w.heap.size + 1 = (w.alloc (.cells #[.int .i64 0, .int .i64 0, .slice none 0 0] 25)).heap.size) := by show _ = _; simp
  clear hl h2 hk hyy hn d0 d1 hb
  go_enter Tryd.func15, Tryd.ntmps15
  have hi0 : ¬ (i : Int) < 0 := by omega
  have hj0 : ¬ (j : Int) < 0 := by omega
  have HZ := Lib.hid (decide_eq_false hS).symm
  go_upto_region 6 with (go_at_call 34; refine (rnumber34_some b off cap l n 2 W i _ HN.out HK.out HL.out H2.out hs1).mono ?_; rintro e w4 ⟨rfl, rfl⟩)
  go_upto_region 9 with (go_at_call 34; refine (rnumber34_some b off cap l n i H j _ HN.out HK.out HL.out (numS_le hs1 H2.out) hs2).mono ?_; rintro e w4 ⟨rfl, rfl⟩)
  go_wp2_with (go_at_call 35; refine (zsize_at W H _ false HZ.out).mono ?_; rintro e w4 ⟨rfl, rfl⟩)
  exact bodyPost_ret (v := .tuple #[.agg #[.int .i64 0, .int .i64 0, .slice none 0 0], .int .i64 31]) (by simp [results, Tryd.results15, go_sem]) rfl ⟨(Below.refl _ _).alloc (Nat.le_refl _) _, rfl⟩

set_option maxHeartbeats 4000000 in
set_option maxRecDepth 100000 in
theorem rread15_fault_52 (b off cap : Nat) (l : List UInt8) (w : World) (h2 : 2 ≤ l.length) (hl : l.length ≤ 100000000000000) (hk : ∀ (u : Nat) (c : UInt8), l[u]? = some c → w.cell? ⟨b, off + u, none⟩ = some (.int .u8 (c.toNat : Int))) (hyy : (l.getD 1 0).toNat = 52)
    (d0 : w.cell? ⟨b, off, none⟩ = some (.int .u8 80)) (d1 : w.cell? ⟨b, off + 1, none⟩ = some (.int .u8 52)) (W i H j : Nat) (hs1 : numS l 2 = some (W, i)) (hs2 : numS l i = some (H, j)) (hS : okS W H) (code : Nat) (hX : bodyS l j W H = .inl code) :
    Calls Tryd.prog 15 #[.slice (some ⟨b, off, none⟩) l.length cap] w (RdOutR w (.inl code)) := by
  obtain ⟨n, hn⟩ : ∃ n, l.length = n := ⟨_, rfl⟩
  have hnI : ¬ (n : Int) < 2 := by omega
  have hn0 : (0 : Int) < (n : Int) := by omega
  have hn1 : (1 : Int) < (n : Int) := by omega
  have HL := Lib.hid hl
  have H2 := Lib.hid h2
  have HY := Lib.hid hyy
  have HN := Lib.hid hn
  rw [hn]
  have hb := (Below.refl w.heap.size w).alloc (Nat.le_refl _) (.cells #[.int .i64 0, .int .i64 0, .slice none 0 0] 25)
  have g0 := (hb.cell (p := ⟨b, off, none⟩) (World.block_lt_of_cell? w _ d0)).trans d0
  have g1 := (hb.cell (p := ⟨b, off + 1, none⟩) (World.block_lt_of_cell? w _ d1)).trans d1
  have HK : Hid (∀ (u : Nat) (c : UInt8), l[u]? = some c → (w.alloc (.cells #[.int .i64 0, .int .i64 0, .slice none 0 0] 25)).cell? ⟨b, off + u, none⟩ = some (.int .u8 (c.toNat : Int))) := fun u c hc => (hb.cell (p := ⟨b, off + u, none⟩) (World.block_lt_of_cell? w _ (hk u c hc))).trans (hk u c hc)
  have HB := Lib.hid hb
  have HH := Lib.hid (heap_alloc_new w (.cells #[.int .i64 0, .int .i64 0, .slice none 0 0] 25))
  have HSZ : Hid (w.heap.size + 1 = (w.alloc (.cells #[.int .i64 0, .int .i64 0, .slice none 0 0] 25)).heap.size) := by show _ = _; simp
  clear hl h2 hk hyy hn d0 d1 hb
  go_enter Tryd.func15, Tryd.ntmps15
  have hi0 : ¬ (i : Int) < 0 := by omega
  have hj0 : ¬ (j : Int) < 0 := by omega
  have HZ := Lib.hid (decide_eq_true hS).symm
  go_upto_region 6 with (go_at_call 34; refine (rnumber34_some b off cap l n 2 W i _ HN.out HK.out HL.out H2.out hs1).mono ?_; rintro e w4 ⟨rfl, rfl⟩)
  go_upto_region 9 with (go_at_call 34; refine (rnumber34_some b off cap l n i H j _ HN.out HK.out HL.out (numS_le hs1 H2.out) hs2).mono ?_; rintro e w4 ⟨rfl, rfl⟩)
  go_upto_region 11 with (go_at_call 35; refine (zsize_at W H _ true HZ.out).mono ?_; rintro e w4 ⟨rfl, rfl⟩)
  have HBL := Lib.hid (rfl : w.heap.size = w.heap.size)
  obtain ⟨p, hp⟩ : ∃ p, w.heap.size = p := ⟨_, rfl⟩
  rw [hp] at HH HSZ HB
  rw [hp]
  have HP := Lib.hid hp
  clear hp
  generalize w.alloc (.cells #[.int .i64 0, .int .i64 0, .slice none 0 0] 25) = w1 at *
  go_wp2_with (go_at_call 36; refine (rbody_fault 52 36 n b off cap l j W H _ (p + 1) code HN.out HK.out HL.out (numS_le hs2 (numS_le hs1 H2.out)) hS HY.out (by decide) (by decide) HSZ.out hX).mono ?_; rintro e w9 ⟨rfl, hb9⟩; have hh := (hb9.block p (Nat.lt_succ_self p)).trans HH.out; have HH9 := Lib.hid hh; have HB9 := Lib.hid (HB.out.trans (hb9.mono (Nat.le_succ p))); have f0 := Joins.cell_of_block hh 0; have f1 := Joins.cell_of_block hh 1; have f2 := Joins.cell_of_block hh 2; have y0 := Joins.unfrozen_of_block hh 0; have y1 := Joins.unfrozen_of_block hh 1; have y2 := Joins.unfrozen_of_block hh 2; clear hh hb9)
  obtain ⟨t0, t1, t2, t3⟩ := rend_fault (code := code) HP.out.symm HB9.out HH9.out
  exact bodyPost_ret (v := .tuple #[.agg #[.int .i64 0, .int .i64 0, .slice none 0 0], .int .i64 code]) (by simp [results, Tryd.results15, go_sem, t0, t1, t2]) rfl t3

set_option maxHeartbeats 4000000 in
set_option maxRecDepth 100000 in
theorem rread15_good_52 (b off cap : Nat) (l : List UInt8) (w : World) (h2 : 2 ≤ l.length) (hl : l.length ≤ 100000000000000) (hk : ∀ (u : Nat) (c : UInt8), l[u]? = some c → w.cell? ⟨b, off + u, none⟩ = some (.int .u8 (c.toNat : Int))) (hyy : (l.getD 1 0).toNat = 52)
    (d0 : w.cell? ⟨b, off, none⟩ = some (.int .u8 80)) (d1 : w.cell? ⟨b, off + 1, none⟩ = some (.int .u8 52)) (W i H j : Nat) (hs1 : numS l 2 = some (W, i)) (hs2 : numS l i = some (H, j)) (hS : okS W H) (ps : List Bool) (hX : bodyS l j W H = .inr ps) :
    Calls Tryd.prog 15 #[.slice (some ⟨b, off, none⟩) l.length cap] w (RdOutR w (.inr (W, H, ps))) := by
  obtain ⟨n, hn⟩ : ∃ n, l.length = n := ⟨_, rfl⟩
  have hnI : ¬ (n : Int) < 2 := by omega
  have hn0 : (0 : Int) < (n : Int) := by omega
  have hn1 : (1 : Int) < (n : Int) := by omega
  have HL := Lib.hid hl
  have H2 := Lib.hid h2
  have HY := Lib.hid hyy
  have HN := Lib.hid hn
  rw [hn]
  have hb := (Below.refl w.heap.size w).alloc (Nat.le_refl _) (.cells #[.int .i64 0, .int .i64 0, .slice none 0 0] 25)
  have g0 := (hb.cell (p := ⟨b, off, none⟩) (World.block_lt_of_cell? w _ d0)).trans d0
  have g1 := (hb.cell (p := ⟨b, off + 1, none⟩) (World.block_lt_of_cell? w _ d1)).trans d1
  have HK : Hid (∀ (u : Nat) (c : UInt8), l[u]? = some c → (w.alloc (.cells #[.int .i64 0, .int .i64 0, .slice none 0 0] 25)).cell? ⟨b, off + u, none⟩ = some (.int .u8 (c.toNat : Int))) := fun u c hc => (hb.cell (p := ⟨b, off + u, none⟩) (World.block_lt_of_cell? w _ (hk u c hc))).trans (hk u c hc)
  have HB := Lib.hid hb
  have HH := Lib.hid (heap_alloc_new w (.cells #[.int .i64 0, .int .i64 0, .slice none 0 0] 25))
  have HSZ : Hid (w.heap.size + 1 = (w.alloc (.cells #[.int .i64 0, .int .i64 0, .slice none 0 0] 25)).heap.size) := by show _ = _; simp
  clear hl h2 hk hyy hn d0 d1 hb
  go_enter Tryd.func15, Tryd.ntmps15
  have hi0 : ¬ (i : Int) < 0 := by omega
  have hj0 : ¬ (j : Int) < 0 := by omega
  have HZ := Lib.hid (decide_eq_true hS).symm
  go_upto_region 6 with (go_at_call 34; refine (rnumber34_some b off cap l n 2 W i _ HN.out HK.out HL.out H2.out hs1).mono ?_; rintro e w4 ⟨rfl, rfl⟩)
  go_upto_region 9 with (go_at_call 34; refine (rnumber34_some b off cap l n i H j _ HN.out HK.out HL.out (numS_le hs1 H2.out) hs2).mono ?_; rintro e w4 ⟨rfl, rfl⟩)
  go_upto_region 11 with (go_at_call 35; refine (zsize_at W H _ true HZ.out).mono ?_; rintro e w4 ⟨rfl, rfl⟩)
  have HBL := Lib.hid (rfl : w.heap.size = w.heap.size)
  obtain ⟨p, hp⟩ : ∃ p, w.heap.size = p := ⟨_, rfl⟩
  rw [hp] at HH HSZ HB
  rw [hp]
  have HP := Lib.hid hp
  clear hp
  generalize w.alloc (.cells #[.int .i64 0, .int .i64 0, .slice none 0 0] 25) = w1 at *
  go_wp2_with (go_at_call 36; refine (rbody_good 52 36 n b off cap l j W H _ (p + 1) ps HN.out HK.out HL.out (numS_le hs2 (numS_le hs1 H2.out)) hS HY.out (by decide) (by decide) HSZ.out hX).mono ?_; rintro e w9 ⟨g, C, rfl, hown, hpg, hpx, hb9⟩; have HO := Lib.hid (And.intro hown (And.intro hpg hpx)); clear hown hpg hpx; have hh := (hb9.block p (Nat.lt_succ_self p)).trans HH.out; have HH9 := Lib.hid hh; have HB9 := Lib.hid (HB.out.trans (hb9.mono (Nat.le_succ p))); have f0 := Joins.cell_of_block hh 0; have f1 := Joins.cell_of_block hh 1; have f2 := Joins.cell_of_block hh 2; have y0 := Joins.unfrozen_of_block hh 0; have y1 := Joins.unfrozen_of_block hh 1; have y2 := Joins.unfrozen_of_block hh 2; clear hh hb9)
  obtain ⟨s0, s1, s2⟩ := store3 HB9.out HH9.out (.int .i64 (W : Int)) (.int .i64 (H : Int)) (.slice (some ⟨g, 0, none⟩) (H * wd W) (H * wd W))
  have t0 := Joins.cell_of_block s0 0
  have t1 := Joins.cell_of_block s0 1
  have t2 := Joins.cell_of_block s0 2
  exact bodyPost_ret (v := .tuple #[.agg #[.int .i64 W, .int .i64 H, .slice (some ⟨g, 0, none⟩) (H * wd W) (H * wd W)], .int .i64 0]) (by simp [results, Tryd.results15, go_sem, t0, t1, t2]) rfl ⟨by rw [HP.out]; exact s1, g, C, rfl, IsOwn.grown HO.out.1 s2 (by have := HO.out.2.1; omega), by rw [HP.out]; have := HO.out.2.1; omega, HO.out.2.2⟩
end Go.Proofs.YtgpjpmadbepblaaDoor
