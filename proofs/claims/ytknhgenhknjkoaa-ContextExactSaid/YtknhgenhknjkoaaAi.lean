/- What holds of a boxed question (a bitmap, a template, places) in every world from then on. No condition. -/
import Derived.Test.YtknhgenhknjkoaaCg
namespace Go.Proofs.Ytknhgenhknjkoaa
open Go.RowKit Go.Bm

structure AInv (w : World) (W0 : Nat) (W H : Int) (a : Option Addr) (n cap : Nat) (t : Int) (ax : Option Addr) (nx cx : Nat) (ay : Option Addr) (ny cy : Nat) (W' : World) : Prop where
  lt : W0 < W'.heap.size
  c0 : W'.cell? ⟨W0, 0, none⟩ = some (.int .i64 W)
  c1 : W'.cell? ⟨W0, 1, none⟩ = some (.int .i64 H)
  c2 : W'.cell? ⟨W0, 2, none⟩ = some (.slice a n cap)
  c3 : W'.cell? ⟨W0, 3, none⟩ = some (.int .i64 t)
  c4 : W'.cell? ⟨W0, 4, none⟩ = some (.slice ax nx cx)
  c5 : W'.cell? ⟨W0, 5, none⟩ = some (.slice ay ny cy)
  bel : Below W0 w W'
theorem AInv.step {w : World} {W0 : Nat} {W H : Int} {a : Option Addr} {n cap : Nat} {t : Int} {ax : Option Addr} {nx cx : Nat} {ay : Option Addr} {ny cy : Nat} {W1 W2 : World}
    (h : AInv w W0 W H a n cap t ax nx cx ay ny cy W1) (hb : Below W1.heap.size W1 W2) : AInv w W0 W H a n cap t ax nx cx ay ny cy W2 :=
  ⟨Nat.lt_of_lt_of_le h.lt hb.size, (hb.cell (p := ⟨W0, 0, none⟩) h.lt).trans h.c0, (hb.cell (p := ⟨W0, 1, none⟩) h.lt).trans h.c1, (hb.cell (p := ⟨W0, 2, none⟩) h.lt).trans h.c2, (hb.cell (p := ⟨W0, 3, none⟩) h.lt).trans h.c3,
    (hb.cell (p := ⟨W0, 4, none⟩) h.lt).trans h.c4, (hb.cell (p := ⟨W0, 5, none⟩) h.lt).trans h.c5, h.bel.trans (hb.mono (Nat.le_of_lt h.lt))⟩
theorem AInv.grown {w : World} {W0 : Nat} {W H : Int} {a : Option Addr} {n cap : Nat} {t : Int} {ax : Option Addr} {nx cx : Nat} {ay : Option Addr} {ny cy : Nat} {W1 W2 : World} {g : Nat}
    (h : AInv w W0 W H a n cap t ax nx cx ay ny cy W1) (hg : W1.grownBy W2 (some g)) (hl : W0 < g) : AInv w W0 W H a n cap t ax nx cx ay ny cy W2 :=
  have f : ∀ i, W2.cell? ⟨W0, i, none⟩ = W1.cell? ⟨W0, i, none⟩ := fun i => hg.cell_far ⟨W0, i, none⟩ h.lt (by simp; omega)
  ⟨Nat.lt_of_lt_of_le h.lt hg.size, (f 0).trans h.c0, (f 1).trans h.c1, (f 2).trans h.c2, (f 3).trans h.c3, (f 4).trans h.c4, (f 5).trans h.c5, h.bel.grown hg (Nat.le_of_lt h.lt) (fun k e => by cases e; exact Nat.le_of_lt hl)⟩
theorem AInv.words {w : World} {W0 : Nat} {W H : Int} {a : Option Addr} {n cap : Nat} {t : Int} {ax : Option Addr} {nx cx : Nat} {ay : Option Addr} {ny cy : Nat} {W1 : World} {B : Nat → Nat}
    (h : AInv w W0 W H a n cap t ax nx cx ay ny cy W1) (hW0 : w.heap.size = W0) (hB : IsWords w a n cap B) : IsWords W1 a n cap B := hB.below (hW0 ▸ h.bel)
theorem AInv.intsX {w : World} {W0 : Nat} {W H : Int} {a : Option Addr} {n cap : Nat} {t : Int} {ax : Option Addr} {nx cx : Nat} {ay : Option Addr} {ny cy : Nat} {W1 : World} {X : Nat → Int}
    (h : AInv w W0 W H a n cap t ax nx cx ay ny cy W1) (hW0 : w.heap.size = W0) (hX : IsInts w ax nx X) : IsInts W1 ax nx X := hX.below (hW0 ▸ h.bel)
theorem AInv.intsY {w : World} {W0 : Nat} {W H : Int} {a : Option Addr} {n cap : Nat} {t : Int} {ax : Option Addr} {nx cx : Nat} {ay : Option Addr} {ny cy : Nat} {W1 : World} {Y : Nat → Int}
    (h : AInv w W0 W H a n cap t ax nx cx ay ny cy W1) (hW0 : w.heap.size = W0) (hY : IsInts w ay ny Y) : IsInts W1 ay ny Y := hY.below (hW0 ▸ h.bel)
theorem AInv.new (w : World) (W H : Int) (a : Option Addr) (n cap : Nat) (t : Int) (ax : Option Addr) (nx cx : Nat) (ay : Option Addr) (ny cy : Nat) :
    AInv w w.heap.size W H a n cap t ax nx cx ay ny cy (w.alloc (.cells #[.int .i64 W, .int .i64 H, .slice a n cap, .int .i64 t, .slice ax nx cx, .slice ay ny cy] 27)) :=
  ⟨by simp, by rw [World.cell?_alloc_at _ _ _ _ rfl]; rfl, by rw [World.cell?_alloc_at _ _ _ _ rfl]; rfl, by rw [World.cell?_alloc_at _ _ _ _ rfl]; rfl, by rw [World.cell?_alloc_at _ _ _ _ rfl]; rfl,
    by rw [World.cell?_alloc_at _ _ _ _ rfl]; rfl, by rw [World.cell?_alloc_at _ _ _ _ rfl]; rfl, (Below.refl _ _).alloc (Nat.le_refl _) _⟩
theorem within_nat (i : Int) (n k : Nat) (w : World) (h1 : 1 ≤ n) (h2 : n ≤ 1048576) (hk : i % n = k) : Calls Try.prog 22 #[.int .i64 i, .int .i64 (n : Int)] w fun e w' => e = .returned (.int .i64 (k : Nat)) ∧ w = w' :=
  (within0 i n w h1 h2).mono fun e w' ⟨he, hw⟩ => ⟨by rw [he, hk], hw⟩
theorem IsInts.at {w : World} {a : Option Addr} {n : Nat} {L : Nat → Int} (h : IsInts w a n L) (h0 : 0 < n) : ∃ b off, a = some ⟨b, off, none⟩ ∧ b < w.heap.size ∧ ∀ i, i < n → w.cell? ⟨b, off + i, none⟩ = some (.int .i64 (L i)) := by
  rcases h with h | h
  · omega
  · exact h
theorem grown_of_below {w w1 : World} (h : Below w.heap.size w w1) (row : Option Nat) : w.grownBy w1 row := ⟨h.os, h.tape, h.output, h.size, fun i hi _ => h.block i hi⟩
theorem putI (W H : Nat) (g n cap : Nat) (B : Nat → Nat) (x y b : Nat) (c : Int) (w : World) (hW : W ≤ 1048576) (hH : H ≤ 1048576) (hn : n = H * wd W) (hB : IsOwn w g n B) (hx : x < W) (hy : y < H) (hb : b ≤ 1) (hc : c = (b : Int)) :
    Calls Try.prog 24 #[.agg #[.int .i64 (W : Int), .int .i64 (H : Int), .slice (some ⟨g, 0, none⟩) n cap], .int .i64 (x : Int), .int .i64 (y : Int), .int .i64 c] w
      fun e w' => e = .returned (.tuple #[]) ∧ IsOwn w' g n (setB B W x y b) ∧ w.grownBy w' (some g) := by
  subst hc
  exact put0 W H g n cap B x y b w hW hH hn hB hx hy hb
/-- pixels ahead of a place are as they were -/
def Turned (W H n : Nat) (B : Nat → Nat) (x y : Nat) (C : Nat → Nat) : Prop := okB W H n C ∧ ∀ a b : Int, (b < y ∨ (b = y ∧ a < x)) → px W H C a b = px W H B a b
theorem Turned.step {W H n : Nat} {B : Nat → Nat} {x y : Nat} {C : Nat → Nat} (h : Turned W H n B x y C) {i j b : Nat} (hi : i < W) (hb : b ≤ 1) (hc : y < j ∨ (y ≤ j ∧ x ≤ i)) : Turned W H n B x y (setB C W i j b) := by
  refine ⟨okB_setB h.1 hi, fun a b' hab => ?_⟩
  by_cases hin : 0 ≤ a ∧ a < W ∧ 0 ≤ b' ∧ b' < H
  · rw [px_setB W H C i j b hi hb a b' hin, if_neg (by omega)]
    exact h.2 a b' hab
  · rw [px_setB_out W H C i j b a b' hin]
    exact h.2 a b' hab
theorem Turned.ctx {W H n : Nat} {B : Nat → Nat} {x y : Nat} {C : Nat → Nat} (h : Turned W H n B x y C) {t : Nat} (ht : t < 4) : ctx t (px W H C) x y = ctx t (px W H B) x y :=
  ctx_congr ht fun dx dy _ _ _ _ hd => h.2 _ _ (by omega)
end Go.Proofs.Ytknhgenhknjkoaa
