/- Write of package pbm. Conditions: the bounds that each theorem names. -/
import Derived.Test.YtgpjpmadbepblaaDoorMd
namespace Go.Pbm
open Go.Bm
/-- a file's head -/
def headF (k W H : Nat) : List UInt8 := (if k = 0 then [80, 49, 10] else [80, 52, 10]) ++ Lib.decDigits W ++ 32 :: Lib.decDigits H ++ [10]
def rowF (k W H : Nat) (B : Nat → Nat) (y : Nat) : List UInt8 := if k = 0 then digRow (fun x => px W H B x y) W W else packRow (fun x => px W H B x y) W
def rowsF (k W H : Nat) (B : Nat → Nat) : Nat → List UInt8
  | 0 => []
  | y + 1 => rowsF k W H B y ++ rowF k W H B y
/-- a bitmap's file -/
def fileF (k W H : Nat) (B : Nat → Nat) : List UInt8 := headF k W H ++ rowsF k W H B H
theorem rowF_len (k W H : Nat) (B : Nat → Nat) (y : Nat) : (rowF k W H B y).length ≤ 2 * W + 1 := by
  unfold rowF
  split
  · have := digRow_len (fun x => px W H B x y) W W; omega
  · have := packRow_len (fun x => px W H B x y) W; omega
theorem rowsF_len (k W H : Nat) (B : Nat → Nat) : ∀ y, (rowsF k W H B y).length ≤ y * (2 * W + 1)
  | 0 => Nat.zero_le _
  | y + 1 => by
    rw [rowsF, List.length_append, Nat.succ_mul]
    have := rowsF_len k W H B y
    have := rowF_len k W H B y
    omega
end Go.Pbm
namespace Go.Proofs.YtgpjpmadbepblaaDoor
open Go.RowKit Go.Bm Go.Pbm Go.Sort
theorem IsMap.below {w w' : World} {v : Value} {W H : Nat} {B : Nat → Nat} (h : IsMap w v W H B) (hb : Below w.heap.size w w') : IsMap w' v W H B := by
  obtain ⟨g, a, cap, h1, h2, h3, h4, h5, h6, h7⟩ := h
  exact ⟨g, a, cap, h1, Nat.lt_of_lt_of_le h2 hb.size, (hb.cell (p := ⟨g, 0, none⟩) h2).trans h3, (hb.cell (p := ⟨g, 1, none⟩) h2).trans h4, (hb.cell (p := ⟨g, 2, none⟩) h2).trans h5, (hb.cell (p := ⟨g, 3, none⟩) h2).trans h6, h7.below hb⟩
theorem str_lay (w1 : World) (o : Obj) (l : List UInt8) (hl : l.length ≤ 100000) :
    Owns (((w1.alloc o).alloc (.cells (bytesRow ⟨l.toArray⟩ (grownCap (w1.alloc o) l.length 0 5)) 5 ((bytesRow ⟨l.toArray⟩ (grownCap (w1.alloc o) l.length 0 5)).size, (bytesRow ⟨l.toArray⟩ (grownCap (w1.alloc o) l.length 0 5)).size + 1))).drew) w1.heap.size 5 (.slice (some ⟨w1.heap.size + 1, 0, none⟩) l.length (grownCap (w1.alloc o) l.length 0 5)) l.length (bv l) ∧
    Below w1.heap.size w1 (((w1.alloc o).alloc (.cells (bytesRow ⟨l.toArray⟩ (grownCap (w1.alloc o) l.length 0 5)) 5 ((bytesRow ⟨l.toArray⟩ (grownCap (w1.alloc o) l.length 0 5)).size, (bytesRow ⟨l.toArray⟩ (grownCap (w1.alloc o) l.length 0 5)).size + 1))).drew) := by
  have h := Owns.string (w1.alloc o) w1.heap.size 5 l (by simp) (by omega)
  have e : (w1.alloc o).heap.size = w1.heap.size + 1 := by simp
  rw [e] at h
  exact ⟨h, (((Below.refl _ _).alloc (Nat.le_refl _) _).alloc (by simp) _).drew⟩
/-- a bitmap's box, and the table -/
structure BI (w : World) (W0 : Nat) (W H : Int) (a : Option Addr) (n cap : Nat) (B : Nat → Nat) (W1 : World) : Prop where
  c0 : W1.cell? ⟨W0, 0, none⟩ = some (.int .i64 W)
  c1 : W1.cell? ⟨W0, 1, none⟩ = some (.int .i64 H)
  c2 : W1.cell? ⟨W0, 2, none⟩ = some (.slice a n cap)
  k : IsWords W1 a n cap B
  t : PowW W1
  bel : Below w.heap.size w W1
theorem BI.step {w : World} {W0 : Nat} {W H : Int} {a : Option Addr} {n cap : Nat} {B : Nat → Nat} {W1 W2 : World} (h : BI w W0 W H a n cap B W1) (hb : Below W1.heap.size W1 W2) : BI w W0 W H a n cap B W2 :=
  have l : W0 < W1.heap.size := World.block_lt_of_cell? W1 _ h.c0
  ⟨(hb.cell (p := ⟨W0, 0, none⟩) l).trans h.c0, (hb.cell (p := ⟨W0, 1, none⟩) l).trans h.c1, (hb.cell (p := ⟨W0, 2, none⟩) l).trans h.c2, h.k.below hb, h.t.below hb, h.bel.trans (hb.mono h.bel.size)⟩
theorem BI.new {w : World} {W H : Int} {a : Option Addr} {n cap : Nat} {B : Nat → Nat} (h : IsWords w a n cap B) (hT : PowW w) : BI w w.heap.size W H a n cap B (w.alloc (.cells #[.int .i64 W, .int .i64 H, .slice a n cap] 25)) :=
  have hb := (Below.refl w.heap.size w).alloc (Nat.le_refl _) (.cells #[.int .i64 W, .int .i64 H, .slice a n cap] 25)
  have two : ∀ j, (w.alloc (.cells #[.int .i64 W, .int .i64 H, .slice a n cap] 25)).cell? ⟨w.heap.size, j, none⟩ = (#[.int .i64 W, .int .i64 H, .slice a n cap] : Array Value)[j]? := fun j => by rw [World.cell?_alloc_at _ _ _ _ rfl]
  ⟨two 0, two 1, two 2, h.below hb, hT.below hb, hb⟩

set_option maxRecDepth 100000 in
set_option maxHeartbeats 4000000 in
theorem write8_kind (W H : Int) (a : Option Addr) (n cap : Nat) (k : Int) (w : World) (hk : ¬ k = 0) (hk1 : ¬ k = 1) :
    Calls Tryd.prog 8 #[.agg #[.int .i64 W, .int .i64 H, .slice a n cap], .int .i64 k] w fun e w' => e = .returned (.tuple #[.slice none 0 0, .int .i64 34]) ∧ Below w.heap.size w w' := by
  have hb := (Below.refl w.heap.size w).alloc (Nat.le_refl _) (.cells #[.int .i64 W, .int .i64 H, .slice a n cap] 25)
  have HBE := Lib.hid hb
  have k0 : (k != 0) = true := by simpa using hk
  have k1 : (k != 1) = true := by simpa using hk1
  clear hb hk hk1
  go_enter Tryd.func8, Tryd.ntmps8
  go_wp2_with fail
  go_ret2
  exact ⟨rfl, HBE.out⟩

set_option maxRecDepth 100000 in
set_option maxHeartbeats 4000000 in
theorem write8_no (W H : Int) (a : Option Addr) (n cap : Nat) (B : Nat → Nat) (k : Nat) (hk : k ≤ 1) (w : World) (hB : IsWords w a n cap B) (hT : PowW w) (ho : ¬ okB W H n B) :
    Calls Tryd.prog 8 #[.agg #[.int .i64 W, .int .i64 H, .slice a n cap], .int .i64 k] w fun e w' => e = .returned (.tuple #[.slice none 0 0, .int .i64 30]) ∧ Below w.heap.size w w' := by
  have hi := BI.new (W := W) (H := H) hB hT
  have HI := Lib.hid hi
  have HO := Lib.hid ho
  clear hB hT hi ho
  obtain rfl | rfl : k = 0 ∨ k = 1 := by omega
  all_goals
    go_enter Tryd.func8, Tryd.ntmps8
    go_upto_region 1 with fail
    obtain ⟨W0, hW0⟩ : ∃ W0, w.heap.size = W0 := ⟨_, rfl⟩
    have HI := Lib.hid (hW0 ▸ HI.out)
    rw [hW0]
    clear hW0
    generalize w.alloc (.cells #[.int .i64 W, .int .i64 H, .slice a n cap] 25) = w0 at *
    have c0 := HI.out.c0
    have c1 := HI.out.c1
    have c2 := HI.out.c2
    go_wp2_with (go_at_call 24; refine (from_no W H a n cap B _ HI.out.k HO.out).mono ?_; rintro e w1 ⟨rfl, hbel⟩; have HI1 := Lib.hid (HI.out.step hbel); clear hbel)
    go_ret2
    exact ⟨rfl, HI1.out.bel⟩

set_option maxRecDepth 100000 in
set_option maxHeartbeats 4000000 in
theorem write8_ok0 (W H : Nat) (a : Option Addr) (n cap : Nat) (B : Nat → Nat) (w : World) (hB : IsWords w a n cap B) (hT : PowW w) (ho : okB W H n B) :
    Calls Tryd.prog 8 #[.agg #[.int .i64 (W : Int), .int .i64 (H : Int), .slice a n cap], .int .i64 0] w fun e w' => ∃ v B0, e = .returned (.tuple #[v, .int .i64 0]) ∧ Owns w' B0 5 v (fileF 0 W H B).length (bv (fileF 0 W H B)) ∧ w.heap.size ≤ B0 ∧ Below w.heap.size w w' := by
  obtain ⟨i0, hi, hz0, hz1, hz2⟩ := info_parts infoB
  have hs := okS_le ho.1
  have hW : W ≤ 1048576 := by omega
  have hH : H ≤ 1048576 := by omega
  have hi := BI.new (W := (W : Int)) (H := (H : Int)) hB hT
  have HI := Lib.hid hi
  have HO := Lib.hid ho
  clear hB hT hi ho hs
  have kc := fun (w : World) (s : ByteArray) => run_bytes_of_string (P := Tryd.prog) w 9 27 5 s Tryd.underlying9 Tryd.underlying27 Tryd.underlying5
  go_enter Tryd.func8, Tryd.ntmps8
  go_upto_region 1 with fail
  obtain ⟨W0, hW0⟩ : ∃ W0, w.heap.size = W0 := ⟨_, rfl⟩
  have HI := Lib.hid (hW0 ▸ HI.out)
  rw [hW0]
  have HW0 := Lib.hid hW0
  clear hW0
  generalize w.alloc (.cells #[.int .i64 (W : Int), .int .i64 (H : Int), .slice a n cap] 25) = w0 at *
  have c0 := HI.out.c0
  have c1 := HI.out.c1
  have c2 := HI.out.c2
  go_upto_region 4 with (go_at_call 24; refine (from_ok W H a n cap B _ HI.out.k HO.out).mono ?_; rintro e w1 ⟨v, rfl, hM, hbel⟩; have HI1 := Lib.hid (HI.out.step hbel); have HM1 := Lib.hid hM; clear hbel hM c0 c1 c2)
  have HBB : Hid (w.heap.size ≤ w1.heap.size) := HI1.out.bel.size
  obtain ⟨B0, hB0⟩ : ∃ B0, w1.heap.size = B0 := ⟨_, rfl⟩
  have HM : Hid (∀ w', Below B0 w1 w' → IsMap w' v W H B) := fun w' hb => HM1.out.below (hB0.symm ▸ hb)
  have HC : Hid (∀ w', Below B0 w1 w' → BI w w.heap.size (W : Int) (H : Int) a n cap B w') := fun w' hb => by
    have h := HI1.out.step (hB0.symm ▸ hb)
    rw [← HW0.out] at h
    exact h
  have HB0 := Lib.hid hB0
  clear hB0 HM1 HI
  go_upto_region 7 with fail
  obtain ⟨hs1, hs2⟩ := str_lay w1 (.cells #[.string ⟨#[80, 49, 10]⟩, .string ⟨#[80, 52, 10]⟩] 9) [80, 49, 10] (by decide)
  have HS1 : Hid (Owns (((w1.alloc (.cells #[.string ⟨#[80, 49, 10]⟩, .string ⟨#[80, 52, 10]⟩] 9)).alloc (.cells (bytesRow ⟨#[80, 49, 10]⟩ (grownCap (w1.alloc (.cells #[.string ⟨#[80, 49, 10]⟩, .string ⟨#[80, 52, 10]⟩] 9)) 3 0 5)) 5 ((bytesRow ⟨#[80, 49, 10]⟩ (grownCap (w1.alloc (.cells #[.string ⟨#[80, 49, 10]⟩, .string ⟨#[80, 52, 10]⟩] 9)) 3 0 5)).size, (bytesRow ⟨#[80, 49, 10]⟩ (grownCap (w1.alloc (.cells #[.string ⟨#[80, 49, 10]⟩, .string ⟨#[80, 52, 10]⟩] 9)) 3 0 5)).size + 1))).drew) w1.heap.size 5 (Value.slice (some ⟨w1.heap.size + 1, 0, none⟩) 3 (grownCap (w1.alloc (.cells #[.string ⟨#[80, 49, 10]⟩, .string ⟨#[80, 52, 10]⟩] 9)) 3 0 5)) 3 (bv [80, 49, 10])) := hs1
  have HS2 : Hid (Below w1.heap.size w1 (((w1.alloc (.cells #[.string ⟨#[80, 49, 10]⟩, .string ⟨#[80, 52, 10]⟩] 9)).alloc (.cells (bytesRow ⟨#[80, 49, 10]⟩ (grownCap (w1.alloc (.cells #[.string ⟨#[80, 49, 10]⟩, .string ⟨#[80, 52, 10]⟩] 9)) 3 0 5)) 5 ((bytesRow ⟨#[80, 49, 10]⟩ (grownCap (w1.alloc (.cells #[.string ⟨#[80, 49, 10]⟩, .string ⟨#[80, 52, 10]⟩] 9)) 3 0 5)).size, (bytesRow ⟨#[80, 49, 10]⟩ (grownCap (w1.alloc (.cells #[.string ⟨#[80, 49, 10]⟩, .string ⟨#[80, 52, 10]⟩] 9)) 3 0 5)).size + 1))).drew)) := hs2
  clear hs1 hs2 kc
  generalize ((w1.alloc (.cells #[.string ⟨#[80, 49, 10]⟩, .string ⟨#[80, 52, 10]⟩] 9)).alloc (.cells (bytesRow ⟨#[80, 49, 10]⟩ (grownCap (w1.alloc (.cells #[.string ⟨#[80, 49, 10]⟩, .string ⟨#[80, 52, 10]⟩] 9)) 3 0 5)) 5 ((bytesRow ⟨#[80, 49, 10]⟩ (grownCap (w1.alloc (.cells #[.string ⟨#[80, 49, 10]⟩, .string ⟨#[80, 52, 10]⟩] 9)) 3 0 5)).size, (bytesRow ⟨#[80, 49, 10]⟩ (grownCap (w1.alloc (.cells #[.string ⟨#[80, 49, 10]⟩, .string ⟨#[80, 52, 10]⟩] 9)) 3 0 5)).size + 1))).drew = w2 at *
  generalize Value.slice (some ⟨w1.heap.size + 1, 0, none⟩) 3 (grownCap (w1.alloc (.cells #[.string ⟨#[80, 49, 10]⟩, .string ⟨#[80, 52, 10]⟩] 9)) 3 0 5) = v0 at *
  rw [HB0.out] at HS1 HS2
  have hB2 : B0 ≤ w2.heap.size := by have := HS2.out.size; rw [HB0.out] at this; exact this
  have c0 := (HC.out _ HS2.out).c0
  rw [HW0.out] at c0
  go_upto_region 8 with (go_at_call 25; refine (appint25 B0 3 W hW v0 _ _ HS1.out hB2 (by decide) (HC.out _ HS2.out).t).mono ?_; rintro e w3 ⟨v3, rfl, h1, h2⟩)
  have HO3 := Lib.hid h1
  have HB3 := Lib.hid (HS2.out.trans h2)
  have hB3 : B0 ≤ w3.heap.size := Nat.le_trans hB2 h2.size
  clear h1 h2 c0 HS1 HS2 hB2
  have hdl := digits_le hW
  obtain ⟨n3, hn3⟩ : ∃ n3, 3 + (Lib.decDigits W).length = n3 := ⟨_, rfl⟩
  have hn3b : n3 ≤ 30 := by omega
  rw [hn3] at HO3
  have HN3 := Lib.hid hn3
  have c1 := (HC.out _ HB3.out).c1
  rw [HW0.out] at c1
  have hlw : W0 < B0 := by
    have h := World.block_lt_of_cell? w1 _ (HC.out w1 (Below.refl _ _)).c1
    rw [HW0.out] at h
    exact HB0.out ▸ h
  clear hn3 hdl
  go_region_held3 (fun w' => w'.cell? ⟨W0, 1, none⟩ = some (.int .i64 (H : Int))) (go_keep)
    ((first
      | (refine reg_append _ (by rfl) _ _ 27 (by rfl) B0 5 i0 (.int .u8 0) Tryd.underlying27 hi hz0 hz1 hz2 rfl _ _ _ (by rfl) ((HO3.out.drewN 1).alloc _) ⟨w3.heap.size, 0, none⟩ 1 1 (bv [32]) (by rfl) rfl ?_ (bv_one _) ?_ ?_ ?_; (rw [bv_single 32 32 rfl]; exact cell_one_new _ _ _); omega; (simp; omega); intro v4 w4 h1 hgr; have HB4 : Hid (Below B0 w1 w4) := (HB3.out.drew.alloc (by simpa using hB3) _).grown hgr (by simp; omega) (fun z hz => (HO3.out.lt z hz).1); have HO4 := Lib.hid h1; have c1 := (HC.out _ HB4.out).c1; rw [HW0.out] at c1; have hB4 : B0 ≤ w4.heap.size := HB0.out ▸ HB4.out.size; clear h1 hgr)
      | (go_at_call 25; refine (appint25 B0 (n3 + 1) H hH v4 _ _ HO4.out hB4 (by omega) (HC.out _ HB4.out).t).mono ?_; rintro e w5 ⟨v5, rfl, h1, h2⟩; have HO5 := Lib.hid h1; have HB5 := Lib.hid (HB4.out.trans h2); have c1 := (HC.out _ HB5.out).c1; rw [HW0.out] at c1; clear h1 h2)))
  have hB5 : B0 ≤ w5.heap.size := HB0.out ▸ HB5.out.size
  have hdh := digits_le hH
  clear c1
  go_upto_region 10 with (at_builtin; refine step_append _ rfl _ _ 27 rfl B0 5 i0 (.int .u8 0) Tryd.underlying27 hi hz0 hz1 hz2 rfl _ _ _ rfl (HO5.out.alloc _) ⟨w5.heap.size, 0, none⟩ 1 1 (bv [10]) rfl rfl ?c1 (bv_one _) ?c3 ?c4 ?_)
  case c1 => rw [bv_single 10 10 rfl]; exact cell_one_new _ _ _
  case c3 => omega
  case c4 => simp; omega
  intro v6 w6 h1 hgr
  have HB6 : Hid (Below B0 w1 w6) := (HB5.out.alloc hB5 _).grown hgr (by simp; omega) (fun z hz => (HO5.out.lt z hz).1)
  have HO6 : Hid (Owns w6 B0 5 v6 (headF 0 W H).length (bv (headF 0 W H))) := by
    have e1 : bv (headF 0 W H) = bv [80, 49, 10] ++ bv (Lib.decDigits W) ++ bv [32] ++ bv (Lib.decDigits H) ++ bv [10] := by
      rw [← bv_append, ← bv_append, ← bv_append, ← bv_append]
      congr 1
      unfold headF
      simp
    have e2 : (headF 0 W H).length = n3 + 1 + (Lib.decDigits H).length + 1 := by
      rw [← HN3.out]
      unfold headF
      simp
      omega
    show Owns ..
    rw [e1, e2]
    first | exact h1 | simpa using h1
  have HHL : Hid ((headF 0 W H).length ≤ 60) := by
    show _ ≤ _
    rw [show (headF 0 W H).length = n3 + 1 + (Lib.decDigits H).length + 1 by rw [← HN3.out]; unfold headF; simp; omega]
    omega
  have c1 := (HC.out _ HB6.out).c1
  rw [HW0.out] at c1
  clear h1 hgr hdh HO5 HO3 HB3 HB5 hB3 hB5
  go_wp2_with fail
  go_loopw [8, 9, 43] (fun s _ i wr => ∃ y : Nat, y ≤ H ∧ i = .int .i64 y ∧ Hid (Owns wr B0 5 s ((headF 0 W H).length + (rowsF 0 W H B y).length) (bv (headF 0 W H) ++ bv (rowsF 0 W H B y))) ∧ Hid (Below B0 w1 wr)) (fun _ _ i _ => H - (intOf i).toNat)
  case atStart => exact ⟨0, Nat.zero_le _, rfl, Lib.hid (by simpa [rowsF, bv, Lib.byteCells] using HO6.out), HB6⟩
  case round =>
    clear HO6 HB6 c1
    obtain ⟨y, hy, rfl, ho, hb⟩ := hrel
    by_cases hlt : y < H
    · have hltI : (y : Int) < (H : Int) := by omega
      have c0 := (HC.out _ hb.out).c0
      rw [HW0.out] at c0
      have hrl := rowsF_len 0 W H B y
      have hrl2 : y * (2 * W + 1) ≤ 1048576 * 2097153 := Nat.mul_le_mul (by omega) (by omega)
      have hhl := HHL.out
      obtain ⟨n7, hn7⟩ : ∃ n7, (headF 0 W H).length + (rowsF 0 W H B y).length = n7 := ⟨_, rfl⟩
      have hn7b : n7 ≤ 10000000000000 := by omega
      have ho7 := ho.out
      rw [hn7] at ho7
      have HO7 := Lib.hid ho7
      have HN7 := Lib.hid hn7
      clear hrl hrl2 hhl hn7 ho7
      go_wp2_with (go_at_call 26; refine (digits26 B0 v W H y B u8 n7 _ _ hW hH (fun w' h => HM.out w' (hb.out.trans h)) HO7.out (HB0.out ▸ hb.out.size) hn7b).mono ?_; rintro e w8 ⟨v8, rfl, h1, h2⟩; have HO8 := Lib.hid h1; have HB8 := Lib.hid (hb.out.trans h2); clear h1 h2)
      go_roundw
      case rel =>
        refine ⟨y + 1, by omega, by go_num, ?_, HB8⟩
        have h1 := HO8.out
        rw [← HN7.out] at h1
        show Owns ..
        have e1 : rowsF 0 W H B (y + 1) = rowsF 0 W H B y ++ digRow (fun x => px W H B x y) W W := rfl
        rw [e1, bv_append, List.length_append, ← Nat.add_assoc, ← List.append_assoc]
        exact h1
      case measure => simp [intOf]; omega
    · obtain rfl : y = H := by omega
      go_wp2_with fail
      go_ret2
      refine ⟨u8, B0, rfl, ?_, HB0.out ▸ HBB.out, (HC.out _ hb.out).bel⟩
      have h1 := ho.out
      unfold fileF
      rw [List.length_append, bv_append]
      exact h1

set_option maxRecDepth 100000 in
set_option maxHeartbeats 4000000 in
theorem write8_ok1 (W H : Nat) (a : Option Addr) (n cap : Nat) (B : Nat → Nat) (w : World) (hB : IsWords w a n cap B) (hT : PowW w) (ho : okB W H n B) :
    Calls Tryd.prog 8 #[.agg #[.int .i64 (W : Int), .int .i64 (H : Int), .slice a n cap], .int .i64 1] w fun e w' => ∃ v B0, e = .returned (.tuple #[v, .int .i64 0]) ∧ Owns w' B0 5 v (fileF 1 W H B).length (bv (fileF 1 W H B)) ∧ w.heap.size ≤ B0 ∧ Below w.heap.size w w' := by
  obtain ⟨i0, hi, hz0, hz1, hz2⟩ := info_parts infoB
  have hs := okS_le ho.1
  have hW : W ≤ 1048576 := by omega
  have hH : H ≤ 1048576 := by omega
  have hi := BI.new (W := (W : Int)) (H := (H : Int)) hB hT
  have HI := Lib.hid hi
  have HO := Lib.hid ho
  clear hB hT hi ho hs
  have kc := fun (w : World) (s : ByteArray) => run_bytes_of_string (P := Tryd.prog) w 9 27 5 s Tryd.underlying9 Tryd.underlying27 Tryd.underlying5
  go_enter Tryd.func8, Tryd.ntmps8
  go_upto_region 1 with fail
  obtain ⟨W0, hW0⟩ : ∃ W0, w.heap.size = W0 := ⟨_, rfl⟩
  have HI := Lib.hid (hW0 ▸ HI.out)
  rw [hW0]
  have HW0 := Lib.hid hW0
  clear hW0
  generalize w.alloc (.cells #[.int .i64 (W : Int), .int .i64 (H : Int), .slice a n cap] 25) = w0 at *
  have c0 := HI.out.c0
  have c1 := HI.out.c1
  have c2 := HI.out.c2
  go_upto_region 4 with (go_at_call 24; refine (from_ok W H a n cap B _ HI.out.k HO.out).mono ?_; rintro e w1 ⟨v, rfl, hM, hbel⟩; have HI1 := Lib.hid (HI.out.step hbel); have HM1 := Lib.hid hM; clear hbel hM c0 c1 c2)
  have HBB : Hid (w.heap.size ≤ w1.heap.size) := HI1.out.bel.size
  obtain ⟨B0, hB0⟩ : ∃ B0, w1.heap.size = B0 := ⟨_, rfl⟩
  have HM : Hid (∀ w', Below B0 w1 w' → IsMap w' v W H B) := fun w' hb => HM1.out.below (hB0.symm ▸ hb)
  have HC : Hid (∀ w', Below B0 w1 w' → BI w w.heap.size (W : Int) (H : Int) a n cap B w') := fun w' hb => by
    have h := HI1.out.step (hB0.symm ▸ hb)
    rw [← HW0.out] at h
    exact h
  have HB0 := Lib.hid hB0
  clear hB0 HM1 HI
  go_upto_region 7 with fail
  obtain ⟨hs1, hs2⟩ := str_lay w1 (.cells #[.string ⟨#[80, 49, 10]⟩, .string ⟨#[80, 52, 10]⟩] 9) [80, 52, 10] (by decide)
  have HS1 : Hid (Owns (((w1.alloc (.cells #[.string ⟨#[80, 49, 10]⟩, .string ⟨#[80, 52, 10]⟩] 9)).alloc (.cells (bytesRow ⟨#[80, 52, 10]⟩ (grownCap (w1.alloc (.cells #[.string ⟨#[80, 49, 10]⟩, .string ⟨#[80, 52, 10]⟩] 9)) 3 0 5)) 5 ((bytesRow ⟨#[80, 52, 10]⟩ (grownCap (w1.alloc (.cells #[.string ⟨#[80, 49, 10]⟩, .string ⟨#[80, 52, 10]⟩] 9)) 3 0 5)).size, (bytesRow ⟨#[80, 52, 10]⟩ (grownCap (w1.alloc (.cells #[.string ⟨#[80, 49, 10]⟩, .string ⟨#[80, 52, 10]⟩] 9)) 3 0 5)).size + 1))).drew) w1.heap.size 5 (Value.slice (some ⟨w1.heap.size + 1, 0, none⟩) 3 (grownCap (w1.alloc (.cells #[.string ⟨#[80, 49, 10]⟩, .string ⟨#[80, 52, 10]⟩] 9)) 3 0 5)) 3 (bv [80, 52, 10])) := hs1
  have HS2 : Hid (Below w1.heap.size w1 (((w1.alloc (.cells #[.string ⟨#[80, 49, 10]⟩, .string ⟨#[80, 52, 10]⟩] 9)).alloc (.cells (bytesRow ⟨#[80, 52, 10]⟩ (grownCap (w1.alloc (.cells #[.string ⟨#[80, 49, 10]⟩, .string ⟨#[80, 52, 10]⟩] 9)) 3 0 5)) 5 ((bytesRow ⟨#[80, 52, 10]⟩ (grownCap (w1.alloc (.cells #[.string ⟨#[80, 49, 10]⟩, .string ⟨#[80, 52, 10]⟩] 9)) 3 0 5)).size, (bytesRow ⟨#[80, 52, 10]⟩ (grownCap (w1.alloc (.cells #[.string ⟨#[80, 49, 10]⟩, .string ⟨#[80, 52, 10]⟩] 9)) 3 0 5)).size + 1))).drew)) := hs2
  clear hs1 hs2 kc
  generalize ((w1.alloc (.cells #[.string ⟨#[80, 49, 10]⟩, .string ⟨#[80, 52, 10]⟩] 9)).alloc (.cells (bytesRow ⟨#[80, 52, 10]⟩ (grownCap (w1.alloc (.cells #[.string ⟨#[80, 49, 10]⟩, .string ⟨#[80, 52, 10]⟩] 9)) 3 0 5)) 5 ((bytesRow ⟨#[80, 52, 10]⟩ (grownCap (w1.alloc (.cells #[.string ⟨#[80, 49, 10]⟩, .string ⟨#[80, 52, 10]⟩] 9)) 3 0 5)).size, (bytesRow ⟨#[80, 52, 10]⟩ (grownCap (w1.alloc (.cells #[.string ⟨#[80, 49, 10]⟩, .string ⟨#[80, 52, 10]⟩] 9)) 3 0 5)).size + 1))).drew = w2 at *
  generalize Value.slice (some ⟨w1.heap.size + 1, 0, none⟩) 3 (grownCap (w1.alloc (.cells #[.string ⟨#[80, 49, 10]⟩, .string ⟨#[80, 52, 10]⟩] 9)) 3 0 5) = v0 at *
  rw [HB0.out] at HS1 HS2
  have hB2 : B0 ≤ w2.heap.size := by have := HS2.out.size; rw [HB0.out] at this; exact this
  have c0 := (HC.out _ HS2.out).c0
  rw [HW0.out] at c0
  go_upto_region 8 with (go_at_call 25; refine (appint25 B0 3 W hW v0 _ _ HS1.out hB2 (by decide) (HC.out _ HS2.out).t).mono ?_; rintro e w3 ⟨v3, rfl, h1, h2⟩)
  have HO3 := Lib.hid h1
  have HB3 := Lib.hid (HS2.out.trans h2)
  have hB3 : B0 ≤ w3.heap.size := Nat.le_trans hB2 h2.size
  clear h1 h2 c0 HS1 HS2 hB2
  have hdl := digits_le hW
  obtain ⟨n3, hn3⟩ : ∃ n3, 3 + (Lib.decDigits W).length = n3 := ⟨_, rfl⟩
  have hn3b : n3 ≤ 30 := by omega
  rw [hn3] at HO3
  have HN3 := Lib.hid hn3
  have c1 := (HC.out _ HB3.out).c1
  rw [HW0.out] at c1
  have hlw : W0 < B0 := by
    have h := World.block_lt_of_cell? w1 _ (HC.out w1 (Below.refl _ _)).c1
    rw [HW0.out] at h
    exact HB0.out ▸ h
  clear hn3 hdl
  go_region_held3 (fun w' => w'.cell? ⟨W0, 1, none⟩ = some (.int .i64 (H : Int))) (go_keep)
    ((first
      | (refine reg_append _ (by rfl) _ _ 27 (by rfl) B0 5 i0 (.int .u8 0) Tryd.underlying27 hi hz0 hz1 hz2 rfl _ _ _ (by rfl) ((HO3.out.drewN 1).alloc _) ⟨w3.heap.size, 0, none⟩ 1 1 (bv [32]) (by rfl) rfl ?_ (bv_one _) ?_ ?_ ?_; (rw [bv_single 32 32 rfl]; exact cell_one_new _ _ _); omega; (simp; omega); intro v4 w4 h1 hgr; have HB4 : Hid (Below B0 w1 w4) := (HB3.out.drew.alloc (by simpa using hB3) _).grown hgr (by simp; omega) (fun z hz => (HO3.out.lt z hz).1); have HO4 := Lib.hid h1; have c1 := (HC.out _ HB4.out).c1; rw [HW0.out] at c1; have hB4 : B0 ≤ w4.heap.size := HB0.out ▸ HB4.out.size; clear h1 hgr)
      | (go_at_call 25; refine (appint25 B0 (n3 + 1) H hH v4 _ _ HO4.out hB4 (by omega) (HC.out _ HB4.out).t).mono ?_; rintro e w5 ⟨v5, rfl, h1, h2⟩; have HO5 := Lib.hid h1; have HB5 := Lib.hid (HB4.out.trans h2); have c1 := (HC.out _ HB5.out).c1; rw [HW0.out] at c1; clear h1 h2)))
  have hB5 : B0 ≤ w5.heap.size := HB0.out ▸ HB5.out.size
  have hdh := digits_le hH
  clear c1
  go_upto_region 10 with (at_builtin; refine step_append _ rfl _ _ 27 rfl B0 5 i0 (.int .u8 0) Tryd.underlying27 hi hz0 hz1 hz2 rfl _ _ _ rfl (HO5.out.alloc _) ⟨w5.heap.size, 0, none⟩ 1 1 (bv [10]) rfl rfl ?c1 (bv_one _) ?c3 ?c4 ?_)
  case c1 => rw [bv_single 10 10 rfl]; exact cell_one_new _ _ _
  case c3 => omega
  case c4 => simp; omega
  intro v6 w6 h1 hgr
  have HB6 : Hid (Below B0 w1 w6) := (HB5.out.alloc hB5 _).grown hgr (by simp; omega) (fun z hz => (HO5.out.lt z hz).1)
  have HO6 : Hid (Owns w6 B0 5 v6 (headF 1 W H).length (bv (headF 1 W H))) := by
    have e1 : bv (headF 1 W H) = bv [80, 52, 10] ++ bv (Lib.decDigits W) ++ bv [32] ++ bv (Lib.decDigits H) ++ bv [10] := by
      rw [← bv_append, ← bv_append, ← bv_append, ← bv_append]
      congr 1
      unfold headF
      simp
    have e2 : (headF 1 W H).length = n3 + 1 + (Lib.decDigits H).length + 1 := by
      rw [← HN3.out]
      unfold headF
      simp
      omega
    show Owns ..
    rw [e1, e2]
    first | exact h1 | simpa using h1
  have HHL : Hid ((headF 1 W H).length ≤ 60) := by
    show _ ≤ _
    rw [show (headF 1 W H).length = n3 + 1 + (Lib.decDigits H).length + 1 by rw [← HN3.out]; unfold headF; simp; omega]
    omega
  have c1 := (HC.out _ HB6.out).c1
  rw [HW0.out] at c1
  clear h1 hgr hdh HO5 HO3 HB3 HB5 hB3 hB5
  go_wp2_with fail
  go_loopw [8, 9, 43] (fun s _ i wr => ∃ y : Nat, y ≤ H ∧ i = .int .i64 y ∧ Hid (Owns wr B0 5 s ((headF 1 W H).length + (rowsF 1 W H B y).length) (bv (headF 1 W H) ++ bv (rowsF 1 W H B y))) ∧ Hid (Below B0 w1 wr)) (fun _ _ i _ => H - (intOf i).toNat)
  case atStart => exact ⟨0, Nat.zero_le _, rfl, Lib.hid (by simpa [rowsF, bv, Lib.byteCells] using HO6.out), HB6⟩
  case round =>
    clear HO6 HB6 c1
    obtain ⟨y, hy, rfl, ho, hb⟩ := hrel
    by_cases hlt : y < H
    · have hltI : (y : Int) < (H : Int) := by omega
      have c0 := (HC.out _ hb.out).c0
      rw [HW0.out] at c0
      have hrl := rowsF_len 1 W H B y
      have hrl2 : y * (2 * W + 1) ≤ 1048576 * 2097153 := Nat.mul_le_mul (by omega) (by omega)
      have hhl := HHL.out
      obtain ⟨n7, hn7⟩ : ∃ n7, (headF 1 W H).length + (rowsF 1 W H B y).length = n7 := ⟨_, rfl⟩
      have hn7b : n7 ≤ 10000000000000 := by omega
      have ho7 := ho.out
      rw [hn7] at ho7
      have HO7 := Lib.hid ho7
      have HN7 := Lib.hid hn7
      clear hrl hrl2 hhl hn7 ho7
      go_wp2_with (go_at_call 27; refine (packed27 B0 v W H y B u8 n7 _ _ hW hH (fun w' h => HM.out w' (hb.out.trans h)) HO7.out (HB0.out ▸ hb.out.size) hn7b).mono ?_; rintro e w8 ⟨v8, rfl, h1, h2⟩; have HO8 := Lib.hid h1; have HB8 := Lib.hid (hb.out.trans h2); clear h1 h2)
      go_roundw
      case rel =>
        refine ⟨y + 1, by omega, by go_num, ?_, HB8⟩
        have h1 := HO8.out
        rw [← HN7.out] at h1
        show Owns ..
        have e1 : rowsF 1 W H B (y + 1) = rowsF 1 W H B y ++ packRow (fun x => px W H B x y) W := rfl
        rw [e1, bv_append, List.length_append, ← Nat.add_assoc, ← List.append_assoc]
        exact h1
      case measure => simp [intOf]; omega
    · obtain rfl : y = H := by omega
      go_wp2_with fail
      go_ret2
      refine ⟨u8, B0, rfl, ?_, HB0.out ▸ HBB.out, (HC.out _ hb.out).bel⟩
      have h1 := ho.out
      unfold fileF
      rw [List.length_append, bv_append]
      exact h1
end Go.Proofs.YtgpjpmadbepblaaDoor
