/- Write of the reference. Conditions: the bounds that each theorem names. -/
import Derived.Test.YtgpjpmadbepblaaDoorMf
namespace Go.Proofs.YtgpjpmadbepblaaDoor
open Go.RowKit Go.Bm Go.Pbm Go.Sort

theorem head_lay (w2 : World) (l : List UInt8) (s : ByteArray) (m : Nat) (hs : s = ⟨l.toArray⟩) (hm : m = l.length) (hl : l.length ≤ 100000) :
    Owns ((w2.alloc (.cells (bytesRow s (grownCap w2 m 0 5)) 5 ((bytesRow s (grownCap w2 m 0 5)).size, (bytesRow s (grownCap w2 m 0 5)).size + 1))).drew) w2.heap.size 5 (.slice (some ⟨w2.heap.size, 0, none⟩) m (grownCap w2 m 0 5)) l.length (bv l) ∧
    Below w2.heap.size w2 ((w2.alloc (.cells (bytesRow s (grownCap w2 m 0 5)) 5 ((bytesRow s (grownCap w2 m 0 5)).size, (bytesRow s (grownCap w2 m 0 5)).size + 1))).drew) := by
  subst hs
  subst hm
  exact ⟨Owns.string w2 w2.heap.size 5 l (Nat.le_refl _) (by omega), ((Below.refl _ _).alloc (Nat.le_refl _) _).drew⟩
/-- a byte's first t pixels, the reference's way -/
def accB (p : Nat → Nat) (j : Nat) : Nat → Nat
  | 0 => 0
  | t + 1 => 2 * accB p j t + p (8 * j + t)
theorem accB_full (p : Nat → Nat) (j : Nat) : accB p j 8 = fullB p j := by
  simp [accB, fullB, sumTo]
  omega
theorem accB_le {p : Nat → Nat} (hp : ∀ x, p x ≤ 1) (j : Nat) : ∀ t, accB p j t + 1 ≤ 2 ^ t
  | 0 => Nat.le_refl _
  | t + 1 => by
    have h1 := accB_le hp j t
    have h2 := hp (8 * j + t)
    rw [accB, Nat.pow_succ]
    omega
/-- the bytes of a row's first 8 j pixels -/
def fullL (p : Nat → Nat) (j : Nat) : List UInt8 := (List.range j).map fun k => UInt8.ofNat (fullB p k)
theorem fullL_row {p : Nat → Nat} {W : Nat} (hp : ∀ x, W ≤ x → p x = 0) : fullL p ((W + 7) / 8) = packRow p W := by
  unfold fullL packRow headL
  by_cases h : W % 8 = 0
  · rw [if_pos h, List.append_nil, show (W + 7) / 8 = W / 8 by omega]
  · rw [if_neg h, show (W + 7) / 8 = W / 8 + 1 by omega, List.range_succ, List.map_append]
    congr 1
    show [UInt8.ofNat (fullB p (W / 8))] = _
    congr 2
    unfold fullB curB
    obtain ⟨d, hd⟩ : ∃ d, W % 8 + d = 8 := ⟨8 - W % 8, by omega⟩
    have e := sumTo_split (fun i => p (8 * (W / 8) + i) * 2 ^ (7 - i)) (W % 8) d
    rw [hd] at e
    rw [e, sumTo_zero d fun i _ => by rw [hp _ (by omega), Nat.zero_mul]]
    rfl

set_option maxRecDepth 100000 in
set_option maxHeartbeats 4000000 in
theorem rwrite9_kind (W H : Int) (a : Option Addr) (n cap : Nat) (k : Int) (w : World) (hk : ¬ k = 0) (hk1 : ¬ k = 1) :
    Calls Tryd.prog 9 #[.agg #[.int .i64 W, .int .i64 H, .slice a n cap], .int .i64 k] w fun e w' => e = .returned (.tuple #[.slice none 0 0, .int .i64 34]) ∧ Below w.heap.size w w' := by
  have hb := (Below.refl w.heap.size w).alloc (Nat.le_refl _) (.cells #[.int .i64 W, .int .i64 H, .slice a n cap] 25)
  have HBE := Lib.hid hb
  have k0 : (k != 0) = true := by simpa using hk
  have k1 : (k != 1) = true := by simpa using hk1
  clear hb hk hk1
  go_enter Tryd.func9, Tryd.ntmps9
  go_wp2_with fail
  go_ret2
  exact ⟨rfl, HBE.out⟩

set_option maxRecDepth 100000 in
set_option maxHeartbeats 4000000 in
theorem rwrite9_no (W H : Int) (a : Option Addr) (n cap : Nat) (B : Nat → Nat) (k : Nat) (hk : k ≤ 1) (w : World) (hB : IsWords w a n cap B) (ho : ¬ okB W H n B) :
    Calls Tryd.prog 9 #[.agg #[.int .i64 W, .int .i64 H, .slice a n cap], .int .i64 k] w fun e w' => e = .returned (.tuple #[.slice none 0 0, .int .i64 30]) ∧ Below w.heap.size w w' := by
  have hi := BInv.new (W := W) (H := H) hB
  have HI := Lib.hid hi
  have HO := Lib.hid ho
  clear hB hi ho
  obtain rfl | rfl : k = 0 ∨ k = 1 := by omega
  all_goals
    go_enter Tryd.func9, Tryd.ntmps9
    go_upto_region 1 with fail
    obtain ⟨W0, hW0⟩ : ∃ W0, w.heap.size = W0 := ⟨_, rfl⟩
    have HI := Lib.hid (hW0 ▸ HI.out)
    rw [hW0]
    have HW0 := Lib.hid hW0
    clear hW0
    generalize w.alloc (.cells #[.int .i64 W, .int .i64 H, .slice a n cap] 25) = w0 at *
    have c0 := HI.out.c0
    have c1 := HI.out.c1
    have c2 := HI.out.c2
    go_wp2_with (go_at_call 18; refine (may0 W H a n cap B false _ HI.out.k (by simp [HO.out])).mono ?_; rintro e w1 ⟨rfl, hbel⟩; have HI1 := Lib.hid (HI.out.step hbel); clear hbel)
    go_ret2
    exact ⟨rfl, by rw [HW0.out]; exact HI1.out.bel⟩

set_option maxRecDepth 100000 in
set_option maxHeartbeats 4000000 in
theorem rwrite9_ok0 (W H : Nat) (a : Option Addr) (n cap : Nat) (B : Nat → Nat) (w : World) (hB : IsWords w a n cap B) (ho : okB W H n B) :
    Calls Tryd.prog 9 #[.agg #[.int .i64 (W : Int), .int .i64 (H : Int), .slice a n cap], .int .i64 0] w fun e w' => ∃ v B0, e = .returned (.tuple #[v, .int .i64 0]) ∧ Owns w' B0 5 v (fileF 0 W H B).length (bv (fileF 0 W H B)) ∧ w.heap.size ≤ B0 ∧ Below w.heap.size w w' := by
  obtain ⟨i0, hi, hz0, hz1, hz2⟩ := info_parts infoB
  have hs := okS_le ho.1
  have hW : W ≤ 1048576 := by omega
  have hH : H ≤ 1048576 := by omega
  have hn0 : n = H * wd W := by have := ho.2.1; simpa using this
  have HN0 := Lib.hid hn0
  have hi1 := BInv.new (W := (W : Int)) (H := (H : Int)) hB
  have HI := Lib.hid hi1
  have HO := Lib.hid ho
  clear hB hi1 ho hs hn0
  have kc := fun (w : World) (s : ByteArray) => run_bytes_of_string (P := Tryd.prog) w 9 27 5 s Tryd.underlying9 Tryd.underlying27 Tryd.underlying5
  have hdw := digits_le hW
  have hdh := digits_le hH
  have l1 : ¬ 9223372036854775807 < 3 + (Lib.decDigits W).length := by omega
  have l2 : ¬ 9223372036854775807 < 3 + (Lib.decDigits W).length + 1 := by omega
  have l3 : ¬ 9223372036854775807 < 3 + (Lib.decDigits W).length + 1 + (Lib.decDigits H).length := by omega
  have l4 : ¬ 9223372036854775807 < 3 + (Lib.decDigits W).length + 1 + (Lib.decDigits H).length + 1 := by omega
  go_enter Tryd.func9, Tryd.ntmps9
  go_upto_region 1 with fail
  obtain ⟨W0, hW0⟩ : ∃ W0, w.heap.size = W0 := ⟨_, rfl⟩
  have HI := Lib.hid (hW0 ▸ HI.out)
  rw [hW0]
  have HW0 := Lib.hid hW0
  clear hW0
  generalize w.alloc (.cells #[.int .i64 (W : Int), .int .i64 (H : Int), .slice a n cap] 25) = w0 at *
  have c0 := HI.out.c0
  have c1 := HI.out.c1
  have c2 := HI.out.c2
  go_upto_region 8 with (go_at_call 18; refine (may0 (W : Int) (H : Int) a n cap B true _ HI.out.k (by simp [HO.out])).mono ?_; rintro e w1 ⟨rfl, hbel⟩; have HI1 := Lib.hid (HI.out.step hbel); clear hbel c0 c1 c2)
  have hsz : W0 < w1.heap.size := World.block_lt_of_cell? w1 _ HI1.out.c0
  have HC : Hid (∀ w', Below w1.heap.size w1 w' → BInv w W0 (W : Int) (H : Int) a n cap B w') := fun w' hb => HI1.out.step hb
  have HB := Lib.hid (Below.refl w1.heap.size w1)
  have c0 := HI1.out.c0
  have c1 := HI1.out.c1
  obtain ⟨B1, hB1⟩ : ∃ B1, w1.heap.size = B1 := ⟨_, rfl⟩
  rw [hB1] at HC HB hsz
  have HB1 := Lib.hid hB1
  clear hB1 HI HI1
  go_region_held (fun w' => w'.cell? ⟨W0, 0, none⟩ = some (.int .i64 (W : Int)) ∧ w'.cell? ⟨W0, 1, none⟩ = some (.int .i64 (H : Int))) (go_keep)
    ((go_at_call 21; refine (number21 _ _ ?_).mono ?_; assumption; rintro e w2 ⟨rfl, hbel⟩; have HB := Lib.hid (Below.trans (by first | exact HB.out | exact HB.out.drew) (hbel.mono (Nat.le_trans (Nat.le_of_eq HB1.out.symm) HB.out.size))); have c0 := (HC.out _ HB.out).c0; have c1 := (HC.out _ HB.out).c1; clear hbel))
  obtain ⟨hd1, hd2⟩ := head_lay w2 (headF 0 W H) (⟨#[80, 49, 10]⟩ ++ ⟨(Lib.decDigits W).toArray⟩ ++ ⟨#[32]⟩ ++ ⟨(Lib.decDigits H).toArray⟩ ++ ⟨#[10]⟩) (3 + (Lib.decDigits W).length + 1 + (Lib.decDigits H).length + 1) (by unfold headF; rw [ba_append, ba_append, ba_append, ba_append]; simp) (by unfold headF; simp; omega) (by unfold headF; simp; omega)
  have HO3 : Hid (Owns ((w2.alloc (.cells (bytesRow (⟨#[80, 49, 10]⟩ ++ ⟨(Lib.decDigits W).toArray⟩ ++ ⟨#[32]⟩ ++ ⟨(Lib.decDigits H).toArray⟩ ++ ⟨#[10]⟩) (grownCap w2 (3 + (Lib.decDigits W).length + 1 + (Lib.decDigits H).length + 1) 0 5)) 5 ((bytesRow (⟨#[80, 49, 10]⟩ ++ ⟨(Lib.decDigits W).toArray⟩ ++ ⟨#[32]⟩ ++ ⟨(Lib.decDigits H).toArray⟩ ++ ⟨#[10]⟩) (grownCap w2 (3 + (Lib.decDigits W).length + 1 + (Lib.decDigits H).length + 1) 0 5)).size, (bytesRow (⟨#[80, 49, 10]⟩ ++ ⟨(Lib.decDigits W).toArray⟩ ++ ⟨#[32]⟩ ++ ⟨(Lib.decDigits H).toArray⟩ ++ ⟨#[10]⟩) (grownCap w2 (3 + (Lib.decDigits W).length + 1 + (Lib.decDigits H).length + 1) 0 5)).size + 1))).drew) w2.heap.size 5 (Value.slice (some ⟨w2.heap.size, 0, none⟩) (3 + (Lib.decDigits W).length + 1 + (Lib.decDigits H).length + 1) (grownCap w2 (3 + (Lib.decDigits W).length + 1 + (Lib.decDigits H).length + 1) 0 5)) (headF 0 W H).length (bv (headF 0 W H))) := hd1
  have HB3 : Hid (Below B1 w1 ((w2.alloc (.cells (bytesRow (⟨#[80, 49, 10]⟩ ++ ⟨(Lib.decDigits W).toArray⟩ ++ ⟨#[32]⟩ ++ ⟨(Lib.decDigits H).toArray⟩ ++ ⟨#[10]⟩) (grownCap w2 (3 + (Lib.decDigits W).length + 1 + (Lib.decDigits H).length + 1) 0 5)) 5 ((bytesRow (⟨#[80, 49, 10]⟩ ++ ⟨(Lib.decDigits W).toArray⟩ ++ ⟨#[32]⟩ ++ ⟨(Lib.decDigits H).toArray⟩ ++ ⟨#[10]⟩) (grownCap w2 (3 + (Lib.decDigits W).length + 1 + (Lib.decDigits H).length + 1) 0 5)).size, (bytesRow (⟨#[80, 49, 10]⟩ ++ ⟨(Lib.decDigits W).toArray⟩ ++ ⟨#[32]⟩ ++ ⟨(Lib.decDigits H).toArray⟩ ++ ⟨#[10]⟩) (grownCap w2 (3 + (Lib.decDigits W).length + 1 + (Lib.decDigits H).length + 1) 0 5)).size + 1))).drew)) := HB.out.trans (hd2.mono (Nat.le_trans (Nat.le_of_eq HB1.out.symm) HB.out.size))
  have hl3 : w2.heap.size ≤ ((w2.alloc (.cells (bytesRow (⟨#[80, 49, 10]⟩ ++ ⟨(Lib.decDigits W).toArray⟩ ++ ⟨#[32]⟩ ++ ⟨(Lib.decDigits H).toArray⟩ ++ ⟨#[10]⟩) (grownCap w2 (3 + (Lib.decDigits W).length + 1 + (Lib.decDigits H).length + 1) 0 5)) 5 ((bytesRow (⟨#[80, 49, 10]⟩ ++ ⟨(Lib.decDigits W).toArray⟩ ++ ⟨#[32]⟩ ++ ⟨(Lib.decDigits H).toArray⟩ ++ ⟨#[10]⟩) (grownCap w2 (3 + (Lib.decDigits W).length + 1 + (Lib.decDigits H).length + 1) 0 5)).size, (bytesRow (⟨#[80, 49, 10]⟩ ++ ⟨(Lib.decDigits W).toArray⟩ ++ ⟨#[32]⟩ ++ ⟨(Lib.decDigits H).toArray⟩ ++ ⟨#[10]⟩) (grownCap w2 (3 + (Lib.decDigits W).length + 1 + (Lib.decDigits H).length + 1) 0 5)).size + 1))).drew).heap.size := hd2.size
  have HHL : Hid ((headF 0 W H).length ≤ 60) := by show _ ≤ _; unfold headF; simp; omega
  clear hd1 hd2 kc l1 l2 l3 l4 hdw hdh c0 c1
  generalize (w2.alloc (.cells (bytesRow (⟨#[80, 49, 10]⟩ ++ ⟨(Lib.decDigits W).toArray⟩ ++ ⟨#[32]⟩ ++ ⟨(Lib.decDigits H).toArray⟩ ++ ⟨#[10]⟩) (grownCap w2 (3 + (Lib.decDigits W).length + 1 + (Lib.decDigits H).length + 1) 0 5)) 5 ((bytesRow (⟨#[80, 49, 10]⟩ ++ ⟨(Lib.decDigits W).toArray⟩ ++ ⟨#[32]⟩ ++ ⟨(Lib.decDigits H).toArray⟩ ++ ⟨#[10]⟩) (grownCap w2 (3 + (Lib.decDigits W).length + 1 + (Lib.decDigits H).length + 1) 0 5)).size, (bytesRow (⟨#[80, 49, 10]⟩ ++ ⟨(Lib.decDigits W).toArray⟩ ++ ⟨#[32]⟩ ++ ⟨(Lib.decDigits H).toArray⟩ ++ ⟨#[10]⟩) (grownCap w2 (3 + (Lib.decDigits W).length + 1 + (Lib.decDigits H).length + 1) 0 5)).size + 1))).drew = w3 at *
  generalize Value.slice (some ⟨w2.heap.size, 0, none⟩) (3 + (Lib.decDigits W).length + 1 + (Lib.decDigits H).length + 1) (grownCap w2 (3 + (Lib.decDigits W).length + 1 + (Lib.decDigits H).length + 1) 0 5) = v3 at *
  obtain ⟨B0, hB0⟩ : ∃ B0, w2.heap.size = B0 := ⟨_, rfl⟩
  rw [hB0] at HO3 hl3
  have HLE : Hid (B1 ≤ B0) := by show _ ≤ _; rw [← hB0]; exact Nat.le_trans (Nat.le_of_eq HB1.out.symm) HB.out.size
  have HCC : Hid (∀ w', Below B0 w3 w' → BInv w W0 (W : Int) (H : Int) a n cap B w') := fun w' hb => HC.out _ (HB3.out.trans (hb.mono HLE.out))
  clear hB0 HB HC
  go_wp2_with fail
  go_loopw [7, 8, 9] (fun s iy _ wr => ∃ y : Nat, y ≤ H ∧ iy = .int .i64 y ∧ Hid (Owns wr B0 5 s ((headF 0 W H).length + (rowsF 0 W H B y).length) (bv (headF 0 W H) ++ bv (rowsF 0 W H B y))) ∧ Hid (Below B0 w3 wr)) (fun _ iy _ _ => H - (intOf iy).toNat)
  case atStart => exact ⟨0, Nat.zero_le _, rfl, Lib.hid (by simpa [rowsF, bv, Lib.byteCells] using HO3.out), Lib.hid (Below.refl _ _)⟩
  case round =>
    clear HO3
    obtain ⟨y, hy, rfl, ho, hb⟩ := hrel
    by_cases hlt : y < H
    · have hltI : (y : Int) < (H : Int) := by omega
      have c1 := (HCC.out _ hb.out).c1
      have hrl := rowsF_len 0 W H B y
      have hrl2 : y * (2 * W + 1) ≤ 1048576 * 2097153 := Nat.mul_le_mul (by omega) (by omega)
      have hhl := HHL.out
      obtain ⟨n7, hn7⟩ : ∃ n7, (headF 0 W H).length + (rowsF 0 W H B y).length = n7 := ⟨_, rfl⟩
      have hn7b : n7 ≤ 10000000000000 := by omega
      have ho7 := ho.out
      rw [hn7] at ho7
      have HO7 := Lib.hid ho7
      have HN7 := Lib.hid hn7
      clear hrl hrl2 hhl hn7 ho7
      obtain ⟨p, hp⟩ : ∃ p : Nat → Nat, (fun x : Nat => px W H B x y) = p := ⟨_, rfl⟩
      have hp1 : ∀ x : Nat, px W H B x y = p x := fun x => congrFun hp x
      have hpl : ∀ x, p x ≤ 1 := fun x => by rw [← hp1]; exact px_le ..
      have hp0 : ∀ x, W ≤ x → p x = 0 := fun x hx => by rw [← hp1]; exact px_far (by omega)
      have HROW : Hid (rowsF 0 W H B (y + 1) = rowsF 0 W H B y ++ digRow p W W) := by show _ = _; rw [rowsF]; unfold rowF; rw [hp]; rfl
      obtain ⟨zs, hzs⟩ : ∃ zs, bv (headF 0 W H) ++ bv (rowsF 0 W H B y) = zs := ⟨_, rfl⟩
      rw [hzs] at HO7
      have HZS := Lib.hid hzs
      have HP := Lib.hid hp1
      have HPL := Lib.hid hpl
      have HP0 := Lib.hid hp0
      clear hp hp1 hpl hp0 hzs ho
      go_wp2_with fail
      go_loopw [7, 9] (fun s i wr => ∃ x : Nat, x ≤ W ∧ i = .int .i64 x ∧ Hid (Owns wr B0 5 s (n7 + (digRow p W x).length) (zs ++ bv (digRow p W x))) ∧ Hid (Below B0 w3 wr)) (fun _ i _ => W - (intOf i).toNat)
      case atStart => exact ⟨0, Nat.zero_le _, rfl, Lib.hid (by simpa [digRow, bv, Lib.byteCells] using HO7.out), hb⟩
      case round =>
        clear HO7 hb c1
        obtain ⟨x, hx, rfl, ho, hb⟩ := hrel
        have c0 := (HCC.out _ hb.out).c0
        have c1 := (HCC.out _ hb.out).c1
        have c2 := (HCC.out _ hb.out).c2
        by_cases hltx : x < W
        · have hltxI : (x : Int) < (W : Int) := by omega
          have hdl := digRow_len p W x
          have hpk := HPL.out x
          have w2' : IntKind.u8.wrap (48 + ((p x : Nat) : Int)) = 48 + (p x : Int) := by rw [IntKind.wrap_u8]; omega
          have hwB : B0 ≤ wr.heap.size := Nat.le_trans hl3 hb.out.size
          go_upto_region 17 with (first
            | (go_at_call 23; refine (get_any W H a n cap B (x : Int) (y : Int) _ hW hH HN0.out (HCC.out _ hb.out).k).mono ?_; rintro e wg ⟨rfl, hbel⟩; rw [HP.out x]; have HBG := Lib.hid (hb.out.trans (hbel.mono hwB)); have HOG := Lib.hid (ho.out.below hbel); have hBG : B0 ≤ wg.heap.size := Nat.le_trans hwB hbel.size; clear hbel)
            | (at_builtin; refine step_append _ rfl _ _ 27 rfl B0 5 i0 (.int .u8 0) Tryd.underlying27 hi hz0 hz1 hz2 rfl _ _ _ rfl (HOG.out.alloc _) ⟨wg.heap.size, 0, none⟩ 1 1 (bv [dg (p x)]) rfl rfl ?c1 (bv_one _) ?c3 ?c4 ?_))
          case c1 => rw [bv_single _ (48 + (p x : Int)) (by rw [dg_nat hpk]; omega)]; exact cell_one_new _ _ _
          case c3 => omega
          case c4 => simp; omega
          intro v4 w4 h1 hgr
          have HB4 : Hid (Below B0 w3 w4) := (HBG.out.alloc hBG _).grown hgr (by simp; omega) (fun z hz => (HOG.out.lt z hz).1)
          have HO4 : Hid (Owns w4 B0 5 v4 (n7 + ((digRow p W x).length + 1)) (zs ++ bv (digRow p W x ++ [dg (p x)]))) := by
            show Owns ..
            rw [bv_append]
            simpa [Nat.add_assoc] using h1
          have hB4 : B0 ≤ w4.heap.size := Nat.le_trans hl3 HB4.out.size
          clear h1 hgr w2' hwB c0 c1 c2 hBG
          have c0 := (HCC.out _ HB4.out).c0
          go_upto_region 17 with fail
          by_cases q1 : (x : Int) % 64 = 63
          · have HD : Hid (digRow p W (x + 1) = digRow p W x ++ [dg (p x), 10]) := by
              show _ = _
              rw [digRow, if_pos (Or.inl (by omega))]
            go_wp2_with (at_builtin; refine step_append _ rfl _ _ 27 rfl B0 5 i0 (.int .u8 0) Tryd.underlying27 hi hz0 hz1 hz2 rfl _ _ _ rfl (HO4.out.alloc _) ⟨w4.heap.size, 0, none⟩ 1 1 (bv [10]) rfl rfl ?c1 (bv_one _) ?c3 ?c4 ?_)
            case c1 => rw [bv_single 10 10 rfl]; exact cell_one_new _ _ _
            case c3 => omega
            case c4 => simp; omega
            intro v5 w5 h1 hgr
            have HB5 : Hid (Below B0 w3 w5) := (HB4.out.alloc hB4 _).grown hgr (by simp; omega) (fun z hz => (HO4.out.lt z hz).1)
            have HO5 : Hid (Owns w5 B0 5 v5 (n7 + (digRow p W (x + 1)).length) (zs ++ bv (digRow p W (x + 1)))) := by
              show Owns ..
              rw [HD.out]
              have e : digRow p W x ++ [dg (p x), 10] = (digRow p W x ++ [dg (p x)]) ++ [10] := by simp
              rw [e, bv_append _ [10]]
              simpa [Nat.add_assoc] using h1
            clear h1 hgr
            go_wp2_with fail
            go_roundw
            case rel => exact ⟨x + 1, by omega, by go_num, HO5, HB5⟩
            case measure => simp [intOf]; omega
          · have q1b : ((x : Int) % 64 == 63) = false := by simpa using q1
            by_cases q2 : x + 1 = W
            · have q2b : ((x : Int) == (W : Int) - 1) = true := by simp; omega
              have HD : Hid (digRow p W (x + 1) = digRow p W x ++ [dg (p x), 10]) := by
                show _ = _
                rw [digRow, if_pos (Or.inr q2)]
              clear q2
              go_wp2_with (at_builtin; refine step_append _ rfl _ _ 27 rfl B0 5 i0 (.int .u8 0) Tryd.underlying27 hi hz0 hz1 hz2 rfl _ _ _ rfl (HO4.out.alloc _) ⟨w4.heap.size, 0, none⟩ 1 1 (bv [10]) rfl rfl ?c1 (bv_one _) ?c3 ?c4 ?_)
              case c1 => rw [bv_single 10 10 rfl]; exact cell_one_new _ _ _
              case c3 => omega
              case c4 => simp; omega
              intro v5 w5 h1 hgr
              have HB5 : Hid (Below B0 w3 w5) := (HB4.out.alloc hB4 _).grown hgr (by simp; omega) (fun z hz => (HO4.out.lt z hz).1)
              have HO5 : Hid (Owns w5 B0 5 v5 (n7 + (digRow p W (x + 1)).length) (zs ++ bv (digRow p W (x + 1)))) := by
                show Owns ..
                rw [HD.out]
                have e : digRow p W x ++ [dg (p x), 10] = (digRow p W x ++ [dg (p x)]) ++ [10] := by simp
                rw [e, bv_append _ [10]]
                simpa [Nat.add_assoc] using h1
              clear h1 hgr
              go_wp2_with fail
              go_roundw
              case rel => exact ⟨x + 1, by omega, by go_num, HO5, HB5⟩
              case measure => simp [intOf]; omega
            · have q2b : ((x : Int) == (W : Int) - 1) = false := by simp; omega
              have HD : Hid (digRow p W (x + 1) = digRow p W x ++ [dg (p x)]) := by
                show _ = _
                rw [digRow, if_neg (by omega)]
              clear q2
              have HO5 : Hid (Owns w4 B0 5 v4 (n7 + (digRow p W (x + 1)).length) (zs ++ bv (digRow p W (x + 1)))) := by
                show Owns ..
                rw [HD.out]
                simpa using HO4.out
              go_wp2_with fail
              go_roundw
              case rel => exact ⟨x + 1, by omega, by go_num, HO5, HB4⟩
              case measure => simp [intOf]; omega
        · obtain rfl : x = W := by omega
          go_wp2_with fail
          go_roundw
          case rel =>
            refine ⟨y + 1, by omega, by go_num, ?_, hb⟩
            have h1 := ho.out
            rw [← HN7.out, ← HZS.out] at h1
            show Owns ..
            rw [HROW.out, bv_append, List.length_append, ← Nat.add_assoc, ← List.append_assoc]
            exact h1
          case measure => simp [intOf]; omega
    · obtain rfl : y = H := by omega
      have c1 := (HCC.out _ hb.out).c1
      go_wp2_with fail
      go_ret2
      refine ⟨u7, B0, rfl, ?_, ?_, ?_⟩
      · have h1 := ho.out
        unfold fileF
        rw [List.length_append, bv_append]
        exact h1
      · rw [HW0.out]; exact Nat.le_trans (Nat.le_of_lt hsz) HLE.out
      · have h1 := (HCC.out _ hb.out).bel
        rw [HW0.out]
        exact h1

set_option maxRecDepth 100000 in
set_option maxHeartbeats 4000000 in
theorem rwrite9_ok1 (W H : Nat) (a : Option Addr) (n cap : Nat) (B : Nat → Nat) (w : World) (hB : IsWords w a n cap B) (ho : okB W H n B) :
    Calls Tryd.prog 9 #[.agg #[.int .i64 (W : Int), .int .i64 (H : Int), .slice a n cap], .int .i64 1] w fun e w' => ∃ v B0, e = .returned (.tuple #[v, .int .i64 0]) ∧ Owns w' B0 5 v (fileF 1 W H B).length (bv (fileF 1 W H B)) ∧ w.heap.size ≤ B0 ∧ Below w.heap.size w w' := by
  obtain ⟨i0, hi, hz0, hz1, hz2⟩ := info_parts infoB
  have hs := okS_le ho.1
  have hW : W ≤ 1048576 := by omega
  have hH : H ≤ 1048576 := by omega
  have hn0 : n = H * wd W := by have := ho.2.1; simpa using this
  have HN0 := Lib.hid hn0
  have hi1 := BInv.new (W := (W : Int)) (H := (H : Int)) hB
  have HI := Lib.hid hi1
  have HO := Lib.hid ho
  clear hB hi1 ho hs hn0
  have kc := fun (w : World) (s : ByteArray) => run_bytes_of_string (P := Tryd.prog) w 9 27 5 s Tryd.underlying9 Tryd.underlying27 Tryd.underlying5
  have hdw := digits_le hW
  have hdh := digits_le hH
  have l1 : ¬ 9223372036854775807 < 3 + (Lib.decDigits W).length := by omega
  have l2 : ¬ 9223372036854775807 < 3 + (Lib.decDigits W).length + 1 := by omega
  have l3 : ¬ 9223372036854775807 < 3 + (Lib.decDigits W).length + 1 + (Lib.decDigits H).length := by omega
  have l4 : ¬ 9223372036854775807 < 3 + (Lib.decDigits W).length + 1 + (Lib.decDigits H).length + 1 := by omega
  go_enter Tryd.func9, Tryd.ntmps9
  go_upto_region 1 with fail
  obtain ⟨W0, hW0⟩ : ∃ W0, w.heap.size = W0 := ⟨_, rfl⟩
  have HI := Lib.hid (hW0 ▸ HI.out)
  rw [hW0]
  have HW0 := Lib.hid hW0
  clear hW0
  generalize w.alloc (.cells #[.int .i64 (W : Int), .int .i64 (H : Int), .slice a n cap] 25) = w0 at *
  have c0 := HI.out.c0
  have c1 := HI.out.c1
  have c2 := HI.out.c2
  go_upto_region 8 with (go_at_call 18; refine (may0 (W : Int) (H : Int) a n cap B true _ HI.out.k (by simp [HO.out])).mono ?_; rintro e w1 ⟨rfl, hbel⟩; have HI1 := Lib.hid (HI.out.step hbel); clear hbel c0 c1 c2)
  have hsz : W0 < w1.heap.size := World.block_lt_of_cell? w1 _ HI1.out.c0
  have HC : Hid (∀ w', Below w1.heap.size w1 w' → BInv w W0 (W : Int) (H : Int) a n cap B w') := fun w' hb => HI1.out.step hb
  have HB := Lib.hid (Below.refl w1.heap.size w1)
  have c0 := HI1.out.c0
  have c1 := HI1.out.c1
  obtain ⟨B1, hB1⟩ : ∃ B1, w1.heap.size = B1 := ⟨_, rfl⟩
  rw [hB1] at HC HB hsz
  have HB1 := Lib.hid hB1
  clear hB1 HI HI1
  go_region_held (fun w' => w'.cell? ⟨W0, 0, none⟩ = some (.int .i64 (W : Int)) ∧ w'.cell? ⟨W0, 1, none⟩ = some (.int .i64 (H : Int))) (go_keep)
    ((go_at_call 21; refine (number21 _ _ ?_).mono ?_; assumption; rintro e w2 ⟨rfl, hbel⟩; have HB := Lib.hid (Below.trans (by first | exact HB.out | exact HB.out.drew) (hbel.mono (Nat.le_trans (Nat.le_of_eq HB1.out.symm) HB.out.size))); have c0 := (HC.out _ HB.out).c0; have c1 := (HC.out _ HB.out).c1; clear hbel))
  obtain ⟨hd1, hd2⟩ := head_lay w2 (headF 1 W H) (⟨#[80, 52, 10]⟩ ++ ⟨(Lib.decDigits W).toArray⟩ ++ ⟨#[32]⟩ ++ ⟨(Lib.decDigits H).toArray⟩ ++ ⟨#[10]⟩) (3 + (Lib.decDigits W).length + 1 + (Lib.decDigits H).length + 1) (by unfold headF; rw [ba_append, ba_append, ba_append, ba_append]; simp) (by unfold headF; simp; omega) (by unfold headF; simp; omega)
  have HO3 : Hid (Owns ((w2.alloc (.cells (bytesRow (⟨#[80, 52, 10]⟩ ++ ⟨(Lib.decDigits W).toArray⟩ ++ ⟨#[32]⟩ ++ ⟨(Lib.decDigits H).toArray⟩ ++ ⟨#[10]⟩) (grownCap w2 (3 + (Lib.decDigits W).length + 1 + (Lib.decDigits H).length + 1) 0 5)) 5 ((bytesRow (⟨#[80, 52, 10]⟩ ++ ⟨(Lib.decDigits W).toArray⟩ ++ ⟨#[32]⟩ ++ ⟨(Lib.decDigits H).toArray⟩ ++ ⟨#[10]⟩) (grownCap w2 (3 + (Lib.decDigits W).length + 1 + (Lib.decDigits H).length + 1) 0 5)).size, (bytesRow (⟨#[80, 52, 10]⟩ ++ ⟨(Lib.decDigits W).toArray⟩ ++ ⟨#[32]⟩ ++ ⟨(Lib.decDigits H).toArray⟩ ++ ⟨#[10]⟩) (grownCap w2 (3 + (Lib.decDigits W).length + 1 + (Lib.decDigits H).length + 1) 0 5)).size + 1))).drew) w2.heap.size 5 (Value.slice (some ⟨w2.heap.size, 0, none⟩) (3 + (Lib.decDigits W).length + 1 + (Lib.decDigits H).length + 1) (grownCap w2 (3 + (Lib.decDigits W).length + 1 + (Lib.decDigits H).length + 1) 0 5)) (headF 1 W H).length (bv (headF 1 W H))) := hd1
  have HB3 : Hid (Below B1 w1 ((w2.alloc (.cells (bytesRow (⟨#[80, 52, 10]⟩ ++ ⟨(Lib.decDigits W).toArray⟩ ++ ⟨#[32]⟩ ++ ⟨(Lib.decDigits H).toArray⟩ ++ ⟨#[10]⟩) (grownCap w2 (3 + (Lib.decDigits W).length + 1 + (Lib.decDigits H).length + 1) 0 5)) 5 ((bytesRow (⟨#[80, 52, 10]⟩ ++ ⟨(Lib.decDigits W).toArray⟩ ++ ⟨#[32]⟩ ++ ⟨(Lib.decDigits H).toArray⟩ ++ ⟨#[10]⟩) (grownCap w2 (3 + (Lib.decDigits W).length + 1 + (Lib.decDigits H).length + 1) 0 5)).size, (bytesRow (⟨#[80, 52, 10]⟩ ++ ⟨(Lib.decDigits W).toArray⟩ ++ ⟨#[32]⟩ ++ ⟨(Lib.decDigits H).toArray⟩ ++ ⟨#[10]⟩) (grownCap w2 (3 + (Lib.decDigits W).length + 1 + (Lib.decDigits H).length + 1) 0 5)).size + 1))).drew)) := HB.out.trans (hd2.mono (Nat.le_trans (Nat.le_of_eq HB1.out.symm) HB.out.size))
  have hl3 : w2.heap.size ≤ ((w2.alloc (.cells (bytesRow (⟨#[80, 52, 10]⟩ ++ ⟨(Lib.decDigits W).toArray⟩ ++ ⟨#[32]⟩ ++ ⟨(Lib.decDigits H).toArray⟩ ++ ⟨#[10]⟩) (grownCap w2 (3 + (Lib.decDigits W).length + 1 + (Lib.decDigits H).length + 1) 0 5)) 5 ((bytesRow (⟨#[80, 52, 10]⟩ ++ ⟨(Lib.decDigits W).toArray⟩ ++ ⟨#[32]⟩ ++ ⟨(Lib.decDigits H).toArray⟩ ++ ⟨#[10]⟩) (grownCap w2 (3 + (Lib.decDigits W).length + 1 + (Lib.decDigits H).length + 1) 0 5)).size, (bytesRow (⟨#[80, 52, 10]⟩ ++ ⟨(Lib.decDigits W).toArray⟩ ++ ⟨#[32]⟩ ++ ⟨(Lib.decDigits H).toArray⟩ ++ ⟨#[10]⟩) (grownCap w2 (3 + (Lib.decDigits W).length + 1 + (Lib.decDigits H).length + 1) 0 5)).size + 1))).drew).heap.size := hd2.size
  have HHL : Hid ((headF 1 W H).length ≤ 60) := by show _ ≤ _; unfold headF; simp; omega
  clear hd1 hd2 kc l1 l2 l3 l4 hdw hdh c0 c1
  generalize (w2.alloc (.cells (bytesRow (⟨#[80, 52, 10]⟩ ++ ⟨(Lib.decDigits W).toArray⟩ ++ ⟨#[32]⟩ ++ ⟨(Lib.decDigits H).toArray⟩ ++ ⟨#[10]⟩) (grownCap w2 (3 + (Lib.decDigits W).length + 1 + (Lib.decDigits H).length + 1) 0 5)) 5 ((bytesRow (⟨#[80, 52, 10]⟩ ++ ⟨(Lib.decDigits W).toArray⟩ ++ ⟨#[32]⟩ ++ ⟨(Lib.decDigits H).toArray⟩ ++ ⟨#[10]⟩) (grownCap w2 (3 + (Lib.decDigits W).length + 1 + (Lib.decDigits H).length + 1) 0 5)).size, (bytesRow (⟨#[80, 52, 10]⟩ ++ ⟨(Lib.decDigits W).toArray⟩ ++ ⟨#[32]⟩ ++ ⟨(Lib.decDigits H).toArray⟩ ++ ⟨#[10]⟩) (grownCap w2 (3 + (Lib.decDigits W).length + 1 + (Lib.decDigits H).length + 1) 0 5)).size + 1))).drew = w3 at *
  generalize Value.slice (some ⟨w2.heap.size, 0, none⟩) (3 + (Lib.decDigits W).length + 1 + (Lib.decDigits H).length + 1) (grownCap w2 (3 + (Lib.decDigits W).length + 1 + (Lib.decDigits H).length + 1) 0 5) = v3 at *
  obtain ⟨B0, hB0⟩ : ∃ B0, w2.heap.size = B0 := ⟨_, rfl⟩
  rw [hB0] at HO3 hl3
  have HLE : Hid (B1 ≤ B0) := by show _ ≤ _; rw [← hB0]; exact Nat.le_trans (Nat.le_of_eq HB1.out.symm) HB.out.size
  have HCC : Hid (∀ w', Below B0 w3 w' → BInv w W0 (W : Int) (H : Int) a n cap B w') := fun w' hb => HC.out _ (HB3.out.trans (hb.mono HLE.out))
  clear hB0 HB HC
  go_wp2_with fail
  go_loopw [7, 8, 10, 11, 12] (fun s iy _ _ _ wr => ∃ y : Nat, y ≤ H ∧ iy = .int .i64 y ∧ Hid (Owns wr B0 5 s ((headF 1 W H).length + (rowsF 1 W H B y).length) (bv (headF 1 W H) ++ bv (rowsF 1 W H B y))) ∧ Hid (Below B0 w3 wr)) (fun _ iy _ _ _ _ => H - (intOf iy).toNat)
  case atStart => exact ⟨0, Nat.zero_le _, rfl, Lib.hid (by simpa [rowsF, bv, Lib.byteCells] using HO3.out), Lib.hid (Below.refl _ _)⟩
  case round =>
    clear HO3
    obtain ⟨y, hy, rfl, ho, hb⟩ := hrel
    by_cases hlt : y < H
    · have hltI : (y : Int) < (H : Int) := by omega
      have c1 := (HCC.out _ hb.out).c1
      have hrl := rowsF_len 1 W H B y
      have hrl2 : y * (2 * W + 1) ≤ 1048576 * 2097153 := Nat.mul_le_mul (by omega) (by omega)
      have hhl := HHL.out
      obtain ⟨n7, hn7⟩ : ∃ n7, (headF 1 W H).length + (rowsF 1 W H B y).length = n7 := ⟨_, rfl⟩
      have hn7b : n7 ≤ 10000000000000 := by omega
      have ho7 := ho.out
      rw [hn7] at ho7
      have HO7 := Lib.hid ho7
      have HN7 := Lib.hid hn7
      clear hrl hrl2 hhl hn7 ho7
      obtain ⟨p, hp⟩ : ∃ p : Nat → Nat, (fun x : Nat => px W H B x y) = p := ⟨_, rfl⟩
      have hp1 : ∀ x : Nat, px W H B x y = p x := fun x => congrFun hp x
      have hpl : ∀ x, p x ≤ 1 := fun x => by rw [← hp1]; exact px_le ..
      have hp0 : ∀ x, W ≤ x → p x = 0 := fun x hx => by rw [← hp1]; exact px_far (by omega)
      have HROW : Hid (rowsF 1 W H B (y + 1) = rowsF 1 W H B y ++ packRow p W) := by show _ = _; rw [rowsF]; unfold rowF; rw [hp]; rfl
      obtain ⟨zs, hzs⟩ : ∃ zs, bv (headF 1 W H) ++ bv (rowsF 1 W H B y) = zs := ⟨_, rfl⟩
      rw [hzs] at HO7
      have HZS := Lib.hid hzs
      have HP := Lib.hid hp1
      have HPL := Lib.hid hpl
      have HP0 := Lib.hid hp0
      clear hp hp1 hpl hp0 hzs ho
      go_wp2_with fail
      go_loopw [7, 10, 11, 12] (fun s i _ _ wr => ∃ j x : Nat, x = 8 * j ∧ j ≤ (W + 7) / 8 ∧ i = .int .i64 x ∧ Hid (Owns wr B0 5 s (n7 + (fullL p j).length) (zs ++ bv (fullL p j))) ∧ Hid (Below B0 w3 wr)) (fun _ i _ _ _ => W + 8 - (intOf i).toNat)
      case atStart => exact ⟨0, 0, rfl, Nat.zero_le _, rfl, Lib.hid (by simpa [fullL, bv, Lib.byteCells] using HO7.out), hb⟩
      case round =>
        clear HO7 hb c1
        obtain ⟨j, x, hxj, hj, rfl, ho, hb⟩ := hrel
        have c0 := (HCC.out _ hb.out).c0
        have c1 := (HCC.out _ hb.out).c1
        have c2 := (HCC.out _ hb.out).c2
        have HXJ := Lib.hid hxj
        by_cases hltx : x < W
        · have hltxI : (x : Int) < (W : Int) := by omega
          have hfl : (fullL p j).length ≤ 1048576 := by unfold fullL; rw [List.length_map, List.length_range]; omega
          have hwB : B0 ≤ wr.heap.size := Nat.le_trans hl3 hb.out.size
          clear hxj
          generalize wr = w4 at *
          go_wp2_with fail
          go_loopw [11, 12] (fun c i wr => ∃ t : Nat, t ≤ 8 ∧ i = .int .i64 t ∧ c = .int .i64 (accB p j t : Nat) ∧ Hid (Below w4.heap.size w4 wr)) (fun _ i _ => 8 - (intOf i).toNat)
          case atStart => exact ⟨0, Nat.zero_le _, rfl, rfl, Lib.hid (Below.refl w4.heap.size w4)⟩
          case round =>
            obtain ⟨t, ht, rfl, rfl, hbq⟩ := hrel
            clear c0 c1 c2
            have HBQ := Lib.hid (hb.out.trans (hbq.out.mono hwB))
            have c0 := (HCC.out _ HBQ.out).c0
            have c1 := (HCC.out _ HBQ.out).c1
            have c2 := (HCC.out _ HBQ.out).c2
            have hal := accB_le HPL.out j t
            obtain ⟨c, hc⟩ : ∃ c, accB p j t = c := ⟨_, rfl⟩
            rw [hc] at hal ⊢
            have HAC := Lib.hid hc
            clear hc
            by_cases hlt8 : t < 8
            · have hlt8I : (t : Int) < 8 := by omega
              have h2t : 2 ^ t ≤ 128 := by
                have : 2 ^ t ≤ 2 ^ 7 := Nat.pow_le_pow_right (by decide) (by omega)
                exact this
              have hpx : px W H B ((x : Int) + (t : Int)) (y : Int) = p (8 * j + t) := by
                rw [← HP.out, HXJ.out]
                congr 1
                all_goals omega
              have hpk := HPL.out (8 * j + t)
              have HACS : Hid (accB p j (t + 1) = 2 * c + p (8 * j + t)) := by show _ = _; rw [accB, HAC.out]
              have hcb : c ≤ 128 := by omega
              obtain ⟨b, hbb⟩ : ∃ b, p (8 * j + t) = b := ⟨_, rfl⟩
              rw [hbb] at hpx hpk HACS
              have HPX := Lib.hid hpx
              clear hal h2t hbb hpx
              go_wp2_with (go_at_call 23; refine (get_any W H a n cap B ((x : Int) + (t : Int)) (y : Int) _ hW hH HN0.out (HCC.out _ HBQ.out).k).mono ?_; rintro e wg ⟨rfl, hbel⟩; rw [HPX.out]; have HBG := Lib.hid (hbq.out.trans (hbel.mono hbq.out.size)); clear hbel)
              go_roundw
              case rel => exact ⟨t + 1, by omega, by go_num, by rw [HACS.out]; first | rfl | (congr 1; omega), HBG⟩
              case measure => simp [intOf]; omega
            · obtain rfl : t = 8 := by omega
              have hc8 : c ≤ 255 := by have : c + 1 ≤ 256 := hal; omega
              have hcf : c = fullB p j := by rw [← accB_full]; exact HAC.out.symm
              have HCF := Lib.hid hcf
              have wc : IntKind.u8.wrap (c : Int) = (c : Int) := by rw [IntKind.wrap_u8]; omega
              have HOQ := Lib.hid (ho.out.below hbq.out)
              have hBQ : B0 ≤ wr.heap.size := Nat.le_trans hl3 HBQ.out.size
              clear hal hcf
              go_wp2_with (at_builtin; refine step_append _ rfl _ _ 27 rfl B0 5 i0 (.int .u8 0) Tryd.underlying27 hi hz0 hz1 hz2 rfl _ _ _ rfl (HOQ.out.alloc _) ⟨wr.heap.size, 0, none⟩ 1 1 (bv [UInt8.ofNat c]) rfl rfl ?c1 (bv_one _) ?c3 ?c4 ?_)
              case c1 => rw [bv_single _ (c : Int) (by rw [UInt8.toNat_ofNat']; omega)]; exact cell_one_new _ _ _
              case c3 => omega
              case c4 => simp; omega
              intro v5 w5 h1 hgr
              have HB5 : Hid (Below B0 w3 w5) := (HBQ.out.alloc hBQ _).grown hgr (by simp; omega) (fun z hz => (HOQ.out.lt z hz).1)
              have HO5 : Hid (Owns w5 B0 5 v5 (n7 + (fullL p (j + 1)).length) (zs ++ bv (fullL p (j + 1)))) := by
                show Owns ..
                have e : fullL p (j + 1) = fullL p j ++ [UInt8.ofNat c] := by
                  unfold fullL
                  rw [List.range_succ, List.map_append, HCF.out]
                  rfl
                rw [e, bv_append, List.length_append, ← Nat.add_assoc, ← List.append_assoc]
                simpa using h1
              clear h1 hgr wc c0 c1 c2
              go_wp2_with fail
              go_roundw
              case rel => have h1 := HXJ.out; exact ⟨j + 1, x + 8, by omega, by omega, by go_num, HO5, HB5⟩
              case measure => simp [intOf]; omega
        · have hje : j = (W + 7) / 8 := by omega
          have HJE := Lib.hid hje
          have hltxI : ¬ (x : Int) < (W : Int) := by omega
          clear hje hxj
          go_wp2_with fail
          go_roundw
          case rel =>
            refine ⟨y + 1, by omega, by go_num, ?_, hb⟩
            have h1 := ho.out
            rw [HJE.out, fullL_row HP0.out, ← HN7.out, ← HZS.out] at h1
            show Owns ..
            rw [HROW.out, bv_append, List.length_append, ← Nat.add_assoc, ← List.append_assoc]
            exact h1
          case measure => simp [intOf]; omega
    · obtain rfl : y = H := by omega
      have c1 := (HCC.out _ hb.out).c1
      go_wp2_with fail
      go_ret2
      refine ⟨u7, B0, rfl, ?_, ?_, ?_⟩
      · have h1 := ho.out
        unfold fileF
        rw [List.length_append, bv_append]
        exact h1
      · rw [HW0.out]; exact Nat.le_trans (Nat.le_of_lt hsz) HLE.out
      · have h1 := (HCC.out _ hb.out).bel
        rw [HW0.out]
        exact h1
end Go.Proofs.YtgpjpmadbepblaaDoor
