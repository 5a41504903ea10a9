/- PbmSpread walked. Conditions: the bounds that each theorem names. -/
import Derived.Test.YtgpjpmadbepblaaDoorTe
import Derived.Test.YtgpjpmadbepblaaDoorL5
import Derived.Test.YtgpjpmadbepblaaDoorBh
namespace Go.Proofs.YtgpjpmadbepblaaDoor
open Go.RowKit Go.Bm Go.Pbm Go.Sort

/-- the struct that came in, in its box -/
structure SI (w : World) (W0 : Nat) (m : BM) (a : Option Addr) (len cap : Nat) (L : Nat → Int) (W1 : World) : Prop where
  c0 : W1.cell? ⟨W0, 0, none⟩ = some (.int .i64 m.w)
  c1 : W1.cell? ⟨W0, 1, none⟩ = some (.int .i64 m.h)
  c2 : W1.cell? ⟨W0, 2, none⟩ = some (.slice m.a m.n m.c)
  c3 : W1.cell? ⟨W0, 3, none⟩ = some (.slice a len cap)
  k : IsWords W1 m.a m.n m.c m.L
  kn : IsNums W1 a len cap L
  t : PowW W1
  bel : Below w.heap.size w W1
theorem SI.lt {w : World} {W0 : Nat} {m : BM} {a : Option Addr} {len cap : Nat} {L : Nat → Int} {W1 : World} (h : SI w W0 m a len cap L W1) : W0 < W1.heap.size := World.block_lt_of_cell? W1 _ h.c0
theorem SI.step {w : World} {W0 : Nat} {m : BM} {a : Option Addr} {len cap : Nat} {L : Nat → Int} {W1 W2 : World} (h : SI w W0 m a len cap L W1) (hb : Below W1.heap.size W1 W2) : SI w W0 m a len cap L W2 :=
  have l := h.lt
  ⟨(hb.cell (p := ⟨W0, 0, none⟩) l).trans h.c0, (hb.cell (p := ⟨W0, 1, none⟩) l).trans h.c1, (hb.cell (p := ⟨W0, 2, none⟩) l).trans h.c2, (hb.cell (p := ⟨W0, 3, none⟩) l).trans h.c3, h.k.below hb, h.kn.below hb, h.t.below hb, h.bel.trans (hb.mono h.bel.size)⟩
theorem SI.new {w : World} {m : BM} {a : Option Addr} {len cap : Nat} {L : Nat → Int} (h : IsWords w m.a m.n m.c m.L) (hn : IsNums w a len cap L) (hT : PowW w) : SI w w.heap.size m a len cap L (w.alloc (.cells #[.int .i64 m.w, .int .i64 m.h, .slice m.a m.n m.c, .slice a len cap] 44)) :=
  have hb := (Below.refl w.heap.size w).alloc (Nat.le_refl _) (.cells #[.int .i64 m.w, .int .i64 m.h, .slice m.a m.n m.c, .slice a len cap] 44)
  have bn := heap_alloc_new w (.cells #[.int .i64 m.w, .int .i64 m.h, .slice m.a m.n m.c, .slice a len cap] 44)
  ⟨Joins.cell_of_block bn 0, Joins.cell_of_block bn 1, Joins.cell_of_block bn 2, Joins.cell_of_block bn 3, h.below hb, hn.below hb, hT.below hb, hb⟩
theorem SI.wakes {w : World} {W0 : Nat} {m : BM} {a : Option Addr} {len cap : Nat} {L : Nat → Int} {W1 : World} (h : SI w W0 m a len cap L W1) : Calls Tryd.prog 12 #[] W1 fun e w' => e = .returned (.bool true) ∧ Below w.heap.size w w' :=
  (wakes12 W1 h.t).mono fun _ _ ⟨h1, h2⟩ => ⟨h1, h.bel.trans (h2.mono h.bel.size)⟩

/-- the same with what stands between -/
structure TI (w : World) (W0 : Nat) (m : BM) (a : Option Addr) (len cap : Nat) (L : Nat → Int) (q : Nat) (W1 : World) : Prop where
  s : SI w W0 m a len cap L W1
  bt : ∀ j s, betw[j]? = some s → W1.cell? ⟨q, j, none⟩ = some (.string ⟨s.toArray⟩)
theorem TI.step {w : World} {W0 : Nat} {m : BM} {a : Option Addr} {len cap : Nat} {L : Nat → Int} {q : Nat} {W1 W2 : World} (h : TI w W0 m a len cap L q W1) (hb : Below W1.heap.size W1 W2) : TI w W0 m a len cap L q W2 :=
  ⟨h.s.step hb, fun j s hj => (hb.cell (p := ⟨q, j, none⟩) (World.block_lt_of_cell? W1 _ (h.bt j s hj))).trans (h.bt j s hj)⟩
def betC : Array Value := #[.string { data := #[] }, .string { data := #[32] }, .string { data := #[10] }, .string { data := #[9, 13] }, .string { data := #[35, 49, 32, 48, 10] }, .string { data := #[32, 35, 32, 120, 35, 10, 35, 10] }, .string { data := #[11, 12] }]
theorem TI.new {w : World} {W0 : Nat} {m : BM} {a : Option Addr} {len cap : Nat} {L : Nat → Int} {W1 : World} (h : SI w W0 m a len cap L W1) : TI w W0 m a len cap L W1.heap.size (W1.alloc (.cells betC 9)) := by
  refine ⟨h.step (alloc_below _ _), fun j s hj => (Joins.cell_of_block (heap_alloc_new W1 (.cells betC 9)) j).trans ?_⟩
  have hlt := (List.getElem?_eq_some_iff.1 hj).1
  unfold betw at hj hlt
  simp only [List.length_cons, List.length_nil] at hlt
  rcases (show j = 0 ∨ j = 1 ∨ j = 2 ∨ j = 3 ∨ j = 4 ∨ j = 5 ∨ j = 6 by omega) with rfl | rfl | rfl | rfl | rfl | rfl | rfl <;> (cases hj; rfl)

/-- the text so far -/
def LsOk (W H : Nat) (B : Nat → Nat) (k : Nat) (st : ByteArray) (Ls : List (List UInt8 × Bool)) : Prop :=
  st = ⟨(hdS W H ++ seqB Ls).toArray⟩ ∧ Ls.length = k ∧ (∀ x ∈ Ls, Trans x.1) ∧ Ls.map (·.2) = (psA W H B).take k ∧ st.size ≤ 100 + 9 * k
theorem ba_size (l : List UInt8) : (⟨l.toArray⟩ : ByteArray).size = l.length := by simp [ByteArray.size]
theorem LsOk.start {W H : Nat} {B : Nat → Nat} {st : ByteArray} (h : st = ⟨(hdS W H).toArray⟩) (hW : W ≤ 1048576) (hH : H ≤ 1048576) : LsOk W H B 0 st [] := by
  refine ⟨by rw [h, seqB, List.append_nil], rfl, fun x hx => (by cases hx), by rw [List.take_zero]; rfl, ?_⟩
  have hdw := digits_le hW
  have hdh := digits_le hH
  rw [h, ba_size]
  unfold hdS
  simp only [List.length_append, List.length_cons, List.length_nil]
  omega
theorem betw_len : ∀ s ∈ betw, s.length ≤ 8 := by decide
theorem LsOk.next {W H x y k b : Nat} {B : Nat → Nat} {st : ByteArray} {Ls : List (List UInt8 × Bool)} {s : List UInt8} (h : LsOk W H B k st Ls) (hk : k = y * W + x) (hx : x < W) (hy : y < H) (hs : Trans s) (hl : s.length ≤ 8) (hb : px W H B x y = b) :
    LsOk W H B (k + 1) (st ++ ⟨s.toArray⟩ ++ ⟨[dg b].toArray⟩) (Ls ++ [(s, decide (b = 1))]) := by
  obtain ⟨h1, h2, h3, h4, h5⟩ := h
  have hb1 : b ≤ 1 := by rw [← hb]; exact px_le W H B x y
  refine ⟨?_, by rw [List.length_append, h2]; rfl, fun z hz => ?_, ?_, ?_⟩
  · rw [h1, ba_append, ba_append, seqB_append, dg_dp hb1, List.append_assoc, List.append_assoc]
    congr 2
  · rw [List.mem_append] at hz
    rcases hz with hz | hz
    · exact h3 z hz
    · simp at hz; rw [hz]; exact hs
  · rw [List.map_append, h4, hk, Nat.add_assoc, psA_step hx hy, hb]
    rfl
  · have e0 : (st ++ ⟨s.toArray⟩ ++ ⟨[dg b].toArray⟩ : ByteArray).size = st.size + s.length + 1 := by rw [ByteArray.size_append, ByteArray.size_append, ba_size]; rfl
    rw [e0]
    omega
theorem head_bytes (w2 : World) (l : List UInt8) (s : ByteArray) (m : Nat) (hs : s = ⟨l.toArray⟩) (hm : m = l.length) (hl : l.length ≤ 100000) :
    IsBytes ((w2.alloc (.cells (bytesRow s (grownCap w2 m 0 5)) 5 ((bytesRow s (grownCap w2 m 0 5)).size, (bytesRow s (grownCap w2 m 0 5)).size + 1))).drew) (some ⟨w2.heap.size, 0, none⟩) (grownCap w2 m 0 5) l ∧
    Below w2.heap.size w2 ((w2.alloc (.cells (bytesRow s (grownCap w2 m 0 5)) 5 ((bytesRow s (grownCap w2 m 0 5)).size, (bytesRow s (grownCap w2 m 0 5)).size + 1))).drew) := by
  obtain ⟨h1, h2⟩ := head_lay w2 l s m hs hm hl
  refine ⟨?_, h2⟩
  subst hm
  obtain ⟨a, cap, he, hk⟩ := h1.bytes
  injection he with i1 i2 i3
  subst i1
  subst i3
  exact hk
theorem LsOk.last {W H : Nat} {B : Nat → Nat} {st : ByteArray} {Ls : List (List UInt8 × Bool)} (h : LsOk W H B (W * H) st Ls) (hS : okS W H) (hst : st.size ≤ 30000) :
    st ++ { data := #[32, 35, 32, 101, 110, 100] } = ⟨(hdS W H ++ seqB Ls ++ tailS).toArray⟩ ∧ st.size + 6 = (hdS W H ++ seqB Ls ++ tailS).length ∧ (hdS W H ++ seqB Ls ++ tailS).length ≤ 100000 ∧ readS (hdS W H ++ seqB Ls ++ tailS) = .inr (W, H, psA W H B) := by
  obtain ⟨h1, h2, h3, h4, h5⟩ := h
  have e1 : ({ data := #[32, 35, 32, 101, 110, 100] } : ByteArray) = ⟨tailS.toArray⟩ := rfl
  have e2 : st.size = (hdS W H ++ seqB Ls).length := by rw [h1, ba_size]
  have e3 : (hdS W H ++ seqB Ls ++ tailS).length = st.size + 6 := by rw [List.length_append, ← e2]; rfl
  refine ⟨by rw [e1, h1, ba_append], e3.symm, by rw [e3]; omega, ?_⟩
  rw [spread_read W H hS Ls h2 h3, h4, List.take_of_length_le (by rw [psA_len, Nat.mul_comm]; exact Nat.le_refl _)]
theorem ba_nil (st : ByteArray) : st ++ (⟨([] : List UInt8).toArray⟩ : ByteArray) = st := ByteArray.append_empty

set_option maxHeartbeats 4000000 in
set_option maxRecDepth 100000 in
theorem spread_go (W H : Nat) (ba : Option Addr) (bn bc : Nat) (B : Nat → Nat) (a : Option Addr) (len cap : Nat) (L : Nat → Int) (w : World) (hP : IsWords w ba bn bc B) (hL : IsNums w a len cap L) (hlen : len ≤ 9223372036854775807) (hT : PowW w)
    (ho : okB W H bn B) (har : W * H ≤ 3000) (hsm : 64 * (bn : Int) + 64 ≤ 60000) :
    Calls Tryd.prog 6 #[.agg #[.int .i64 (W : Int), .int .i64 (H : Int), .slice ba bn bc, .slice a len cap]] w fun e w' => e = .returned (.bool true) ∧ Below w.heap.size w w' := by
  have HB := Lib.hid (SI.new (m := ⟨W, H, ba, bn, bc, B⟩) hP hL hT)
  have HLT := Lib.hid hP.lt
  have HLEN := Lib.hid hlen
  have hs := okS_le ho.1
  have hW : W ≤ 1048576 := by omega
  have hH : H ≤ 1048576 := by omega
  have hbn : bn ≤ 17179869184 := by omega
  have hwr : wrap64 ((W : Int) * (H : Int)) = ((W * H : Nat) : Int) := by rw [← Int.natCast_mul]; exact Go.IntWalk.wrap64_in _ ⟨by omega, by omega⟩
  have hle : ((3000 : Int) < ((W * H : Nat) : Int)) = False := by simp; omega
  have HO := Lib.hid ho
  have HS := Lib.hid hsm
  have HN := Lib.hid hbn
  obtain ⟨tot, ht⟩ : ∃ tot, W * H = tot := ⟨_, rfl⟩
  rw [ht] at hwr hle har
  have HT := Lib.hid ht
  have HAR := Lib.hid har
  have HWH : Hid (W ≤ 1048576 ∧ H ≤ 1048576) := ⟨hW, hH⟩
  clear har hW hH
  clear hP hT hL hlen ho hsm hbn hs ht
  go_enter Tryd.func6, Tryd.ntmps6
  go_upto_region 1 with fail
  have c0 : (w.alloc (.cells #[.int .i64 (W : Int), .int .i64 (H : Int), .slice ba bn bc, .slice a len cap] 44)).cell? ⟨w.heap.size, 0, none⟩ = some (.int .i64 (W : Int)) := HB.out.c0
  have c1 : (w.alloc (.cells #[.int .i64 (W : Int), .int .i64 (H : Int), .slice ba bn bc, .slice a len cap] 44)).cell? ⟨w.heap.size, 1, none⟩ = some (.int .i64 (H : Int)) := HB.out.c1
  have c2 : (w.alloc (.cells #[.int .i64 (W : Int), .int .i64 (H : Int), .slice ba bn bc, .slice a len cap] 44)).cell? ⟨w.heap.size, 2, none⟩ = some (.slice ba bn bc) := HB.out.c2
  obtain ⟨p, hp⟩ : ∃ p, w.heap.size = p := ⟨_, rfl⟩
  rw [hp] at HB c0 c1 c2 ⊢
  have HPP := Lib.hid hp
  clear hp
  generalize w.alloc (.cells #[.int .i64 (W : Int), .int .i64 (H : Int), .slice ba bn bc, .slice a len cap] 44) = w1 at *
  go_upto_region 3 with (first
    | (go_at_call 18; refine (may0 (W : Int) (H : Int) ba bn bc B true _ HB.out.k ⟨fun _ => HO.out, fun _ => rfl⟩).mono ?_; rintro e w2 ⟨rfl, hb2⟩; have HB2 := Lib.hid (HB.out.step hb2); clear hb2 c0 c1 c2; have c0 := HB2.out.c0; have c1 := HB2.out.c1; have c2 := HB2.out.c2; dsimp only at c0 c1 c2)
    | (go_at_call 19; refine (small1 w2.heap.size bn bc ba 60000 true _ HN.out (Joins.cell_of_block (heap_alloc_new w2 _) 2) (decide_eq_true HS.out).symm).mono ?_; rintro e w3 ⟨rfl, rfl⟩; have HB3 := Lib.hid (HB2.out.step (alloc_below w2 (.cells #[.int .i64 (W : Int), .int .i64 (H : Int), .slice ba bn bc] 25)))))
  clear c0 c1 c2
  generalize w2.alloc (.cells #[.int .i64 (W : Int), .int .i64 (H : Int), .slice ba bn bc] 25) = w4 at *
  have HT5 := Lib.hid (TI.new HB3.out)
  go_upto_region 4 with fail
  obtain ⟨q, hq⟩ : ∃ q, w4.heap.size = q := ⟨_, rfl⟩
  unfold betC at HT5
  rw [hq] at HT5 ⊢
  clear hq HB3
  generalize w4.alloc (.cells #[.string { data := #[] }, .string { data := #[32] }, .string { data := #[10] }, .string { data := #[9, 13] }, .string { data := #[35, 49, 32, 48, 10] }, .string { data := #[32, 35, 32, 120, 35, 10, 35, 10] }, .string { data := #[11, 12] }] 9) = w5 at *
  have HC : Hid (∀ w', Below w5.heap.size w5 w' → TI w p ⟨W, H, ba, bn, bc, B⟩ a len cap L q w') := fun w' hb => HT5.out.step hb
  have HBL := Lib.hid (Below.refl w5.heap.size w5)
  have hdw := digits_le HWH.out.1
  have hdh := digits_le HWH.out.2
  have c0 : w5.cell? ⟨p, 0, none⟩ = some (.int .i64 (W : Int)) := HT5.out.s.c0
  have c1 : w5.cell? ⟨p, 1, none⟩ = some (.int .i64 (H : Int)) := HT5.out.s.c1
  obtain ⟨B1, hB1⟩ : ∃ B1, w5.heap.size = B1 := ⟨_, rfl⟩
  rw [hB1] at HC HBL
  have HB1 := Lib.hid hB1
  clear hB1
  have l1 : ¬ 9223372036854775807 < 11 + (Lib.decDigits W).length := by omega
  have l2 : ¬ 9223372036854775807 < 11 + (Lib.decDigits W).length + 1 := by omega
  have l3 : ¬ 9223372036854775807 < 11 + (Lib.decDigits W).length + 1 + (Lib.decDigits H).length := by omega
  have l4 : ¬ 9223372036854775807 < 11 + (Lib.decDigits W).length + 1 + (Lib.decDigits H).length + 1 := by omega
  have hW := HWH.out.1
  have hH := HWH.out.2
  go_region_held (fun w' => w'.cell? ⟨p, 0, none⟩ = some (.int .i64 (W : Int)) ∧ w'.cell? ⟨p, 1, none⟩ = some (.int .i64 (H : Int))) (go_keep)
    ((go_at_call 21; refine (number21 _ _ ?_).mono ?_; assumption; rintro e w6 ⟨rfl, hbel⟩; have HBL := Lib.hid (Below.trans (by first | exact HBL.out | exact HBL.out.drew) (hbel.mono (Nat.le_trans (Nat.le_of_eq HB1.out.symm) HBL.out.size))); have c0 : w6.cell? ⟨p, 0, none⟩ = some (.int .i64 (W : Int)) := (HC.out _ HBL.out).s.c0; have c1 : w6.cell? ⟨p, 1, none⟩ = some (.int .i64 (H : Int)) := (HC.out _ HBL.out).s.c1; clear hbel))
  clear l1 l2 l3 l4 hdw hdh
  have HT6 := Lib.hid (HC.out _ HBL.out)
  obtain ⟨st0, hst0⟩ : ∃ st0, ({ data := #[80, 49, 32, 35, 80, 52, 32, 57, 32, 57, 10] } ++ { data := (Lib.decDigits W).toArray } ++ { data := #[10] } ++ { data := (Lib.decDigits H).toArray } ++ { data := #[32] } : ByteArray) = st0 := ⟨_, rfl⟩
  rw [hst0]
  have HL0 : Hid (LsOk W H B 0 st0 []) := by
    show LsOk _ _ _ _ _ _
    refine LsOk.start ?_ hW hH
    rw [← hst0]
    have e1 : ({ data := #[80, 49, 32, 35, 80, 52, 32, 57, 32, 57, 10] } : ByteArray) = ⟨([80, 49, 32, 35, 80, 52, 32, 57, 32, 57, 10] : List UInt8).toArray⟩ := rfl
    have e2 : ({ data := #[10] } : ByteArray) = ⟨([10] : List UInt8).toArray⟩ := rfl
    have e3 : ({ data := #[32] } : ByteArray) = ⟨([32] : List UInt8).toArray⟩ := rfl
    rw [e1, e2, e3, ba_append, ba_append, ba_append, ba_append]
    rfl
  clear hst0 HBL HC c0 c1 HT5 HB1 hwr hle
  generalize ({ data := #[80, 49, 32, 35, 80, 52, 32, 57, 32, 57, 10] } ++ { data := (Lib.decDigits W).toArray } ++ { data := #[10] } ++ { data := (Lib.decDigits H).toArray } : ByteArray) = s43
  generalize ({ data := #[80, 49, 32, 35, 80, 52, 32, 57, 32, 57, 10] } ++ { data := (Lib.decDigits W).toArray } ++ { data := #[10] } : ByteArray) = s38
  generalize ({ data := #[80, 49, 32, 35, 80, 52, 32, 57, 32, 57, 10] } ++ { data := (Lib.decDigits W).toArray } : ByteArray) = s37
  generalize ({ data := (Lib.decDigits W).toArray } : ByteArray) = s36
  generalize ({ data := (Lib.decDigits H).toArray } : ByteArray) = s42
  go_wp2_with fail
  go_loopw [4, 5, 6] (fun f nn yy wr => ∃ (y k : Nat) (st : ByteArray) (Ls : List (List UInt8 × Bool)), f = .string st ∧ nn = .int .i64 k ∧ yy = .int .i64 y ∧ y ≤ H ∧ Hid (k = y * W) ∧ Hid (LsOk W H B k st Ls) ∧ Hid (TI w p ⟨W, H, ba, bn, bc, B⟩ a len cap L q wr)) (fun _ _ yy _ => H - (intOf yy).toNat)
  case atStart => exact ⟨0, 0, st0, [], rfl, rfl, rfl, Nat.zero_le _, by show _ = _; rw [Nat.zero_mul], HL0, HT6⟩
  case round =>
    clear HL0 HT6
    obtain ⟨y, k, st, Ls, rfl, rfl, rfl, hy, hk, hls, ht⟩ := hrel
    have c1 : wr.cell? ⟨p, 1, none⟩ = some (.int .i64 (H : Int)) := ht.out.s.c1
    by_cases hyH : y < H
    · have hyI : (y : Int) < (H : Int) := by omega
      go_wp2_with fail
      clear c1
      go_loopw [4, 5, 7] (fun f nn xx wr => ∃ (x k : Nat) (st : ByteArray) (Ls : List (List UInt8 × Bool)), f = .string st ∧ nn = .int .i64 k ∧ xx = .int .i64 x ∧ x ≤ W ∧ Hid (k = y * W + x) ∧ Hid (LsOk W H B k st Ls) ∧ Hid (TI w p ⟨W, H, ba, bn, bc, B⟩ a len cap L q wr)) (fun _ _ xx _ => W - (intOf xx).toNat)
      case atStart => exact ⟨0, k, st, Ls, rfl, rfl, rfl, Nat.zero_le _, hk, hls, ht⟩
      case round =>
        clear hk hls ht Ls
        obtain ⟨x, k, st, Ls, rfl, rfl, rfl, hx, hk, hls, ht⟩ := hrel
        have c0 : wr.cell? ⟨p, 0, none⟩ = some (.int .i64 (W : Int)) := ht.out.s.c0
        by_cases hxW : x < W
        · have hxI : (x : Int) < (W : Int) := by omega
          have c3 : wr.cell? ⟨p, 3, none⟩ = some (.slice a len cap) := ht.out.s.c3
          have hkt : k ≤ 3000 := by
            have h1 : (y + 1) * W ≤ H * W := Nat.mul_le_mul_right W hyH
            have h2 := HT.out
            have h3 := HAR.out
            have h4 := hk.out
            rw [Nat.add_mul, Nat.one_mul, Nat.mul_comm H W, h2] at h1
            omega
          have HKT := Lib.hid hkt
          clear hkt
          by_cases hl0 : len = 0
          · have hlI : decide (0 < len) = false := by simp; omega
            clear hl0
            have HSV : Hid (∃ s : List UInt8, st = st ++ ⟨s.toArray⟩ ∧ Trans s ∧ s.length ≤ 8) := ⟨[], by rw [ba_nil], Trans.nil, by decide⟩
            have hsvl : st.size ≤ 100000 := by have := hls.out.2.2.2.2; have := HKT.out; omega
            go_upto_region 14 with fail
            clear hlI
            have hkt := HKT.out
            have hk1 : (k : Int) + 1 = ((k + 1 : Nat) : Int) := by omega
            clear hk1
            obtain ⟨b, hb⟩ : ∃ b, px W H B x y = b := ⟨_, rfl⟩
            have hb1 : b ≤ 1 := by rw [← hb]; exact px_le W H B x y
            have HBB := Lib.hid hb
            clear hb
            have hw8 : IntKind.u8.wrap (48 + (b : Int)) = 48 + (b : Int) := by rcases (show b = 0 ∨ b = 1 by omega) with rfl | rfl <;> rfl
            have hds : ∀ W : World, (convert 27 9 (.slice (some ⟨W.heap.size, 0, none⟩) 1 1)).run Tryd.prog (W.alloc (.cells #[.int .u8 (48 + (b : Int))] 5)) = .ok (.string ⟨[dg b].toArray⟩) (W.alloc (.cells #[.int .u8 (48 + (b : Int))] 5)) := fun W => digit_string W (dg b) (48 + (b : Int)) (by rw [dg_nat hb1]; omega)
            have c1 : wr.cell? ⟨p, 1, none⟩ = some (.int .i64 (H : Int)) := ht.out.s.c1
            have c2 : wr.cell? ⟨p, 2, none⟩ = some (.slice ba bn bc) := ht.out.s.c2
            have hsz1 : ¬ 9223372036854775807 < st.size + 1 := by omega
            go_upto_region 15 with fail
            go_wp2_with (go_at_call 23; refine (get_any W H ba bn bc B (x : Int) (y : Int) _ hW hH HO.out.2.1 ht.out.s.k).mono ?_; rintro e w7 ⟨rfl, hb7⟩; rw [HBB.out]; have HT7 := Lib.hid (ht.out.step hb7); clear hb7 c0 c1 c2 c3)
            obtain ⟨s, hs1, hs2, hs3⟩ := HSV.out
            have HT8 := Lib.hid (HT7.out.step (alloc_below w7 (.cells #[.int .u8 (48 + (b : Int))] 5)))
            have HLS : Hid (LsOk W H B (k + 1) (st ++ ⟨[dg b].toArray⟩) (Ls ++ [(s, decide (b = 1))])) := by
              show LsOk _ _ _ _ _ _
              exact (show st ++ ⟨s.toArray⟩ ++ ⟨[dg b].toArray⟩ = st ++ ⟨[dg b].toArray⟩ by rw [← hs1]) ▸ LsOk.next hls.out hk.out hxW hyH hs2 hs3 HBB.out
            clear hs1 hw8 hds hsz1 hsvl hb1 hkt HSV HBB
            go_roundw
            case rel => exact ⟨x + 1, k + 1, _, _, rfl, by go_num, by go_num, by omega, by show _ = _; rw [hk.out, Nat.add_assoc], HLS, HT8⟩
            case measure => simp [intOf]; omega
          · have hlI : (0 : Int) < (len : Int) := by omega
            obtain ⟨nb, noff, ha, hcells⟩ : ∃ nb noff, a = some ⟨nb, noff, none⟩ ∧ ∀ i, i < len → wr.cell? ⟨nb, noff + i, none⟩ = some (.int .i64 (L i)) := by
              rcases ht.out.s.kn with h | ⟨nb, noff, h1, _, _, _, h5⟩
              · omega
              · exact ⟨nb, noff, h1, h5⟩
            obtain ⟨r, hr⟩ : ∃ r, k % len = r := ⟨_, rfl⟩
            have hrl : r < len := by rw [← hr]; exact Nat.mod_lt _ (by omega)
            have d0 := hcells r hrl
            obtain ⟨jj, hjj⟩ : ∃ jj : Nat, (L r) % 7 = (jj : Int) := ⟨((L r) % 7).toNat, by omega⟩
            have hj7 : jj < 7 := by omega
            obtain ⟨sb, hsb⟩ : ∃ sb, betw[jj]? = some sb := ⟨_, List.getElem?_eq_getElem (by unfold betw; simpa using hj7)⟩
            have hbc := ht.out.bt jj sb hsb
            have hmem := List.mem_of_getElem? hsb
            have hsl := betw_len sb hmem
            obtain ⟨sbb, hsbb⟩ : ∃ sbb, (⟨sb.toArray⟩ : ByteArray) = sbb := ⟨_, rfl⟩
            rw [hsbb] at hbc
            have hsbl : sbb.size ≤ 8 := by rw [← hsbb, ba_size]; exact hsl
            have hstl : st.size ≤ 30000 := by have := hls.out.2.2.2.2; have := HKT.out; omega
            have HSV : Hid (∃ s : List UInt8, st ++ sbb = st ++ ⟨s.toArray⟩ ∧ Trans s ∧ s.length ≤ 8) := ⟨sb, by rw [hsbb], betw_trans sb hmem, hsl⟩
            have hlenI : ¬ (len : Int) = 0 := by omega
            have htm : (k : Int).tmod (len : Int) = (r : Int) := by rw [Int.tmod_eq_emod_of_nonneg (by omega), ← Int.natCast_emod, hr]
            have hwr : IntKind.i64.wrap (r : Int) = (r : Int) := IntWalk.i64_in _ (by have := HLEN.out; omega)
            have hrI : (r : Int) < (len : Int) := by omega
            have hjI : (jj : Int) < 7 := by omega
            have hcat : ¬ 9223372036854775807 < st.size + sbb.size := by omega
            have hsvl0 : (st ++ sbb).size ≤ 100000 := by rw [ByteArray.size_append]; omega
            have HSVL := Lib.hid hsvl0
            have HWI : Hid (∀ w : World, Calls Tryd.prog 22 #[.int .i64 (L r), .int .i64 7] w fun e w' => e = .returned (.int .i64 (jj : Int)) ∧ w = w') := fun w => by
              have h := within0 (L r) 7 w (by decide) (by decide)
              rw [show ((7 : Nat) : Int) = 7 from rfl, hjj] at h
              exact h
            subst ha
            clear hr hj7 hsb hmem hsl hsbb hsbl hstl hsvl0 hcells hl0 hjj
            have hlN : 0 < len := by omega
            go_upto_region 13 with fail
            go_quiet ((go_at_call 22; first | exact quiet0 (HWI.out _) | exact quietL (HWI.out _) | exact quietM (HWI.out _)))
            have ht2 : Hid (TI w p ⟨W, H, ba, bn, bc, B⟩ (some ⟨nb, noff, none⟩) len cap L q (wr.drewN nq)) := ht.out.step (below_drewN (Below.refl _ _) nq)
            clear d0 hbc c0 c3 hlN htm hwr hrI hjI hcat hlenI hlI hrl
            generalize wr.drewN nq = wr2 at *
            generalize st ++ sbb = sv at *
            have c0 : wr2.cell? ⟨p, 0, none⟩ = some (.int .i64 (W : Int)) := ht2.out.s.c0
            have c3 := ht2.out.s.c3
            have hkt := HKT.out
            have hk1 : (k : Int) + 1 = ((k + 1 : Nat) : Int) := by omega
            clear hk1
            obtain ⟨b, hb⟩ : ∃ b, px W H B x y = b := ⟨_, rfl⟩
            have hb1 : b ≤ 1 := by rw [← hb]; exact px_le W H B x y
            have HBB := Lib.hid hb
            clear hb
            have hw8 : IntKind.u8.wrap (48 + (b : Int)) = 48 + (b : Int) := by rcases (show b = 0 ∨ b = 1 by omega) with rfl | rfl <;> rfl
            have hds : ∀ W : World, (convert 27 9 (.slice (some ⟨W.heap.size, 0, none⟩) 1 1)).run Tryd.prog (W.alloc (.cells #[.int .u8 (48 + (b : Int))] 5)) = .ok (.string ⟨[dg b].toArray⟩) (W.alloc (.cells #[.int .u8 (48 + (b : Int))] 5)) := fun W => digit_string W (dg b) (48 + (b : Int)) (by rw [dg_nat hb1]; omega)
            have c1 : wr2.cell? ⟨p, 1, none⟩ = some (.int .i64 (H : Int)) := ht2.out.s.c1
            have c2 : wr2.cell? ⟨p, 2, none⟩ = some (.slice ba bn bc) := ht2.out.s.c2
            have hsz1 : ¬ 9223372036854775807 < sv.size + 1 := by have := HSVL.out; omega
            go_upto_region 15 with fail
            go_wp2_with (go_at_call 23; refine (get_any W H ba bn bc B (x : Int) (y : Int) _ hW hH HO.out.2.1 ht2.out.s.k).mono ?_; rintro e w7 ⟨rfl, hb7⟩; rw [HBB.out]; have HT7 := Lib.hid (ht2.out.step hb7); clear hb7 c0 c1 c2 c3)
            obtain ⟨s, hs1, hs2, hs3⟩ := HSV.out
            have HT8 := Lib.hid (HT7.out.step (alloc_below w7 (.cells #[.int .u8 (48 + (b : Int))] 5)))
            have HLS : Hid (LsOk W H B (k + 1) (sv ++ ⟨[dg b].toArray⟩) (Ls ++ [(s, decide (b = 1))])) := by
              show LsOk _ _ _ _ _ _
              rw [hs1]
              exact LsOk.next hls.out hk.out hxW hyH hs2 hs3 HBB.out
            clear hs1 hw8 hds hsz1 hb1 hkt HSV HBB
            go_roundw
            case rel => exact ⟨x + 1, k + 1, _, _, rfl, by go_num, by go_num, by omega, by show _ = _; rw [hk.out, Nat.add_assoc], HLS, HT8⟩
            case measure => simp [intOf]; omega
        · have hxI : ¬ (x : Int) < (W : Int) := by omega
          obtain rfl : x = W := by omega
          have hk2 : Hid (k = (y + 1) * x) := by show _ = _; rw [hk.out, Nat.add_mul, Nat.one_mul]
          clear hxW hx hk
          go_wp2_with fail
          go_roundw
          case rel => exact ⟨y + 1, k, st, Ls, rfl, rfl, by go_num, by omega, hk2, hls, ht⟩
          case measure => simp [intOf]; omega
    · have hyI : ¬ (y : Int) < (H : Int) := by omega
      obtain rfl : y = H := by omega
      clear hyH hy
      have hk3 : k = tot := by rw [hk.out, Nat.mul_comm]; exact HT.out
      have HK3 := Lib.hid hk3
      have hstl : st.size ≤ 30000 := by have := hls.out.2.2.2.2; have := HAR.out; omega
      have kc := fun (w : World) (s : ByteArray) => run_bytes_of_string (P := Tryd.prog) w 9 27 5 s Tryd.underlying9 Tryd.underlying27 Tryd.underlying5
      have l1 : ¬ 9223372036854775807 < st.size + 6 := by omega
      have HSTL := Lib.hid hstl
      clear hk3 hstl
      have hlast := LsOk.last (W := W) (H := y) (B := B) (st := st) (Ls := Ls) (by rw [HT.out, ← HK3.out]; exact hls.out) HO.out.1 HSTL.out
      obtain ⟨hs1, hs2, hs3, hs4⟩ := hlast
      have hfile := head_bytes wr _ _ _ hs1 hs2 hs3
      have HFILE := Lib.hid hfile
      have HLEN2 := Lib.hid hs2.symm
      obtain ⟨X, hX⟩ : ∃ X, (Sum.inr (W, y, psA W y B) : Nat ⊕ (Nat × Nat × List Bool)) = X := ⟨_, rfl⟩
      have HX := Lib.hid (hs4.trans hX)
      have HXX := Lib.hid hX
      have HL3 := Lib.hid hs3
      clear hs1 hs2 hs3 hs4 hX hfile
      go_upto_region 17 with (go_at_call 14; refine (read14_res (some ⟨wr.heap.size, 0, none⟩) (st.size + 6) _ (hdS W y ++ seqB Ls ++ tailS) _ HLEN2.out (Nat.le_trans HL3.out (by decide)) HFILE.out.1).mono ?_; rw [HX.out]; rintro e w9 ⟨c9, cap9, C9, rfl, hk9, ho9, hc9, hb9⟩; have hb8 := HFILE.out.2.trans (hb9.mono HFILE.out.2.size); have ht9 := ht.out.step hb8; have HB9 := Lib.hid (RBox.new (g := p) hk9 ho9 (fun x hx => Nat.lt_of_lt_of_le (Nat.lt_of_lt_of_le ht.out.s.lt HFILE.out.2.size) (hc9 x hx)) ht9.s.lt); have HT9 := Lib.hid (ht9.step (alloc_below w9 (.cells #[.int .i64 (outW X : Int), .int .i64 (outH X : Int), .slice c9 (outN X) cap9] 25))); clear hk9 ho9 hc9 hb9 hb8 ht9)
      have hE : outE X = 0 := by rw [← HXX.out]; rfl
      have HEQ : Hid ((outW X : Int) = (W : Int) ∧ (outH X : Int) = (y : Int) ∧ eqL (outN X) bn C9 B) := by
        have h1 := HO.out
        have h2 := HB9.out.ok
        have h3 := HB9.out.k.lt
        rw [← HXX.out] at h2 h3 ⊢
        have hbn : bn = y * wd W := h1.2.1
        rw [hbn] at h1
        refine ⟨rfl, rfl, hbn.symm, fun i hi => ?_⟩
        exact pix_ext h2 (all_pix h1) h3 (fun j hj => HLT.out j (by rw [hbn]; exact hj)) i hi
      rw [hE]
      clear hE l1 kc
      obtain ⟨p9, hp9⟩ : ∃ p9, w9.heap.size = p9 := ⟨_, rfl⟩
      rw [hp9] at HB9 ⊢
      clear hp9
      generalize w9.alloc (.cells #[.int .i64 (outW X : Int), .int .i64 (outH X : Int), .slice c9 (outN X) cap9] 25) = w10 at *
      have c0 : w10.cell? ⟨p, 0, none⟩ = some (.int .i64 (W : Int)) := HT9.out.s.c0
      have c1 : w10.cell? ⟨p, 1, none⟩ = some (.int .i64 (y : Int)) := HT9.out.s.c1
      have c2 : w10.cell? ⟨p, 2, none⟩ = some (.slice ba bn bc) := HT9.out.s.c2
      have e0 := HB9.out.c0
      have e1 := HB9.out.c1
      have e2 := HB9.out.c2
      go_wp2_with (first
        | (go_at_call 17; refine (eqbitmap0 _ _ c9 _ cap9 C9 (W : Int) (y : Int) ba bn bc B true _ HB9.out.k HT9.out.s.k ⟨fun _ => HEQ.out, fun _ => rfl⟩ (outN_le HB9.out.k)).mono ?_; rintro e w11 ⟨rfl, hb11⟩; have HT11 := Lib.hid (HT9.out.step hb11); clear hb11)
        | (go_at_call 12; refine (HT11.out.s.wakes).mono ?_; rintro e w12 ⟨rfl, hb12⟩; have HB12 := Lib.hid hb12; clear hb12))
      go_ret
      exact ⟨rfl, HB12.out⟩

set_option maxHeartbeats 4000000 in
set_option maxRecDepth 100000 in
theorem spread_walk (m : BM) (a : Option Addr) (len cap : Nat) (L : Nat → Int) (w : World) (hP : IsWords w m.a m.n m.c m.L) (_hno : m.a = none → m.n = 0 ∧ m.c = 0) (hL : IsNums w a len cap L) (hlen : len ≤ 9223372036854775807) (hT : PowW w) :
    Calls Tryd.prog 6 #[.agg #[.int .i64 m.w, .int .i64 m.h, .slice m.a m.n m.c, .slice a len cap]] w fun e w' => e = .returned (.bool true) ∧ Below w.heap.size w w' := by
  by_cases hgood : okB m.w m.h m.n m.L ∧ m.w * m.h ≤ 3000 ∧ 64 * (m.n : Int) + 64 ≤ 60000
  · obtain ⟨ho, har, hsm⟩ := hgood
    obtain ⟨e1, e2⟩ := okB_nat ho
    rw [e1, e2] at ho
    rw [e1, e2] at har
    rw [e1, e2]
    exact spread_go m.w.toNat m.h.toNat m.a m.n m.c m.L a len cap L w hP hL hlen hT ho (by rw [← Int.natCast_mul] at har; omega) hsm
  have HG := Lib.hid hgood
  clear hgood
  have HB := Lib.hid (SI.new hP hL hT)
  have HLT := Lib.hid hP.lt
  have HLEN := Lib.hid hlen
  clear hP hT hL hlen
  by_cases ho : okB m.w m.h m.n m.L
  · obtain ⟨e1, e2⟩ := okB_nat ho
    have hs := okS_le ho.1
    have hn : m.n ≤ 17179869184 := by
      have h1 : m.h.toNat * wd m.w.toNat ≤ 1048576 * 16384 := Nat.mul_le_mul (by omega) (wd_le (by omega))
      rw [ho.2.1]; omega
    have hmul : 0 ≤ m.w * m.h ∧ m.w * m.h ≤ 1048576 := ⟨Int.mul_nonneg (by have := ho.1.1; omega) (by have := ho.1.2.1; omega), ho.1.2.2⟩
    have HO := Lib.hid ho
    have HN := Lib.hid hn
    have HE : Hid (m.w = (m.w.toNat : Int) ∧ m.h = (m.h.toNat : Int) ∧ m.w ≤ 1048576 ∧ m.h ≤ 1048576) := ⟨e1, e2, hs.1, hs.2⟩
    obtain ⟨ar, har⟩ : ∃ ar, m.w * m.h = ar := ⟨_, rfl⟩
    rw [har] at hmul
    have hwr : wrap64 (m.w * m.h) = ar := by rw [har]; exact Go.IntWalk.wrap64_in _ ⟨by omega, by omega⟩
    have HAR := Lib.hid har
    clear ho hn e1 e2 hs har
    by_cases hbig : 3000 < ar
    · go_enter Tryd.func6, Tryd.ntmps6
      go_upto_region 1 with fail
      have c0 := HB.out.c0
      have c1 := HB.out.c1
      have c2 := HB.out.c2
      obtain ⟨p, hp⟩ : ∃ p, w.heap.size = p := ⟨_, rfl⟩
      rw [hp] at HB c0 c1 c2 ⊢
      have HPP := Lib.hid hp
      clear hp
      generalize w.alloc (.cells #[.int .i64 m.w, .int .i64 m.h, .slice m.a m.n m.c, .slice a len cap] 44) = w1 at *
      go_wp2_with (first
        | (go_at_call 18; refine (may0 m.w m.h m.a m.n m.c m.L true _ HB.out.k ⟨fun _ => HO.out, fun _ => rfl⟩).mono ?_; rintro e w2 ⟨rfl, hb2⟩; have HB2 := Lib.hid (HB.out.step hb2); clear hb2 c0 c1 c2; have c0 := HB2.out.c0; have c1 := HB2.out.c1; have c2 := HB2.out.c2)
        | (go_at_call 12; refine (HB2.out.wakes).mono ?_; rintro e w3 ⟨rfl, hb3⟩; have HB3 := Lib.hid hb3; clear hb3))
      go_ret
      exact ⟨rfl, HB3.out⟩
    · have hsm : ¬ 64 * (m.n : Int) + 64 ≤ 60000 := fun h => HG.out ⟨HO.out, by rw [HAR.out]; omega, h⟩
      have hle : ((3000 : Int) < ar) = False := by simp; omega
      have HS := Lib.hid (decide_eq_false hsm).symm
      clear hsm hbig
      go_enter Tryd.func6, Tryd.ntmps6
      go_upto_region 1 with fail
      have c0 := HB.out.c0
      have c1 := HB.out.c1
      have c2 := HB.out.c2
      obtain ⟨p, hp⟩ : ∃ p, w.heap.size = p := ⟨_, rfl⟩
      rw [hp] at HB c0 c1 c2 ⊢
      have HPP := Lib.hid hp
      clear hp
      generalize w.alloc (.cells #[.int .i64 m.w, .int .i64 m.h, .slice m.a m.n m.c, .slice a len cap] 44) = w1 at *
      go_wp2_with (first
        | (go_at_call 18; refine (may0 m.w m.h m.a m.n m.c m.L true _ HB.out.k ⟨fun _ => HO.out, fun _ => rfl⟩).mono ?_; rintro e w2 ⟨rfl, hb2⟩; have HB2 := Lib.hid (HB.out.step hb2); clear hb2 c0 c1 c2; have c0 := HB2.out.c0; have c1 := HB2.out.c1; have c2 := HB2.out.c2)
        | (go_at_call 19; refine (small1 w2.heap.size m.n m.c m.a 60000 false _ HN.out (Joins.cell_of_block (heap_alloc_new w2 _) 2) HS.out).mono ?_; rintro e w3 ⟨rfl, rfl⟩; have HB3 := Lib.hid (HB2.out.step (alloc_below w2 (.cells #[.int .i64 m.w, .int .i64 m.h, .slice m.a m.n m.c] 25))))
        | (go_at_call 12; refine (HB3.out.wakes).mono ?_; rintro e w4 ⟨rfl, hb4⟩; have HB4 := Lib.hid hb4; clear hb4))
      go_ret
      exact ⟨rfl, HB4.out⟩
  · have HO := Lib.hid ho
    clear ho
    go_enter Tryd.func6, Tryd.ntmps6
    go_upto_region 1 with fail
    have c0 := HB.out.c0
    have c1 := HB.out.c1
    have c2 := HB.out.c2
    obtain ⟨p, hp⟩ : ∃ p, w.heap.size = p := ⟨_, rfl⟩
    rw [hp] at HB c0 c1 c2 ⊢
    have HPP := Lib.hid hp
    clear hp
    generalize w.alloc (.cells #[.int .i64 m.w, .int .i64 m.h, .slice m.a m.n m.c, .slice a len cap] 44) = w1 at *
    go_wp2_with (first
      | (go_at_call 18; refine (may0 m.w m.h m.a m.n m.c m.L false _ HB.out.k ⟨fun h => (by cases h), fun h => absurd h HO.out⟩).mono ?_; rintro e w2 ⟨rfl, hb2⟩; have HB2 := Lib.hid (HB.out.step hb2); clear hb2)
      | (go_at_call 12; refine (HB2.out.wakes).mono ?_; rintro e w3 ⟨rfl, hb3⟩; have HB3 := Lib.hid hb3; clear hb3))
    go_ret
    exact ⟨rfl, HB3.out⟩
end Go.Proofs.YtgpjpmadbepblaaDoor
