/- bytes of package pbm: pixels as bytes. Conditions: the bounds that each theorem names. -/
import Derived.Test.YtgpjpmadbepblaaDoorSc
namespace Go.Pbm
open Go.Bm
/-- a pixel of packed rows -/
def bitP (m : List UInt8) (W k : Nat) : Bool := decide ((m.getD (k / W * ((W + 7) / 8) + k % W / 8) 0).toNat / 2 ^ (7 - k % W % 8) % 2 = 1)
def bitsP (m : List UInt8) (W : Nat) (n : Nat) : List Bool := (List.range n).map (bitP m W)
/-- pixels as bytes: the fault, or the pixels -/
def bytesS (l : List UInt8) (i W H : Nat) : Nat ⊕ List Bool :=
  match l[i]? with
  | some c => if isW c.toNat = true then
      (if (l.drop (i + 1)).length < (W + 7) / 8 * H then .inl 32 else if (W + 7) / 8 * H < (l.drop (i + 1)).length then .inl 33 else .inr (bitsP (l.drop (i + 1)) W (W * H)))
    else .inl 30
  | none => .inl 30
end Go.Pbm
namespace Go.Proofs.YtgpjpmadbepblaaDoor
open Go.RowKit Go.Bm Go.Pbm Go.Sort

theorem pix_facts {W H q row nn tot : Nat} (hW1 : 1 ≤ W) (hW : W ≤ 1048576) (hrow : (W + 7) / 8 = row) (hnn : row * H = nn) (hn : nn ≤ 1048576) (ht : W * H = tot) (hlt : q < tot) :
    ∃ xx yy yr x8 r8 e : Nat, (q % W = xx ∧ q / W = yy ∧ yy * row = yr ∧ xx / 8 = x8 ∧ xx % 8 = r8 ∧ 7 - r8 = e) ∧ xx < W ∧ yy < H ∧ yr + x8 < nn ∧ ¬ W = 0 ∧ ¬ (W : Int) = 0 ∧
      (q : Int).tmod (W : Int) = (xx : Int) ∧ (q : Int).tdiv (W : Int) = (yy : Int) ∧ IntKind.i64.wrap (xx : Int) = (xx : Int) ∧ IntKind.i64.wrap (yy : Int) = (yy : Int) ∧
      IntKind.i64.wrap ((yy : Int) * (row : Int)) = (yr : Int) ∧ wrap64 ((yy : Int) * (row : Int)) = (yr : Int) ∧ (xx : Int) / 8 = (x8 : Int) ∧ (xx : Int) % 8 = (r8 : Int) ∧ (7 : Int) - (r8 : Int) = (e : Int) ∧ wrap64 ((7 : Int) - (r8 : Int)) = (e : Int) ∧
      (yr : Int) + (x8 : Int) < (nn : Int) ∧ wrap64 ((yr : Int) + (x8 : Int)) = (yr : Int) + (x8 : Int) ∧ e ≤ 7 ∧ wrap64 (x8 : Int) = (x8 : Int) := by
  obtain ⟨xx, hxx⟩ : ∃ xx, q % W = xx := ⟨_, rfl⟩
  obtain ⟨yy, hyy⟩ : ∃ yy, q / W = yy := ⟨_, rfl⟩
  have hxl : xx < W := by rw [← hxx]; exact Nat.mod_lt _ hW1
  have hyl : yy < H := by rw [← hyy]; exact Nat.div_lt_of_lt_mul (by rw [ht]; exact hlt)
  obtain ⟨yr, hyr⟩ : ∃ yr, yy * row = yr := ⟨_, rfl⟩
  have hidx : yr + row ≤ nn := by
    have h7 : yy * row + row ≤ H * row := by rw [← Nat.succ_mul]; exact Nat.mul_le_mul_right _ hyl
    rw [Nat.mul_comm H row, hnn, hyr] at h7
    exact h7
  have hyl2 : yy ≤ q := by rw [← hyy]; exact Nat.div_le_self _ _
  have hyb : yy ≤ 1048576 := by
    have h1 : yy * 1 ≤ yy * row := Nat.mul_le_mul_left _ (by omega)
    omega
  have htm : (q : Int).tmod (W : Int) = (xx : Int) := by rw [Int.tmod_eq_emod_of_nonneg (Int.natCast_nonneg _), ← Int.natCast_emod, hxx]
  have htd : (q : Int).tdiv (W : Int) = (yy : Int) := by rw [Int.tdiv_eq_ediv_of_nonneg (Int.natCast_nonneg _), ← Int.natCast_ediv, hyy]
  have hp : (yy : Int) * (row : Int) = (yr : Int) := by rw [← Int.natCast_mul, hyr]
  have hxx2 := hxx
  have hyy2 := hyy
  clear hnn ht hlt hyl2
  refine ⟨xx, yy, yr, xx / 8, xx % 8, 7 - xx % 8, ⟨hxx2, hyy2, hyr, rfl, rfl, rfl⟩, hxl, hyl, by omega, by omega, by omega, htm, htd, IntWalk.i64_in _ (by omega), IntWalk.i64_in _ (by omega), ?_, ?_, by omega, by omega, by omega, ?_, by omega, ?_, by omega, Go.IntWalk.wrap64_in _ ⟨by omega, by omega⟩⟩
  · rw [hp]; exact IntWalk.i64_in _ (by omega)
  · rw [hp]; exact Go.IntWalk.wrap64_in _ ⟨by omega, by omega⟩
  · rw [show (7 : Int) - ((xx % 8 : Nat) : Int) = ((7 - xx % 8 : Nat) : Int) by omega]; exact Go.IntWalk.wrap64_in _ ⟨by omega, by omega⟩
  · exact Go.IntWalk.wrap64_in _ ⟨by omega, by omega⟩
theorem and_bit8 (v e : Nat) (hv : v < 256) : (bits BinOp.and IntKind.u8 ((v : Int) / 2 ^ e) 1 == 1) = decide (v / 2 ^ e % 2 = 1) := by
  have h : (v : Int) / 2 ^ e = ((v / 2 ^ e : Nat) : Int) := by rw [Int.natCast_ediv]; simp
  have l := Nat.div_le_self v (2 ^ e)
  rw [h]
  generalize v / 2 ^ e = u at *
  have h1 := u8_and_nat u 1 (by omega) (by decide)
  have h2 : ((1 : Nat) : Int) = 1 := rfl
  rw [h2, Nat.and_one_is_mod] at h1
  rw [h1]
  by_cases h3 : u % 2 = 1
  · rw [h3]; rfl
  · rw [show u % 2 = 0 by omega]; rfl
theorem bitsP_len (m : List UInt8) (W n : Nat) : (bitsP m W n).length = n := by unfold bitsP; simp
theorem bitsP_step (m : List UInt8) (W n : Nat) : bitsP m W (n + 1) = bitsP m W n ++ [bitP m W n] := by unfold bitsP; rw [List.range_succ, List.map_append]; rfl
theorem meas {tot q : Nat} (h : q < tot) : tot - (intOf (.int .i64 ((q : Int) + 1))).toNat < tot - (intOf (.int .i64 (q : Int))).toNat := by
  simp [intOf]
  omega
theorem far_cap {ml len i cap : Nat} (h1 : 1 ≤ ml) (h3 : ml = len - (i + 1)) (h4 : len ≤ cap) : ¬ cap = i + 1 := by omega
set_option maxHeartbeats 2000000 in
set_option maxRecDepth 100000 in
theorem bytes32_bad (r g W H : Nat) (a : Option Addr) (cap : Nat) (l : List UInt8) (i : Nat) (w : World) (h : IsRd w r a cap l i) (h1 : isWI (hereV l i) = false) :
    Calls Tryd.prog 32 #[.pointer (some ⟨r, 0, none⟩), .pointer (some ⟨g, 0, none⟩), .int .i64 W, .int .i64 H] w fun e w' => e = faultE 30 ∧ ∃ k, w.drewN k = w' := by
  have HR := Lib.hid h
  have HW := Lib.hid h1
  clear h h1
  go_enter Tryd.func32, Tryd.ntmps32
  go_wp2_with (first
    | (go_at_call 45; refine (here45 r _ cap l i _ HR.out).mono ?_; rintro e w1 ⟨rfl, k, rfl⟩)
    | (go_at_call 47; refine (white47 _ _).mono ?_; rintro e w1 ⟨rfl, rfl⟩; rw [HW.out]))
  exact ⟨rfl, rfl, k, rfl⟩

set_option maxHeartbeats 2000000 in
set_option maxRecDepth 100000 in
theorem bytes32_few (B0 r g gw W H : Nat) (a : Option Addr) (cap : Nat) (l : List UInt8) (i : Nat) (w : World) (h : IsRd w r a cap l i) (hl : l.length ≤ 100000000000000) (hM : IsMapO w g gw W H (fun _ => 0)) (hS : okS W H)
    (hB0 : B0 ≤ w.heap.size) (_hgw : B0 ≤ gw) (hab : ∀ b off, a = some ⟨b, off, none⟩ → b < B0)
    (hi : i < l.length) (h1 : isWI (hereV l i) = true) (m : List UInt8) (hm : l.drop (i + 1) = m) (hc : m.length < (W + 7) / 8 * H) :
    Calls Tryd.prog 32 #[.pointer (some ⟨r, 0, none⟩), .pointer (some ⟨g, 0, none⟩), .int .i64 W, .int .i64 H] w fun e w' => ReadsE e w' g gw W H (.inl 32) ∧ Below B0 w w' := by
  have hs := okS_le hS
  have hW : W ≤ 1048576 := by omega
  have hH : H ≤ 1048576 := by omega
  have hW1 : 1 ≤ W := by have := hS.1; omega
  have hH1 : 1 ≤ H := by have := hS.2.1; omega
  have hok : okB W H (H * wd W) (fun _ => 0) := ⟨hS, by simp, fun _ _ => Or.inr (by simp)⟩
  have htot : W * H ≤ 1048576 := by have := hS.2.2; rw [← Int.natCast_mul] at this; omega
  have hwr : IntKind.i64.wrap ((W : Int) * (H : Int)) = ((W * H : Nat) : Int) := by rw [← Int.natCast_mul]; exact IntWalk.i64_in _ (by omega)
  have hwr2 : wrap64 ((W : Int) * (H : Int)) = ((W * H : Nat) : Int) := by rw [← Int.natCast_mul]; exact Go.IntWalk.wrap64_in _ ⟨by omega, by omega⟩
  obtain ⟨row, hrow⟩ : ∃ row, (W + 7) / 8 = row := ⟨_, rfl⟩
  have hrl : row ≤ W := by omega
  have hn : row * H ≤ 1048576 := Nat.le_trans (Nat.mul_le_mul_right H hrl) htot
  have hrI : ((W : Int) + 7) / 8 = (row : Int) := by omega
  have hwn : IntKind.i64.wrap ((row : Int) * (H : Int)) = ((row * H : Nat) : Int) := by rw [← Int.natCast_mul]; exact IntWalk.i64_in _ (by omega)
  have hwn2 : wrap64 ((row : Int) * (H : Int)) = ((row * H : Nat) : Int) := by rw [← Int.natCast_mul]; exact Go.IntWalk.wrap64_in _ ⟨by omega, by omega⟩
  have hml : m.length = l.length - (i + 1) := by rw [← hm, List.length_drop]
  have hle := h.le
  have c0 := h.c0
  have c1 := h.c1
  have HK := Lib.hid h.k
  have HWI := Lib.hid h1
  have HR := Lib.hid h
  have HM := Lib.hid hM
  have HROW := Lib.hid hrow
  have HMD := Lib.hid hm
  obtain ⟨tot, ht⟩ : ∃ tot, W * H = tot := ⟨_, rfl⟩
  obtain ⟨nn, hnn⟩ : ∃ nn, row * H = nn := ⟨_, rfl⟩
  rw [ht] at hwr hwr2 htot
  rw [hnn] at hwn hwn2 hn
  rw [hrow, hnn] at hc
  have hnn1 : 1 ≤ nn := by rw [← hnn]; exact Nat.mul_pos (by omega) hH1
  have HT := Lib.hid ht
  have HNN := Lib.hid hnn
  have HNB := Lib.hid hn
  clear h hM hok hS hs h1 hrow hm ht hnn
  obtain ⟨b, off, rfl, hcap, hcells0⟩ : ∃ b off, a = some ⟨b, off, none⟩ ∧ l.length ≤ cap ∧ ∀ (j : Nat) (u : UInt8), l[j]? = some u → w.cell? ⟨b, off + j, none⟩ = some (.int .u8 (u.toNat : Int)) := by
    rcases HK.out with h0 | ⟨b, off, h1, h2, _, _, h5⟩
    · rw [h0] at hi; simp at hi
    · exact ⟨b, off, h1, h2, h5⟩
  have hbB := hab b off rfl
  have HCL : Hid (∀ w', Below B0 w w' → ∀ (j : Nat) (u : UInt8), m[j]? = some u → w'.cell? ⟨b, off + (i + 1) + j, none⟩ = some (.int .u8 (u.toNat : Int))) := fun w' hb j u hj => by
    have h5 := hcells0 (i + 1 + j) u (by rw [← HMD.out, List.getElem?_drop] at hj; exact hj)
    rw [← Nat.add_assoc] at h5
    exact (hb.cell (p := ⟨b, off + (i + 1) + j, none⟩) hbB).trans h5
  clear hcells0 hab
  obtain ⟨len, hlen⟩ : ∃ len, l.length = len := ⟨_, rfl⟩
  rw [hlen] at hi hl hml hle c0 hcap
  have HL := Lib.hid hlen
  clear hlen
  obtain ⟨ml, hmle⟩ : ∃ ml, m.length = ml := ⟨_, rfl⟩
  rw [hmle] at hml hc
  have HML := Lib.hid hmle
  clear hmle
  by_cases hce : cap = i + 1
  · go_enter Tryd.func32, Tryd.ntmps32
    go_upto_region 2 with (first
      | (go_at_call 45; refine (here45 r _ cap l i _ HR.out).mono ?_; rintro e w1 ⟨rfl, k, rfl⟩)
      | (go_at_call 47; refine (white47 _ _).mono ?_; rintro e w1 ⟨rfl, rfl⟩; rw [HWI.out]))
    go_region
    rw [← hml]
    obtain ⟨cb, hcb⟩ : ∃ cb, cap - (i + 1) = cb := ⟨_, rfl⟩
    try rw [hcb]
    have HR1 := Lib.hid (HR.out.drewN (k + 1))
    have HM1 := Lib.hid (HM.out.drewN (k + 1))
    have HB1 := Lib.hid (below_drewN (Below.refl B0 w) (k + 1))
    have hw1 : B0 ≤ (w.drewN (k + 1)).heap.size := hB0
    generalize w.drewN (k + 1) = w1 at *
    have hmlb : ml ≤ 100000000000000 := by rw [hml]; exact Nat.le_trans (Nat.sub_le _ _) hl
    clear HR HM c0 c1 hcb HK hcap hml hce hi hle hl hrl hn hnn1 hH1
    have hcI : (ml : Int) < (nn : Int) := Int.ofNat_lt.2 hc
    go_wp2_with fail
    exact ⟨rfl, rfl, HB1.out⟩
  · go_enter Tryd.func32, Tryd.ntmps32
    go_upto_region 2 with (first
      | (go_at_call 45; refine (here45 r _ cap l i _ HR.out).mono ?_; rintro e w1 ⟨rfl, k, rfl⟩)
      | (go_at_call 47; refine (white47 _ _).mono ?_; rintro e w1 ⟨rfl, rfl⟩; rw [HWI.out]))
    go_region
    rw [← hml]
    obtain ⟨cb, hcb⟩ : ∃ cb, cap - (i + 1) = cb := ⟨_, rfl⟩
    try rw [hcb]
    have HR1 := Lib.hid (HR.out.drewN (k + 1))
    have HM1 := Lib.hid (HM.out.drewN (k + 1))
    have HB1 := Lib.hid (below_drewN (Below.refl B0 w) (k + 1))
    have hw1 : B0 ≤ (w.drewN (k + 1)).heap.size := hB0
    generalize w.drewN (k + 1) = w1 at *
    have hmlb : ml ≤ 100000000000000 := by rw [hml]; exact Nat.le_trans (Nat.sub_le _ _) hl
    clear HR HM c0 c1 hcb HK hcap hml hce hi hle hl hrl hn hnn1 hH1
    have hcI : (ml : Int) < (nn : Int) := Int.ofNat_lt.2 hc
    go_wp2_with fail
    exact ⟨rfl, rfl, HB1.out⟩

set_option maxHeartbeats 2000000 in
set_option maxRecDepth 100000 in
theorem bytes32_many (B0 r g gw W H : Nat) (a : Option Addr) (cap : Nat) (l : List UInt8) (i : Nat) (w : World) (h : IsRd w r a cap l i) (hl : l.length ≤ 100000000000000) (hM : IsMapO w g gw W H (fun _ => 0)) (hS : okS W H)
    (hB0 : B0 ≤ w.heap.size) (_hgw : B0 ≤ gw) (hab : ∀ b off, a = some ⟨b, off, none⟩ → b < B0)
    (hi : i < l.length) (h1 : isWI (hereV l i) = true) (m : List UInt8) (hm : l.drop (i + 1) = m) (hc : (W + 7) / 8 * H < m.length) :
    Calls Tryd.prog 32 #[.pointer (some ⟨r, 0, none⟩), .pointer (some ⟨g, 0, none⟩), .int .i64 W, .int .i64 H] w fun e w' => ReadsE e w' g gw W H (.inl 33) ∧ Below B0 w w' := by
  have hs := okS_le hS
  have hW : W ≤ 1048576 := by omega
  have hH : H ≤ 1048576 := by omega
  have hW1 : 1 ≤ W := by have := hS.1; omega
  have hH1 : 1 ≤ H := by have := hS.2.1; omega
  have hok : okB W H (H * wd W) (fun _ => 0) := ⟨hS, by simp, fun _ _ => Or.inr (by simp)⟩
  have htot : W * H ≤ 1048576 := by have := hS.2.2; rw [← Int.natCast_mul] at this; omega
  have hwr : IntKind.i64.wrap ((W : Int) * (H : Int)) = ((W * H : Nat) : Int) := by rw [← Int.natCast_mul]; exact IntWalk.i64_in _ (by omega)
  have hwr2 : wrap64 ((W : Int) * (H : Int)) = ((W * H : Nat) : Int) := by rw [← Int.natCast_mul]; exact Go.IntWalk.wrap64_in _ ⟨by omega, by omega⟩
  obtain ⟨row, hrow⟩ : ∃ row, (W + 7) / 8 = row := ⟨_, rfl⟩
  have hrl : row ≤ W := by omega
  have hn : row * H ≤ 1048576 := Nat.le_trans (Nat.mul_le_mul_right H hrl) htot
  have hrI : ((W : Int) + 7) / 8 = (row : Int) := by omega
  have hwn : IntKind.i64.wrap ((row : Int) * (H : Int)) = ((row * H : Nat) : Int) := by rw [← Int.natCast_mul]; exact IntWalk.i64_in _ (by omega)
  have hwn2 : wrap64 ((row : Int) * (H : Int)) = ((row * H : Nat) : Int) := by rw [← Int.natCast_mul]; exact Go.IntWalk.wrap64_in _ ⟨by omega, by omega⟩
  have hml : m.length = l.length - (i + 1) := by rw [← hm, List.length_drop]
  have hle := h.le
  have c0 := h.c0
  have c1 := h.c1
  have HK := Lib.hid h.k
  have HWI := Lib.hid h1
  have HR := Lib.hid h
  have HM := Lib.hid hM
  have HROW := Lib.hid hrow
  have HMD := Lib.hid hm
  obtain ⟨tot, ht⟩ : ∃ tot, W * H = tot := ⟨_, rfl⟩
  obtain ⟨nn, hnn⟩ : ∃ nn, row * H = nn := ⟨_, rfl⟩
  rw [ht] at hwr hwr2 htot
  rw [hnn] at hwn hwn2 hn
  rw [hrow, hnn] at hc
  have hnn1 : 1 ≤ nn := by rw [← hnn]; exact Nat.mul_pos (by omega) hH1
  have HT := Lib.hid ht
  have HNN := Lib.hid hnn
  have HNB := Lib.hid hn
  clear h hM hok hS hs h1 hrow hm ht hnn
  obtain ⟨b, off, rfl, hcap, hcells0⟩ : ∃ b off, a = some ⟨b, off, none⟩ ∧ l.length ≤ cap ∧ ∀ (j : Nat) (u : UInt8), l[j]? = some u → w.cell? ⟨b, off + j, none⟩ = some (.int .u8 (u.toNat : Int)) := by
    rcases HK.out with h0 | ⟨b, off, h1, h2, _, _, h5⟩
    · rw [h0] at hi; simp at hi
    · exact ⟨b, off, h1, h2, h5⟩
  have hbB := hab b off rfl
  have HCL : Hid (∀ w', Below B0 w w' → ∀ (j : Nat) (u : UInt8), m[j]? = some u → w'.cell? ⟨b, off + (i + 1) + j, none⟩ = some (.int .u8 (u.toNat : Int))) := fun w' hb j u hj => by
    have h5 := hcells0 (i + 1 + j) u (by rw [← HMD.out, List.getElem?_drop] at hj; exact hj)
    rw [← Nat.add_assoc] at h5
    exact (hb.cell (p := ⟨b, off + (i + 1) + j, none⟩) hbB).trans h5
  clear hcells0 hab
  obtain ⟨len, hlen⟩ : ∃ len, l.length = len := ⟨_, rfl⟩
  rw [hlen] at hi hl hml hle c0 hcap
  have HL := Lib.hid hlen
  clear hlen
  obtain ⟨ml, hmle⟩ : ∃ ml, m.length = ml := ⟨_, rfl⟩
  rw [hmle] at hml hc
  have HML := Lib.hid hmle
  clear hmle
  have hce : ¬ cap = i + 1 := far_cap (Nat.le_trans hnn1 (Nat.le_of_lt hc)) hml hcap
  go_enter Tryd.func32, Tryd.ntmps32
  go_upto_region 2 with (first
    | (go_at_call 45; refine (here45 r _ cap l i _ HR.out).mono ?_; rintro e w1 ⟨rfl, k, rfl⟩)
    | (go_at_call 47; refine (white47 _ _).mono ?_; rintro e w1 ⟨rfl, rfl⟩; rw [HWI.out]))
  go_region
  rw [← hml]
  obtain ⟨cb, hcb⟩ : ∃ cb, cap - (i + 1) = cb := ⟨_, rfl⟩
  try rw [hcb]
  have HR1 := Lib.hid (HR.out.drewN (k + 1))
  have HM1 := Lib.hid (HM.out.drewN (k + 1))
  have HB1 := Lib.hid (below_drewN (Below.refl B0 w) (k + 1))
  have hw1 : B0 ≤ (w.drewN (k + 1)).heap.size := hB0
  generalize w.drewN (k + 1) = w1 at *
  have hmlb : ml ≤ 100000000000000 := by rw [hml]; exact Nat.le_trans (Nat.sub_le _ _) hl
  clear HR HM c0 c1 hcb HK hcap hml hce hi hle hl hrl hn hnn1 hH1
  have hcI2 : (nn : Int) < (ml : Int) := Int.ofNat_lt.2 hc
  have hcI : ¬ (ml : Int) < (nn : Int) := Int.not_lt.2 (Int.le_of_lt hcI2)
  go_wp2_with fail
  exact ⟨rfl, rfl, HB1.out⟩

set_option maxHeartbeats 2000000 in
set_option maxRecDepth 100000 in
theorem bytes32_just (B0 r g gw W H : Nat) (a : Option Addr) (cap : Nat) (l : List UInt8) (i : Nat) (w : World) (h : IsRd w r a cap l i) (hl : l.length ≤ 100000000000000) (hM : IsMapO w g gw W H (fun _ => 0)) (hS : okS W H)
    (hB0 : B0 ≤ w.heap.size) (hgw : B0 ≤ gw) (hab : ∀ b off, a = some ⟨b, off, none⟩ → b < B0)
    (hi : i < l.length) (h1 : isWI (hereV l i) = true) (m : List UInt8) (hm : l.drop (i + 1) = m) (hc : m.length = (W + 7) / 8 * H) :
    Calls Tryd.prog 32 #[.pointer (some ⟨r, 0, none⟩), .pointer (some ⟨g, 0, none⟩), .int .i64 W, .int .i64 H] w fun e w' => ReadsE e w' g gw W H (.inr (bitsP m W (W * H))) ∧ Below B0 w w' := by
  have hs := okS_le hS
  have hW : W ≤ 1048576 := by omega
  have hH : H ≤ 1048576 := by omega
  have hW1 : 1 ≤ W := by have := hS.1; omega
  have hH1 : 1 ≤ H := by have := hS.2.1; omega
  have hok : okB W H (H * wd W) (fun _ => 0) := ⟨hS, by simp, fun _ _ => Or.inr (by simp)⟩
  have htot : W * H ≤ 1048576 := by have := hS.2.2; rw [← Int.natCast_mul] at this; omega
  have hwr : IntKind.i64.wrap ((W : Int) * (H : Int)) = ((W * H : Nat) : Int) := by rw [← Int.natCast_mul]; exact IntWalk.i64_in _ (by omega)
  have hwr2 : wrap64 ((W : Int) * (H : Int)) = ((W * H : Nat) : Int) := by rw [← Int.natCast_mul]; exact Go.IntWalk.wrap64_in _ ⟨by omega, by omega⟩
  obtain ⟨row, hrow⟩ : ∃ row, (W + 7) / 8 = row := ⟨_, rfl⟩
  have hrl : row ≤ W := by omega
  have hn : row * H ≤ 1048576 := Nat.le_trans (Nat.mul_le_mul_right H hrl) htot
  have hrI : ((W : Int) + 7) / 8 = (row : Int) := by omega
  have hwn : IntKind.i64.wrap ((row : Int) * (H : Int)) = ((row * H : Nat) : Int) := by rw [← Int.natCast_mul]; exact IntWalk.i64_in _ (by omega)
  have hwn2 : wrap64 ((row : Int) * (H : Int)) = ((row * H : Nat) : Int) := by rw [← Int.natCast_mul]; exact Go.IntWalk.wrap64_in _ ⟨by omega, by omega⟩
  have hml : m.length = l.length - (i + 1) := by rw [← hm, List.length_drop]
  have hle := h.le
  have c0 := h.c0
  have c1 := h.c1
  have HK := Lib.hid h.k
  have HWI := Lib.hid h1
  have HR := Lib.hid h
  have HM := Lib.hid hM
  have HP0 := Lib.hid (PixOk.white hok)
  have HROW := Lib.hid hrow
  have HMD := Lib.hid hm
  obtain ⟨tot, ht⟩ : ∃ tot, W * H = tot := ⟨_, rfl⟩
  obtain ⟨nn, hnn⟩ : ∃ nn, row * H = nn := ⟨_, rfl⟩
  rw [ht] at hwr hwr2 htot ⊢
  rw [hnn] at hwn hwn2 hn
  rw [hrow, hnn] at hc
  have hnn1 : 1 ≤ nn := by rw [← hnn]; exact Nat.mul_pos (by omega) hH1
  have HT := Lib.hid ht
  have HNN := Lib.hid hnn
  have HNB := Lib.hid hn
  clear h hM hok hS hs h1 hrow hm ht hnn
  obtain ⟨b, off, rfl, hcap, hcells0⟩ : ∃ b off, a = some ⟨b, off, none⟩ ∧ l.length ≤ cap ∧ ∀ (j : Nat) (u : UInt8), l[j]? = some u → w.cell? ⟨b, off + j, none⟩ = some (.int .u8 (u.toNat : Int)) := by
    rcases HK.out with h0 | ⟨b, off, h1, h2, _, _, h5⟩
    · rw [h0] at hi; simp at hi
    · exact ⟨b, off, h1, h2, h5⟩
  have hbB := hab b off rfl
  have HCL : Hid (∀ w', Below B0 w w' → ∀ (j : Nat) (u : UInt8), m[j]? = some u → w'.cell? ⟨b, off + (i + 1) + j, none⟩ = some (.int .u8 (u.toNat : Int))) := fun w' hb j u hj => by
    have h5 := hcells0 (i + 1 + j) u (by rw [← HMD.out, List.getElem?_drop] at hj; exact hj)
    rw [← Nat.add_assoc] at h5
    exact (hb.cell (p := ⟨b, off + (i + 1) + j, none⟩) hbB).trans h5
  clear hcells0 hab
  obtain ⟨len, hlen⟩ : ∃ len, l.length = len := ⟨_, rfl⟩
  rw [hlen] at hi hl hml hle c0 hcap
  have HL := Lib.hid hlen
  clear hlen
  obtain ⟨ml, hmle⟩ : ∃ ml, m.length = ml := ⟨_, rfl⟩
  rw [hmle] at hml hc
  have HML := Lib.hid hmle
  clear hmle
  subst hc
  have hce : ¬ cap = i + 1 := far_cap hnn1 hml hcap
  go_enter Tryd.func32, Tryd.ntmps32
  go_upto_region 2 with (first
    | (go_at_call 45; refine (here45 r _ cap l i _ HR.out).mono ?_; rintro e w1 ⟨rfl, k, rfl⟩)
    | (go_at_call 47; refine (white47 _ _).mono ?_; rintro e w1 ⟨rfl, rfl⟩; rw [HWI.out]))
  go_region
  rw [← hml]
  obtain ⟨cb, hcb⟩ : ∃ cb, cap - (i + 1) = cb := ⟨_, rfl⟩
  try rw [hcb]
  have HR1 := Lib.hid (HR.out.drewN (k + 1))
  have HM1 := Lib.hid (HM.out.drewN (k + 1))
  have HB1 := Lib.hid (below_drewN (Below.refl B0 w) (k + 1))
  have hw1 : B0 ≤ (w.drewN (k + 1)).heap.size := hB0
  generalize w.drewN (k + 1) = w1 at *
  have hmlb : ml ≤ 100000000000000 := by rw [hml]; exact Nat.le_trans (Nat.sub_le _ _) hl
  clear HR HM c0 c1 hcb HK hcap hml hce hi hle hl hrl hn hnn1 hH1
  go_wp2_with fail
  go_loopw [11, 12, 13, 53] (fun _ _ _ n wr => ∃ (q : Nat) (C : Nat → Nat), n = .int .i64 q ∧ q ≤ tot ∧ Hid (IsMapO wr g gw W H C) ∧ Hid (PixOk W H (H * wd W) (bitsP m W q) C) ∧ Hid (Below B0 w wr)) (fun _ _ _ n _ => tot - (intOf n).toNat)
  case atStart => exact ⟨0, fun _ => 0, rfl, Nat.zero_le _, HM1, HP0, HB1⟩
  case round =>
    clear HR1 HM1 HB1 HP0
    obtain ⟨q, C, rfl, hq, hmo, hp, hb⟩ := hrel
    by_cases hlt : q < tot
    · have hltI : (q : Int) < (tot : Int) := Int.ofNat_lt.2 hlt
      obtain ⟨xx, yy, yr, x8, r8, e, hxy, hxl, hyl, hidx, hW00, hW0, htm, htd, hwx, hwy, hmu, hmu2, h8, h8m, h7e, h7w, hidxI, hidxw, he7, hx8w⟩ := pix_facts hW1 hW HROW.out HNN.out HNB.out HT.out hlt
      have HXY := Lib.hid hxy
      obtain ⟨u, hu⟩ : ∃ u, m[yr + x8]? = some u := ⟨_, List.getElem?_eq_getElem (by rw [HML.out]; exact hidx)⟩
      have HU := Lib.hid hu
      have d0 := HCL.out wr hb.out _ u hu
      clear hxy hu hidx
      have HBP : Hid (bitsP m W (q + 1) = bitsP m W q ++ [decide (u.toNat / 2 ^ e % 2 = 1)]) := by
        have h5 := HXY.out
        have h6 := HROW.out
        have h7 := HU.out
        show _ = _
        rw [bitsP_step]
        unfold bitP
        rw [h5.1, h5.2.1, h6, h5.2.2.1, h5.2.2.2.1, h5.2.2.2.2.1, h5.2.2.2.2.2, List.getD_eq_getElem?_getD, h7]
        rfl
      have hab8 := and_bit8 u.toNat e u.toNat_lt
      have HLT := Lib.hid hlt
      have HALL : Hid (B0 ≤ w.heap.size ∧ B0 ≤ gw ∧ xx < W ∧ yy < H ∧ W ≤ 1048576 ∧ H ≤ 1048576) := ⟨hB0, hgw, hxl, hyl, hW, hH⟩
      clear hB0 hgw hbB hw1 hq hlt hxl hyl hW hH hW1 hmlb
      by_cases hbit : u.toNat / 2 ^ e % 2 = 1
      · rw [decide_eq_true hbit] at hab8
        have HBIT := Lib.hid hbit
        clear hbit
        go_upto_region 12 with fail
        go_region
        clear htm htd hwx hwy hW0 hW00 hwr hwr2 hwn hwn2
        have hmlI : (ml : Int) ≤ 1048576 := by have := HNB.out; omega
        clear hidxw hx8w
        go_upto_region 14 with fail
        clear hab8 h8 h8m h7e h7w hidxI hmu hmu2 he7 hrI d0 hmlI
        go_wp2_with fail
        refine (set48 g gw W H C xx yy _ HALL.out.2.2.2.2.1 HALL.out.2.2.2.2.2 ?_ HALL.out.2.2.1 HALL.out.2.2.2.1).mono ?_
        · exact hmo.out.drewN 1
        rintro e4 w4 ⟨rfl, h1, h2⟩
        have HM4 := Lib.hid h1
        have HG4 : Hid (wr.grownBy w4 (some gw)) := (grown_drewN wr 1 _).trans h2
        clear h1 h2
        have HB4 : Hid (Below B0 w w4) := Below.grown hb.out HG4.out (Nat.le_trans HALL.out.1 hb.out.size) (fun z hz => by cases hz; exact HALL.out.2.1)
        have HP4 : Hid (PixOk W H (H * wd W) (bitsP m W (q + 1)) (setB C W xx yy 1)) := by
          have h5 := hp.out.one (by rw [bitsP_len, HT.out]; exact HLT.out)
          rw [bitsP_len, HXY.out.1, HXY.out.2.1] at h5
          show PixOk ..
          rw [HBP.out, decide_eq_true HBIT.out]
          exact h5
        go_wp2_with fail
        go_roundw
        case rel => exact ⟨q + 1, setB C W xx yy 1, by go_num, Nat.succ_le_of_lt HLT.out, HM4, HP4, HB4⟩
        case measure => exact meas HLT.out
      · rw [decide_eq_false hbit] at hab8
        have HBIT := Lib.hid hbit
        clear hbit
        go_upto_region 12 with fail
        go_region
        clear htm htd hwx hwy hW0 hW00 hwr hwr2 hwn hwn2
        have hmlI : (ml : Int) ≤ 1048576 := by have := HNB.out; omega
        clear hidxw hx8w
        go_upto_region 15 with fail
        clear hab8 h8 h8m h7e h7w hidxI hmu hmu2 he7 hrI d0 hmlI
        go_wp2_with fail
        have HP4 : Hid (PixOk W H (H * wd W) (bitsP m W (q + 1)) C) := by
          show PixOk ..
          rw [HBP.out, decide_eq_false HBIT.out]
          exact hp.out.zero
        go_roundw
        case rel => exact ⟨q + 1, C, by go_num, Nat.succ_le_of_lt HLT.out, hmo.out.drewN 1, HP4, below_drewN hb.out 1⟩
        case measure => exact meas HLT.out
    · obtain rfl : q = tot := Nat.le_antisymm hq (Nat.le_of_not_lt hlt)
      go_wp2_with fail
      go_end0
      refine ⟨?_, hb.out⟩
      exact ⟨rfl, C, hmo.out, hp.out⟩
end Go.Proofs.YtgpjpmadbepblaaDoor
