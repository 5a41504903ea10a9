/- The reference's bytes of chapter 3: as many as there must be. Conditions: the bounds that each theorem names. -/
import Derived.Test.YtgpjpmadbepblaaDoorSo
namespace Go.Proofs.YtgpjpmadbepblaaDoor
open Go.RowKit Go.Bm Go.Pbm Go.Sort

theorem and_val8 (v e : Nat) (hv : v < 256) : bits BinOp.and IntKind.u8 ((v : Int) / 2 ^ e) 1 = ((v / 2 ^ e % 2 : Nat) : Int) := by
  have h : (v : Int) / 2 ^ e = ((v / 2 ^ e : Nat) : Int) := by rw [Int.natCast_ediv]; simp
  have l := Nat.div_le_self v (2 ^ e)
  rw [h]
  generalize v / 2 ^ e = u at *
  have h1 := u8_and_nat u 1 (by omega) (by decide)
  have h2 : ((1 : Nat) : Int) = 1 := rfl
  rw [h2, Nat.and_one_is_mod] at h1
  rw [h1]
theorem idx_facts {W H row nn x y i n : Nat} (hrow : (W + 7) / 8 = row) (hq : row * H = nn) (hnn : nn ≤ 1048576) (hx : x < W) (hy : y < H) (hW : W ≤ 1048576) (hn : n = i + 1 + nn) (hl : n ≤ 100000000000000) :
    ∃ yr j e : Nat, y * row = yr ∧ i + 1 + yr + x / 8 = j ∧ 7 - x % 8 = e ∧ e ≤ 7 ∧ yr + x / 8 < nn ∧ j < n ∧ IntKind.i64.wrap ((y : Int) * (row : Int)) = (yr : Int) ∧ IntKind.i64.wrap ((i : Int) + 1) = (i : Int) + 1 ∧ IntKind.i64.wrap ((i : Int) + 1 + (yr : Int)) = (i : Int) + 1 + (yr : Int) ∧
      IntKind.i64.wrap ((i : Int) + 1 + (yr : Int) + (x : Int) / 8) = (j : Int) ∧ (x : Int).tdiv 8 = (x : Int) / 8 ∧ IntKind.i64.wrap ((x : Int) / 8) = (x : Int) / 8 ∧ (x : Int).tmod 8 = (x : Int) % 8 ∧ IntKind.i64.wrap (7 - (x : Int) % 8) = (e : Int) ∧ IntKind.u64.wrap (e : Int) = (e : Int) ∧ min e 8 = e := by
  obtain ⟨yr, hyr⟩ : ∃ yr, y * row = yr := ⟨_, rfl⟩
  have h7 : yr + row ≤ nn := by
    have h := Nat.mul_le_mul_right row hy
    rw [Nat.succ_mul, Nat.mul_comm H row, hq, hyr] at h
    exact h
  have h8 : x / 8 < row := by omega
  refine ⟨yr, _, _, hyr, rfl, rfl, by omega, by omega, by omega, ?_, IntWalk.i64_in _ (by omega), IntWalk.i64_in _ (by omega), ?_, by rw [Int.tdiv_eq_ediv_of_nonneg (by omega)], IntWalk.i64_in _ (by omega), by rw [Int.tmod_eq_emod_of_nonneg (by omega)], ?_, ?_, by omega⟩
  · rw [← Int.natCast_mul, hyr]; exact IntWalk.i64_in _ (by omega)
  · rw [IntWalk.i64_in _ (by omega)]; omega
  · rw [IntWalk.i64_in _ (by omega)]; omega
  · rw [IntKind.wrap_u64]; omega

set_option maxHeartbeats 4000000 in
set_option maxRecDepth 100000 in
theorem rbytes36_just (b off cap : Nat) (l : List UInt8) (i W H : Nat) (w : World) (c : UInt8) (hc : l[i]? = some c) (hk : ∀ (u : Nat) (c : UInt8), l[u]? = some c → w.cell? ⟨b, off + u, none⟩ = some (.int .u8 (c.toNat : Int))) (h1 : isW c.toNat = true) (hl : l.length ≤ 100000000000000) (hS : okS W H)
    (hcode : (l.drop (i + 1)).length = (W + 7) / 8 * H) :
    Calls Tryd.prog 36 #[.slice (some ⟨b, off, none⟩) l.length cap, .int .i64 i, .int .i64 W, .int .i64 H] w (RdOutR w (.inr (W, H, bitsP (l.drop (i + 1)) W (W * H)))) := by
  have hi := (List.getElem?_eq_some_iff.1 hc).1
  have d0 := hk i c hc
  have HK := Lib.hid hk
  have hs := okS_le hS
  have hW : W ≤ 1048576 := by omega
  have hH : H ≤ 1048576 := by omega
  have htot : W * H ≤ 1048576 := by have := hS.2.2; rw [← Int.natCast_mul] at this; omega
  have hW1 : 1 ≤ W := by have := hS.1; omega
  have HP0 := Lib.hid (PixOk.white (W := W) (H := H) (n := H * wd W) ⟨hS, by simp, fun _ _ => Or.inr (by simp)⟩)
  have HNN : Hid (H * wd W ≤ 9223372036854775807) := by
    have h1 : H * wd W ≤ 1048576 * 16384 := Nat.mul_le_mul hH (wd_le hW)
    show _ ≤ _; omega
  rw [List.length_drop] at hcode
  obtain ⟨n, hn⟩ : ∃ n, l.length = n := ⟨_, rfl⟩
  rw [hn] at hi hl hcode ⊢
  have HN := Lib.hid hn
  obtain ⟨x, hx⟩ : ∃ x, c.toNat = x := ⟨_, rfl⟩
  rw [hx] at d0 h1
  have HW := Lib.hid h1
  obtain ⟨row, hrow⟩ : ∃ row, (W + 7) / 8 = row := ⟨_, rfl⟩
  rw [hrow] at hcode
  have hrI : ((W : Int) + 7) / 8 = (row : Int) := by omega
  have hrl : row ≤ W := by omega
  have hnn : row * H ≤ 1048576 := Nat.le_trans (Nat.mul_le_mul_right H hrl) htot
  obtain ⟨nn, hq⟩ : ∃ nn, row * H = nn := ⟨_, rfl⟩
  rw [hq] at hcode hnn
  have hiI : ¬ (n : Int) ≤ (i : Int) := by omega
  have hiI2 : (i : Int) < (n : Int) := by omega
  have HF : Hid ((W + 7) / 8 = row ∧ row * H = nn ∧ nn ≤ 1048576 ∧ n = i + 1 + nn ∧ n ≤ 100000000000000 ∧ W ≤ 1048576) := ⟨hrow, hq, hnn, by omega, hl, hW⟩
  have h2 : ¬ (n : Int) - (i : Int) - 1 < (nn : Int) := by omega
  have h3 : ¬ (nn : Int) < (n : Int) - (i : Int) - 1 := by omega
  have hmul : wrap64 ((row : Int) * (H : Int)) = (nn : Int) := by rw [← Int.natCast_mul, hq]; exact Go.IntWalk.wrap64_in _ ⟨by omega, by omega⟩
  clear hn hx hc h1 c hrow htot hS hs hq hrl hW1 hk hcode hnn
  have d1 := (((Below.refl w.heap.size w).alloc (Nat.le_refl _) (.cells #[.int .i64 0, .int .i64 0, .slice none 0 0] 25)).cell (p := ⟨b, off + i, none⟩) (World.block_lt_of_cell? w _ d0)).trans d0
  have HPP : Hid (w.heap.size + 1 = (w.alloc (.cells #[.int .i64 0, .int .i64 0, .slice none 0 0] 25)).heap.size) := by show _ = _; simp
  clear d0
  go_enter Tryd.func36, Tryd.ntmps36
  go_wp2_with (first
    | (go_at_call 51; refine (rwhite51 x true HW.out _).mono ?_; rintro e w2 ⟨rfl, rfl⟩)
    | (go_at_call 52; refine (white_at W H _ hW hH (w.heap.size + 1) HPP.out).mono ?_; rintro e w3 ⟨g, rfl, hown, hg, hb⟩; have HRW := Lib.hid (RW.new hb hown hg (by have h1 := hb.size; rw [← HPP.out] at h1; exact h1)); clear hown hg hb))
  obtain ⟨p, hp⟩ : ∃ p, w.heap.size = p := ⟨_, rfl⟩
  obtain ⟨q, hq⟩ : ∃ q, w3.heap.size = q := ⟨_, rfl⟩
  rw [hp, hq] at HRW
  rw [hp, hq]
  clear hp hq HPP hiI d1 h2 h3 hmul hrI hiI2
  generalize w3.alloc (.cells #[.int .i64 (W : Int), .int .i64 (H : Int), .slice (some ⟨g, 0, none⟩) (H * wd W) (H * wd W)] 25) = w4 at *
  clear w3
  go_loopw [12] (fun s wr => ∃ (y : Nat) (C : Nat → Nat), s = .int .i64 y ∧ y ≤ H ∧ Hid (RW w wr p q g W H C) ∧ Hid (PixOk W H (H * wd W) (bitsP (l.drop (i + 1)) W (y * W)) C)) (fun s _ => H - (intOf s).toNat)
  case atStart => exact ⟨0, fun _ => 0, rfl, Nat.zero_le _, HRW, by show PixOk _ _ _ _ _; rw [Nat.zero_mul]; exact HP0.out⟩
  case round =>
    clear HRW HP0
    obtain ⟨y, C, rfl, hy, hr, hpx⟩ := hrel
    by_cases hyH : y < H
    · have hyI : (y : Int) < (H : Int) := by omega
      go_wp2_with fail
      go_loopw [13] (fun s wr => ∃ (x : Nat) (C : Nat → Nat), s = .int .i64 x ∧ x ≤ W ∧ Hid (RW w wr p q g W H C) ∧ Hid (PixOk W H (H * wd W) (bitsP (l.drop (i + 1)) W (y * W + x)) C)) (fun s _ => W - (intOf s).toNat)
      case atStart => exact ⟨0, C, rfl, Nat.zero_le _, hr, hpx⟩
      case round =>
        clear hr hpx C
        obtain ⟨x, C, rfl, hx, hr, hpx⟩ := hrel
        by_cases hxW : x < W
        · have hxI : (x : Int) < (W : Int) := by omega
          go_upto_region 15 with fail
          obtain ⟨yr, j, e, hyr, hj, he, he7, hyx, hjn, hff⟩ := idx_facts HF.out.1 HF.out.2.1 HF.out.2.2.1 hxW hyH HF.out.2.2.2.2.2 HF.out.2.2.2.1 HF.out.2.2.2.2.1
          have HFF := Lib.hid hff
          clear hff
          obtain ⟨ch, hch⟩ : ∃ ch, l[j]? = some ch := ⟨_, List.getElem?_eq_getElem (by rw [HN.out]; exact hjn)⟩
          have HD0 := Lib.hid (HK.out j ch hch)
          have d0 := hr.out.old HD0.out
          obtain ⟨bit, hbit⟩ : ∃ bit, ch.toNat / 2 ^ e % 2 = bit := ⟨_, rfl⟩
          have hb1 : bit ≤ 1 := by rw [← hbit]; omega
          have hjI : (j : Int) < (n : Int) := by omega
          have hjI0 : (0 : Int) ≤ (j : Int) := by omega
          have HVAL : Hid (bits BinOp.and IntKind.u8 ((ch.toNat : Int) / 2 ^ e) 1 = (bit : Int) ∧ IntKind.i64.wrap (bit : Int) = (bit : Int)) := by
            refine ⟨?_, IntWalk.i64_in _ (by omega)⟩
            rw [and_val8 ch.toNat e ch.toNat_lt, hbit]
          have c0 := hr.out.cells.1
          have c1 := hr.out.cells.2.1
          have c2 := hr.out.cells.2.2
          have HSTEP : Hid (bitsP (l.drop (i + 1)) W (y * W + (x + 1)) = bitsP (l.drop (i + 1)) W (y * W + x) ++ [decide (bit = 1)]) := by
            show _ = _
            rw [← Nat.add_assoc, bitsP_step]
            unfold bitP
            have a1 : (y * W + x) / W = y := by rw [Nat.mul_comm, Nat.mul_add_div (by omega), Nat.div_eq_of_lt hxW, Nat.add_zero]
            have a2 : (y * W + x) % W = x := by rw [Nat.mul_comm, Nat.mul_add_mod, Nat.mod_eq_of_lt hxW]
            rw [a1, a2, HF.out.1, hyr, he, List.getD_eq_getElem?_getD, List.getElem?_drop, ← Nat.add_assoc, hj, hch]
            show _ ++ [decide (ch.toNat / 2 ^ e % 2 = 1)] = _
            rw [hbit]
          have HLEN : Hid ((bitsP (l.drop (i + 1)) W (y * W + x)).length = y * W + x) := bitsP_len _ _ _
          have HBIT : Hid (bit = if decide (bit = 1) = true then 1 else 0) := by
            show bit = _
            by_cases h : bit = 1
            · rw [if_pos (decide_eq_true h)]; exact h
            · rw [if_neg (by simpa using h)]; omega
          generalize ch.toNat = chv at *
          have hm8 : (x : Int) % 8 ≤ 7 := by omega
          have hm80 : 0 ≤ (x : Int) % 8 := by omega
          clear hbit hyr hj hyx hch he hjn
          obtain ⟨f1, f2, f3, f4, f5, f6, f7, f8, f9, f12⟩ := HFF.out
          obtain ⟨f10, f11⟩ := HVAL.out
          clear HFF HVAL
          go_region_held3 (fun w' => w'.cell? ⟨q, 0, none⟩ = some (.int .i64 (W : Int)) ∧ w'.cell? ⟨q, 1, none⟩ = some (.int .i64 (H : Int)) ∧ w'.cell? ⟨q, 2, none⟩ = some (.slice (some ⟨g, 0, none⟩) (H * wd W) (H * wd W)) ∧ w'.cell? ⟨b, off + j, none⟩ = some (.int .u8 (chv : Int))) (go_keep)
            ((first
              | (go_at_call 53; refine (put0 W H g (H * wd W) (H * wd W) C x y bit _ hW hH rfl ?_ hxW hyH hb1).mono ?_; exact hr.out.own; rintro e w5 ⟨rfl, hown5, hgr⟩; have HR5 := Lib.hid (hr.out.step ((grown_drewN wr _ (some g)).trans hgr) hown5); have c0 := HR5.out.cells.1; have c1 := HR5.out.cells.2.1; have c2 := HR5.out.cells.2.2; have d0 := HR5.out.old HD0.out; clear hown5 hgr)))
          clear f1 f2 f3 f4 f5 f6 f7 f8 f9 f12 f10 f11 hm8 hm80 hjI hjI0
          go_wp2_with fail
          go_roundw
          case rel => exact ⟨x + 1, setB C W x y bit, by go_num, by omega, HR5.out, by show PixOk _ _ _ _ _; rw [HSTEP.out]; exact PixOk.put hpx.out hxW HLEN.out HBIT.out⟩
          case measure => simp [intOf]; omega
        · have hxI : ¬ (x : Int) < (W : Int) := by omega
          have hyx : y * W + x = (y + 1) * W := by rw [Nat.add_mul, Nat.one_mul]; omega
          rw [hyx] at hpx
          clear hxW hyx
          go_wp2_with fail
          go_roundw
          case rel => exact ⟨y + 1, C, by go_num, by omega, hr, hpx⟩
          case measure => simp [intOf]; omega
    · obtain rfl : y = H := by omega
      clear hyH
      have f0 := Joins.cell_of_block hr.out.b0 0
      have f1 := Joins.cell_of_block hr.out.b0 1
      have f2 := Joins.cell_of_block hr.out.b0 2
      have y0 := Joins.unfrozen_of_block hr.out.b0 0
      have y1 := Joins.unfrozen_of_block hr.out.b0 1
      have y2 := Joins.unfrozen_of_block hr.out.b0 2
      have c0 := hr.out.cells.1
      have c1 := hr.out.cells.2.1
      have c2 := hr.out.cells.2.2
      go_wp2_with fail
      obtain ⟨t0, t1, t2, t3⟩ := hr.out.good (ps := bitsP (l.drop (i + 1)) W (W * y)) (by rw [Nat.mul_comm W y]; exact hpx.out)
      exact bodyPost_ret (v := .tuple #[.agg #[.int .i64 W, .int .i64 y, .slice (some ⟨g, 0, none⟩) (y * wd W) (y * wd W)], .int .i64 0]) (by simp [results, Tryd.results36, go_sem, t0, t1, t2]) rfl t3
end Go.Proofs.YtgpjpmadbepblaaDoor
