/- PbmBack walked. Conditions: the bounds that each theorem names. -/
import Derived.Test.YtgpjpmadbepblaaDoorTd
import Derived.Test.YtgpjpmadbepblaaDoorL4
namespace Go.Proofs.YtgpjpmadbepblaaDoor
open Go.RowKit Go.Bm Go.Pbm Go.Sort

theorem BI.wakes {w : World} {W0 : Nat} {W H : Int} {a : Option Addr} {n cap : Nat} {B : Nat → Nat} {W1 : World} (h : BI w W0 W H a n cap B W1) : Calls Tryd.prog 12 #[] W1 fun e w' => e = .returned (.bool true) ∧ Below w.heap.size w w' :=
  (wakes12 W1 h.t).mono fun _ _ ⟨h1, h2⟩ => ⟨h1, h.bel.trans (h2.mono h.bel.size)⟩

theorem isBytes_take {w : World} {a : Option Addr} {cap : Nat} {l : List UInt8} (h : IsBytes w a cap l) (k : Nat) : IsBytes w a cap (l.take k) := by
  rcases h with h | ⟨b, off, h1, h2, h3, h4, h5⟩
  · left; rw [h]; simp
  · refine Or.inr ⟨b, off, h1, ?_, h3, h4, fun i u hu => h5 i u ?_⟩
    · rw [List.length_take]; omega
    · rw [List.getElem?_take] at hu
      split at hu
      · exact hu
      · cases hu
theorem read14_bad (a : Option Addr) (n cap : Nat) (l : List UInt8) (code : Nat) (w : World) (hn : l.length = n) (hl : l.length ≤ 100000000000000) (hk : IsBytes w a cap l) (hX : readS l = .inl code) :
    Calls Tryd.prog 14 #[.slice a n cap] w fun e w' => e = .returned (.tuple #[.agg #[.int .i64 0, .int .i64 0, .slice none 0 0], .int .i64 (code : Int)]) ∧ Below w.heap.size w w' := by
  subst hn
  refine (read14 a cap l w hl hk).mono ?_
  intro e w' h
  rw [hX] at h
  exact ⟨h.2, h.1⟩
theorem append_below {w8 w9 w10 : World} {v : Value} {n : Nat} {xs : List Value} {o : Obj} (hb9 : Below w8.heap.size w8 w9) (ho9 : Owns w9 w8.heap.size 5 v n xs) (hg : (w9.alloc o).grownBy w10 v.ownBlock) : Below w8.heap.size w8 w10 :=
  Below.grown (hb9.alloc hb9.size o) hg (Nat.le_trans hb9.size (by simp)) (fun z hz => (ho9.lt z hz).1)
theorem BI.lt {w : World} {W0 : Nat} {W H : Int} {a : Option Addr} {n cap : Nat} {B : Nat → Nat} {W1 : World} (h : BI w W0 W H a n cap B W1) : W0 < W1.heap.size := World.block_lt_of_cell? W1 _ h.c0
/-- what is known of a bitmap's file of a kind -/
def FileOk (m : BM) (k : Nat) (f : List UInt8) (ps : List Bool) (h : Nat) : Prop :=
  wOut m.w m.h m.n m.L k = (f, 0) ∧ 7 ≤ f.length ∧ f.length ≤ 10000000 ∧ readS f = .inr (m.w.toNat, m.h.toNat, ps) ∧ PixOk m.w.toNat m.h.toNat (m.h.toNat * wd m.w.toNat) ps m.L ∧ readS (f ++ [49]) = .inl 33 ∧ readS (f.take (f.length - 2)) = .inl h ∧ m.n = m.h.toNat * wd m.w.toNat ∧ m.w = (m.w.toNat : Int) ∧ m.h = (m.h.toNat : Int)
theorem file_len_le (k W H : Nat) (B : Nat → Nat) (hS : okS W H) : (fileF k W H B).length ≤ 10000000 := by
  have hs := okS_le hS
  have htot : W * H ≤ 1048576 := by have := hS.2.2; rw [← Int.natCast_mul] at this; omega
  have h1 := rowsF_len k W H B H
  have h2 : H * (2 * W + 1) = 2 * (W * H) + H := by rw [Nat.mul_add, Nat.mul_one, Nat.mul_comm W H, Nat.mul_left_comm]
  have h3 := digits_le (u := W) (by omega)
  have h4 := digits_le (u := H) (by omega)
  unfold fileF
  rw [headF_eq]
  simp only [List.length_cons, List.length_append]
  omega
theorem file_ok {m : BM} (ho : okB m.w m.h m.n m.L) {k : Nat} (hk : k < 2) : ∃ f ps h, FileOk m k f ps h ∧ (h = 32 ∨ (k = 1 ∧ h = 30)) := by
  obtain ⟨e1, e2⟩ := okB_nat ho
  have hn := ho.2.1
  have ho2 := ho
  rw [e1, e2] at ho2
  rw [hn] at ho2
  rcases (show k = 0 ∨ k = 1 by omega) with rfl | rfl
  · obtain ⟨ps, h1, h2⟩ := text_read ho2
    obtain ⟨f, h3, h4⟩ := text_less ho2
    subst h3
    exact ⟨_, ps, 32, ⟨by unfold wOut; rw [if_pos (by rfl), if_pos ho], file_len _ _ _ _, file_len_le _ _ _ _ ho2.1, h1, h2, text_more ho2, h4, hn, e1, e2⟩, Or.inl rfl⟩
  · obtain ⟨ps, h1, h2⟩ := bytes_read ho2
    obtain ⟨f, h3, h4⟩ := bytes_less ho2
    subst h3
    rcases h4 with h4 | h4
    · exact ⟨_, ps, 32, ⟨by unfold wOut; rw [if_neg (by decide), if_pos (by rfl), if_pos ho], file_len _ _ _ _, file_len_le _ _ _ _ ho2.1, h1, h2, bytes_more ho2, h4, hn, e1, e2⟩, Or.inl rfl⟩
    · exact ⟨_, ps, 30, ⟨by unfold wOut; rw [if_neg (by decide), if_pos (by rfl), if_pos ho], file_len _ _ _ _, file_len_le _ _ _ _ ho2.1, h1, h2, bytes_more ho2, h4, hn, e1, e2⟩, Or.inr ⟨rfl, rfl⟩⟩

set_option maxHeartbeats 4000000 in
set_option maxRecDepth 100000 in
theorem back_walk (m : BM) (w : World) (hP : IsWords w m.a m.n m.c m.L) (_hno : m.a = none → m.n = 0 ∧ m.c = 0) (hT : PowW w) :
    Calls Tryd.prog 5 #[.agg #[.int .i64 m.w, .int .i64 m.h, .slice m.a m.n m.c]] w fun e w' => e = .returned (.bool true) ∧ Below w.heap.size w w' := by
  have HB := Lib.hid (BI.new (W := m.w) (H := m.h) hP hT)
  have HLT := Lib.hid hP.lt
  clear hP hT
  by_cases ho : okB m.w m.h m.n m.L
  · obtain ⟨e1, e2⟩ := okB_nat ho
    have hs := okS_le ho.1
    have hn : m.n ≤ 17179869184 := by
      have h1 : m.h.toNat * wd m.w.toNat ≤ 1048576 * 16384 := Nat.mul_le_mul (by omega) (wd_le (by omega))
      rw [ho.2.1]; omega
    by_cases hsm : 64 * (m.n : Int) + 64 ≤ 60000
    · have HO := Lib.hid ho
      have HS := Lib.hid hsm
      have HN := Lib.hid hn
      clear ho hsm hn e1 e2 hs
      go_enter Tryd.func5, Tryd.ntmps5
      go_upto_region 1 with fail
      obtain ⟨p, hp⟩ : ∃ p, w.heap.size = p := ⟨_, rfl⟩
      rw [hp] at HB ⊢
      have HPP := Lib.hid hp
      clear hp
      have c0 := HB.out.c0
      have c1 := HB.out.c1
      have c2 := HB.out.c2
      generalize w.alloc (.cells #[.int .i64 m.w, .int .i64 m.h, .slice m.a m.n m.c] 25) = w1 at *
      go_wp2_with (first
        | (go_at_call 18; refine (may0 m.w m.h m.a m.n m.c m.L true _ HB.out.k ⟨fun _ => HO.out, fun _ => rfl⟩).mono ?_; rintro e w2 ⟨rfl, hb2⟩; have HB2 := Lib.hid (HB.out.step hb2); clear hb2 c0 c1 c2; have c0 := HB2.out.c0; have c1 := HB2.out.c1; have c2 := HB2.out.c2)
        | (go_at_call 19; refine (small1 w2.heap.size m.n m.c m.a 60000 true _ HN.out (Joins.cell_of_block (heap_alloc_new w2 _) 2) (decide_eq_true HS.out).symm).mono ?_; rintro e w3 ⟨rfl, rfl⟩; have HB3 := Lib.hid (HB2.out.step (alloc_below w2 (.cells #[.int .i64 m.w, .int .i64 m.h, .slice m.a m.n m.c] 25)))))
      clear c0 c1 c2
      go_loopw [3] (fun v wr => ∃ k : Nat, v = .int .i64 k ∧ k ≤ 2 ∧ Hid (BI w p m.w m.h m.a m.n m.c m.L wr)) (fun v _ => 2 - (intOf v).toNat)
      case atStart => exact ⟨0, rfl, by omega, HB3⟩
      case round =>
        clear HB3
        obtain ⟨k, rfl, hk, hb⟩ := hrel
        have c0 := hb.out.c0
        have c1 := hb.out.c1
        have c2 := hb.out.c2
        by_cases hlt : k < 2
        · obtain ⟨f, ps, h, hf, hh⟩ := file_ok HO.out hlt
          have HF := Lib.hid hf
          have hltI : (k : Int) < 2 := by omega
          obtain ⟨n, hn⟩ : ∃ n, f.length = n := ⟨_, rfl⟩
          have h7 : 7 ≤ n := by rw [← hn]; exact hf.2.1
          have hnl : n ≤ 10000000 := by rw [← hn]; exact hf.2.2.1
          have h7I : ((n : Int) < 7) = False := by simp; omega
          have HFN := Lib.hid hn
          clear hf hn
          go_upto_region 7 with (go_at_call 8; refine (write8_any m.w m.h m.a m.n m.c m.L k _ hb.out.k hb.out.t).mono ?_; rw [HF.out.1]; rintro e w4 ⟨a4, cap4, rfl, hk4, ha4, hb4⟩; have HB4 := Lib.hid (hb.out.step hb4); have HK4 := Lib.hid hk4; clear hk4 ha4 hb4 c0 c1 c2)
          rw [HFN.out]
          obtain ⟨X, hX⟩ : ∃ X, (Sum.inr (m.w.toNat, m.h.toNat, ps) : Nat ⊕ (Nat × Nat × List Bool)) = X := ⟨_, rfl⟩
          have HX : Hid (readS f = X) := HF.out.2.2.2.1.trans hX
          have HXX := Lib.hid hX
          clear hX
          have c0 := HB4.out.c0
          have c1 := HB4.out.c1
          have c2 := HB4.out.c2
          go_upto_region 10 with (first
            | (go_at_call 20; refine (copy20 a4 n cap4 f _ HFN.out HK4.out (by omega) (by omega)).mono ?_; rintro e w5 ⟨a5, cap5, rfl, ho5, hk5, hb5⟩; have HB5 := Lib.hid (HB4.out.step hb5); have HK5 := Lib.hid hk5; have HK4b := Lib.hid (HK4.out.below hb5); clear ho5 hk5 hb5 c0 c1 c2 HB4)
            | (go_at_call 14; refine (read14_res a5 n cap5 f _ HFN.out (by rw [HFN.out]; omega) HK5.out).mono ?_; rw [HX.out]; rintro e w6 ⟨c6, cap6, C6, rfl, hk6, ho6, hc6, hb6⟩; have HB6 := Lib.hid (RBox.new (g := p) hk6 ho6 (fun x hx => Nat.lt_of_lt_of_le HB5.out.lt (hc6 x hx)) (Nat.lt_of_lt_of_le HB5.out.lt hb6.size)); have hall := alloc_below w6 (.cells #[.int .i64 (outW X : Int), .int .i64 (outH X : Int), .slice c6 (outN X) cap6] 25); have HB7 := Lib.hid ((HB5.out.step hb6).step hall); have HK4c := Lib.hid ((HK4b.out.below hb6).below hall); clear hk6 ho6 hc6 hb6 hall HB5 HK4b HK5 HK4))
          have hE : outE X = 0 := by rw [← HXX.out]; rfl
          have HEQ : Hid (m.w = (outW X : Int) ∧ m.h = (outH X : Int) ∧ eqL m.n (outN X) m.L C6) := by
            have h1 := HF.out
            have h2 := HB6.out.ok
            have h3 := HB6.out.k.lt
            rw [← HXX.out] at h2 h3 ⊢
            refine ⟨h1.2.2.2.2.2.2.2.2.1, h1.2.2.2.2.2.2.2.2.2, h1.2.2.2.2.2.2.2.1, fun i hi => ?_⟩
            rw [h1.2.2.2.2.2.2.2.1] at hi
            exact pix_ext h1.2.2.2.2.1 h2 (fun j hj => HLT.out j (by rw [h1.2.2.2.2.2.2.2.1]; exact hj)) h3 i hi
          rw [hE]
          clear hE
          obtain ⟨p6, hp6⟩ : ∃ p6, w6.heap.size = p6 := ⟨_, rfl⟩
          rw [hp6] at HB6 ⊢
          clear hp6
          generalize w6.alloc (.cells #[.int .i64 (outW X : Int), .int .i64 (outH X : Int), .slice c6 (outN X) cap6] 25) = w7 at *
          have c0 := HB7.out.c0
          have c1 := HB7.out.c1
          have c2 := HB7.out.c2
          have e0 := HB6.out.c0
          have e1 := HB6.out.c1
          have e2 := HB6.out.c2
          go_upto_region 12 with (go_at_call 17; refine (eqbitmap0 m.w m.h m.a m.n m.c m.L _ _ c6 _ cap6 C6 true _ HB7.out.k HB6.out.k ⟨fun _ => HEQ.out, fun _ => rfl⟩ (Nat.le_trans HN.out (by decide))).mono ?_; rintro e w8 ⟨rfl, hb8⟩; have HB8 := Lib.hid (HB7.out.step hb8); have HK8 := Lib.hid (HK4c.out.below hb8); clear hb8 c0 c1 c2 e0 e1 e2 HB7 HK4c HB6 HEQ)
          have hcells : ∀ (wx : World) (j : Nat) (u : Value), (bv [49])[j]? = some u → (wx.alloc (.cells #[.int .u8 49] 5)).cell? ((⟨wx.heap.size, 0, none⟩ : Addr).add j) = some u := fun wx => World.news_of_block (cs := #[.int .u8 49]) (t := 5) (fr := (0, 0)) (heap_alloc_new wx _)
          have HCELLS := Lib.hid hcells
          have HLA : Hid ((f ++ [49]).length = n + 1) := by show _ = _; rw [List.length_append, HFN.out]; rfl
          clear hcells
          obtain ⟨i0, hi, hz0, hz1, hz2⟩ := info_parts infoB
          go_upto_region 13 with (first
            | (go_at_call 20; refine (copy20 a4 n cap4 f _ HFN.out HK8.out (by omega) (by omega)).mono ?_; rintro e w9 ⟨a9, cap9, rfl, ho9, hk9, hb9⟩; have HO9 := Lib.hid ho9; have HBL9 := Lib.hid hb9; clear ho9 hk9 hb9)
            | (at_builtin; refine step_append _ rfl _ _ 27 rfl w8.heap.size 5 i0 (.int .u8 0) Tryd.underlying27 hi hz0 hz1 hz2 rfl _ _ _ rfl (HO9.out.alloc _) ⟨w9.heap.size, 0, none⟩ 1 1 (bv [49]) rfl rfl (HCELLS.out w9) (bv_one _) (by omega) (by have := HBL9.out.size; simp; omega) ?_; intro v10 w10 ho10 hg10; rw [← bv_append] at ho10; obtain ⟨a10, cap10, rfl, hk10⟩ := ho10.bytes; rw [HLA.out]; have HK10 := Lib.hid hk10; have HBL10 := Lib.hid (append_below HBL9.out HO9.out hg10); have HB10 := Lib.hid (HB8.out.step HBL10.out); have HK4d := Lib.hid (HK8.out.below HBL10.out); clear hk10 hg10 ho10 HB8 HK8 HO9 HBL9)
            | (go_at_call 14; refine (read14_bad a10 (n + 1) cap10 (f ++ [49]) 33 _ HLA.out (by rw [HLA.out]; omega) HK10.out HF.out.2.2.2.2.2.1).mono ?_; rintro e w11 ⟨rfl, hb11⟩; have HB11 := Lib.hid (HB10.out.step hb11); have HK11 := Lib.hid (HK4d.out.below hb11); clear hb11 HB10 HK4d HK10 HBL10))
          obtain ⟨n2, hn2⟩ : ∃ n2, n - 2 = n2 := ⟨_, rfl⟩
          have hn2I : (n : Int) - 2 = (n2 : Int) := by omega
          have hn20 : (0 : Int) ≤ (n2 : Int) := by omega
          have hn2l : (n2 : Int) ≤ (n : Int) := by omega
          have hn2c : 0 < n2 := by omega
          have hn2d : n2 ≤ 10000000 := by omega
          have HTK : Hid ((f.take n2).length = n2 ∧ readS (f.take n2) = .inl h) := by
            have h1 := HF.out.2.2.2.2.2.2.1
            rw [HFN.out, hn2] at h1
            exact ⟨by rw [List.length_take, HFN.out]; omega, h1⟩
          have hn2cap : n2 ≤ cap4 := by
            rcases HK11.out with h1 | ⟨b4, off4, _, h2, _⟩
            · have := HFN.out; rw [h1] at this; simp at this; omega
            · have := HFN.out; omega
          have hn2capI : (n2 : Int) ≤ (cap4 : Int) := by omega
          clear hn2 hnl h7
          go_upto_region 14 with (first
            | (go_at_call 20; refine (copy20 a4 n2 cap4 (f.take n2) _ HTK.out.1 (isBytes_take HK11.out n2) hn2c (Nat.le_trans hn2d (by decide))).mono ?_; rintro e w12 ⟨a12, cap12, rfl, ho12, hk12, hb12⟩; have HK12 := Lib.hid hk12; have HB12 := Lib.hid (HB11.out.step hb12); clear ho12 hk12 hb12)
            | (go_at_call 14; refine (read14_bad a12 n2 cap12 (f.take n2) h _ HTK.out.1 (by rw [HTK.out.1]; exact Nat.le_trans hn2d (by decide)) HK12.out HTK.out.2).mono ?_; rintro e w13 ⟨rfl, hb13⟩; have HB13 := Lib.hid (HB12.out.step hb13); clear hb13 HB12 HK12))
          clear hn2I hn20 hn2l hn2c hn2d hn2cap hn2capI
          have HB14 := Lib.hid (HB13.out.step (alloc_below _ (.cells #[.int .i64 0, .int .i64 0, .slice none 0 0] 25)))
          rcases hh with rfl | ⟨rfl, rfl⟩
          · go_wp2_with fail
            go_roundw
            case rel => exact ⟨k + 1, by go_num, by omega, HB14⟩
            case measure => simp [intOf]; omega
          · go_wp2_with fail
            go_roundw
            case rel => exact ⟨2, rfl, by omega, HB14⟩
            case measure => simp [intOf]
        · obtain rfl : k = 2 := by omega
          clear c0 c1 c2 hlt hk
          go_wp2_with (go_at_call 12; refine (hb.out.wakes).mono ?_; rintro e w4 ⟨rfl, hb4⟩; have HB4 := Lib.hid hb4; clear hb4)
          go_ret
          exact ⟨rfl, HB4.out⟩
    · have HO := Lib.hid ho
      have HS := Lib.hid hsm
      have HN := Lib.hid hn
      clear ho hsm hn e1 e2 hs
      go_enter Tryd.func5, Tryd.ntmps5
      go_upto_region 1 with fail
      obtain ⟨p, hp⟩ : ∃ p, w.heap.size = p := ⟨_, rfl⟩
      rw [hp] at HB ⊢
      have HPP := Lib.hid hp
      clear hp
      have c0 := HB.out.c0
      have c1 := HB.out.c1
      have c2 := HB.out.c2
      generalize w.alloc (.cells #[.int .i64 m.w, .int .i64 m.h, .slice m.a m.n m.c] 25) = w1 at *
      go_wp2_with (first
        | (go_at_call 18; refine (may0 m.w m.h m.a m.n m.c m.L true _ HB.out.k ⟨fun _ => HO.out, fun _ => rfl⟩).mono ?_; rintro e w2 ⟨rfl, hb2⟩; have HB2 := Lib.hid (HB.out.step hb2); clear hb2 c0 c1 c2; have c0 := HB2.out.c0; have c1 := HB2.out.c1; have c2 := HB2.out.c2)
        | (go_at_call 19; refine (small1 w2.heap.size m.n m.c m.a 60000 false _ HN.out (Joins.cell_of_block (heap_alloc_new w2 _) 2) (decide_eq_false (Int.not_le.2 HS.out)).symm).mono ?_; rintro e w3 ⟨rfl, rfl⟩; have HB3 := Lib.hid (HB2.out.step (alloc_below w2 (.cells #[.int .i64 m.w, .int .i64 m.h, .slice m.a m.n m.c] 25))))
        | (go_at_call 12; refine (HB3.out.wakes).mono ?_; rintro e w4 ⟨rfl, hb4⟩; have HB4 := Lib.hid hb4; clear hb4))
      go_ret
      exact ⟨rfl, HB4.out⟩
  · have HO := Lib.hid ho
    clear ho
    go_enter Tryd.func5, Tryd.ntmps5
    go_upto_region 1 with fail
    obtain ⟨p, hp⟩ : ∃ p, w.heap.size = p := ⟨_, rfl⟩
    rw [hp] at HB ⊢
    have HPP := Lib.hid hp
    clear hp
    have c0 := HB.out.c0
    have c1 := HB.out.c1
    have c2 := HB.out.c2
    generalize w.alloc (.cells #[.int .i64 m.w, .int .i64 m.h, .slice m.a m.n m.c] 25) = w1 at *
    go_wp2_with (first
      | (go_at_call 18; refine (may0 m.w m.h m.a m.n m.c m.L false _ HB.out.k ⟨fun h => (by cases h), fun h => absurd h HO.out⟩).mono ?_; rintro e w2 ⟨rfl, hb2⟩; have HB2 := Lib.hid (HB.out.step hb2); clear hb2)
      | (go_at_call 12; refine (HB2.out.wakes).mono ?_; rintro e w3 ⟨rfl, hb3⟩; have HB3 := Lib.hid hb3; clear hb3))
    go_ret
    exact ⟨rfl, HB3.out⟩
end Go.Proofs.YtgpjpmadbepblaaDoor
