/- Bitmaps: which may be: the reference's May and package bitmap's Check. Conditions: the bounds that each theorem names. -/
import Derived.Test.YtfniekdohidbiaaBm
import Derived.Laws.BitsAllLaws
namespace Go.Bm
/-- a word with no pixel beyond the row's end -/
def clean (W v : Nat) : Prop := W % 64 = 0 ∨ v * 2 ^ (W % 64) % 18446744073709551616 = 0
/-- a bitmap that may be -/
def okB (W H : Int) (n : Nat) (B : Nat → Nat) : Prop := okS W H ∧ n = H.toNat * wd W.toNat ∧ ∀ y, y < H.toNat → clean W.toNat (B ((y + 1) * wd W.toNat - 1))
theorem mask_last : ∀ e, e < 64 → 18446744073709551615 - 18446744073709551615 * 2 ^ e % 18446744073709551616 = 2 ^ e - 1 := by decide
theorem lastW_and (W v : Nat) : v &&& (18446744073709551615 - lastW W) = v % 2 ^ ((64 - W % 64) % 64) := by
  unfold lastW
  rw [mask_last _ (Nat.mod_lt _ (by omega)), Nat.and_two_pow_sub_one_eq_mod]
theorem lastW_lt (W : Nat) : lastW W < 18446744073709551616 := Nat.mod_lt _ (by omega)
theorem clean_iff (W v : Nat) : clean W v ↔ v % 2 ^ ((64 - W % 64) % 64) = 0 := by
  unfold clean
  have hr : W % 64 < 64 := Nat.mod_lt _ (by omega)
  generalize W % 64 = r at *
  by_cases h : r = 0
  · subst h; simp [Nat.mod_one]
  · have e1 : (64 - r) % 64 = 64 - r := Nat.mod_eq_of_lt (by omega)
    have e2 : (18446744073709551616 : Nat) = 2 ^ (64 - r) * 2 ^ r := by rw [← Nat.pow_add, show 64 - r + r = 64 by omega]
    rw [e1, e2, Nat.mul_mod_mul_right]
    have hp := Nat.two_pow_pos r
    constructor
    · rintro (g | g)
      · exact absurd g h
      · rcases Nat.mul_eq_zero.1 g with g | g <;> omega
    · intro g; right; rw [g, Nat.zero_mul]
end Go.Bm
namespace Go.Proofs.Ytfniekdohidbiaa
open Go.RowKit Go.Bm

theorem wrap_u64 (v : Nat) : IntKind.u64.wrap (v : Int) = ((v % 18446744073709551616 : Nat) : Int) := by
  have hs : IntKind.u64.signed = false := rfl
  have hb : IntKind.u64.bits = 64 := rfl
  unfold IntKind.wrap
  simp [hs, hb]
theorem shl_u64 (v e : Nat) : IntKind.u64.wrap ((v : Int) * 2 ^ e) = ((v * 2 ^ e % 18446744073709551616 : Nat) : Int) := by
  rw [← wrap_u64]; simp
theorem boxed (w : World) (v : Array Value) (t : TypeId) (n : Nat) : Below w.heap.size w ((w.alloc (.cells v t)).drewN n) := below_drewN ((Below.refl _ _).alloc (Nat.le_refl _) _) _

set_option maxHeartbeats 2000000 in
theorem may0 (W H : Int) (a : Option Addr) (n cap : Nat) (B : Nat → Nat) (b : Bool) (w : World) (hB : IsWords w a n cap B) (hb : b = true ↔ okB W H n B) :
    Calls Try.prog 29 #[.agg #[.int .i64 W, .int .i64 H, .slice a n cap]] w fun e w' => e = .returned (.bool b) ∧ Below w.heap.size w w' := by
  by_cases hs : okS W H
  · obtain ⟨h1, h2, h3⟩ := hs
    obtain ⟨hle1, hle2⟩ := okS_le ⟨h1, h2, h3⟩
    obtain ⟨W, rfl⟩ : ∃ i : Nat, W = i := ⟨W.toNat, by omega⟩
    obtain ⟨H, rfl⟩ : ∃ i : Nat, H = i := ⟨H.toNat, by omega⟩
    have hz : true = decide (okS (W : Int) (H : Int)) := (decide_eq_true (show okS W H from ⟨h1, h2, h3⟩)).symm
    have hww := wd_le (W := W) (by omega)
    have hHw : H * wd W ≤ 1048576 * 16384 := Nat.mul_le_mul (by omega) hww
    have hHw2 : (H : Int) * (wd W : Int) = ((H * wd W : Nat) : Int) := (Int.natCast_mul _ _).symm
    have hwr : IntKind.i64.wrap ((H : Int) * (wd W : Int)) = (H : Int) * (wd W : Int) := IntWalk.i64_in _ (by omega)
    by_cases hn : n = H * wd W
    · subst hn
      clear hHw2
      have HZ := Lib.hid hz
      have HB := Lib.hid hb
      clear hb h3 hz
      by_cases hm : W % 64 = 0
      · have hbt : b = true := HB.out.2 ⟨⟨h1, h2, by simpa using of_decide_eq_true HZ.out.symm |>.2.2⟩, by simp, fun y hy => Or.inl (by simpa using hm)⟩
        subst hbt
        have hm2 : ((W : Int) % 64 == 0) = true := by simp; omega
        clear HB hB hm
        go_enter Try.func29, Try.ntmps29
        go_wp2
        go_quiet ((first | (go_at_call 44; exact quiet0 (zsize _ _ _ HZ.out _)) | (go_at_call 43; exact quiet0 (words0 _ _ (by omega)))))
        go_wp2
        go_ret
        exact ⟨rfl, boxed _ _ _ _⟩
      · have hm2 : ((W : Int) % 64 == 0) = false := by simp; omega
        have hwp : 1 ≤ wd W := by unfold wd; omega
        have hHp : 1 * 1 ≤ H * wd W := Nat.mul_le_mul (by omega) hwp
        rcases hB with h0 | ⟨bb, off, rfl, hnc, hcap, hbs, hcell⟩
        · omega
        · have HM := Lib.hid hm
          clear hm
          go_enter Try.func29, Try.ntmps29
          go_wp2
          go_quiet ((first | (go_at_call 44; exact quiet0 (zsize _ _ _ HZ.out _)) | (go_at_call 43; exact quiet0 (words0 _ _ (by omega)))))
          go_wp2
          obtain ⟨w1, hw1⟩ : ∃ w1, w.alloc (.cells #[.int .i64 (W : Int), .int .i64 (H : Int), .slice (some ⟨bb, off, none⟩) (H * wd W) cap] 48) = w1 := ⟨_, rfl⟩
          have hbel : Below w.heap.size w w1 := by rw [← hw1]; exact (Below.refl _ _).alloc (Nat.le_refl _) _
          have g0 : w1.cell? ⟨w.heap.size, 0, none⟩ = some (.int .i64 (W : Int)) := by rw [← hw1, World.cell?_alloc_at _ _ _ _ rfl]; rfl
          have g1 : w1.cell? ⟨w.heap.size, 1, none⟩ = some (.int .i64 (H : Int)) := by rw [← hw1, World.cell?_alloc_at _ _ _ _ rfl]; rfl
          have g2 : w1.cell? ⟨w.heap.size, 2, none⟩ = some (.slice (some ⟨bb, off, none⟩) (H * wd W) cap) := by rw [← hw1, World.cell?_alloc_at _ _ _ _ rfl]; rfl
          have HC : Hid (∀ i, i < H * wd W → w1.cell? ⟨bb, off + i, none⟩ = some (.int .u64 (B i : Nat)) ∧ B i < 2 ^ 64) := fun i hi => ⟨(hbel.cell (p := ⟨bb, off + i, none⟩) hbs).trans (hcell i hi).1, (hcell i hi).2⟩
          have HBel := Lib.hid hbel
          clear hcell hbs hbel
          obtain ⟨W0, hW0⟩ : ∃ W0, w.heap.size = W0 := ⟨_, rfl⟩
          rw [hW0] at g0 g1 g2 ⊢
          rw [hw1]
          have HW1 := Lib.hid hw1
          have HW0 := Lib.hid hW0
          clear hw1 hW0
          go_loopw [3] (fun i wr => ∃ k : Nat, k ≤ H ∧ i = .int .i64 k ∧ (∀ y, y < k → clean W (B ((y + 1) * wd W - 1))) ∧ ∃ m, wr = w1.drewN m) (fun i _ => H - (intOf i).toNat)
          case atStart => exact ⟨0, Nat.zero_le _, rfl, fun y hy => by omega, nq, rfl⟩
          case round =>
            obtain ⟨k, hk, rfl, hcl, m, rfl⟩ := hrel
            have HCl := Lib.hid hcl
            clear hcl
            by_cases hlt : k < H
            · have hkw : (k + 1) * wd W ≤ H * wd W := Nat.mul_le_mul_right _ hlt
              have hkp : 1 * 1 ≤ (k + 1) * wd W := Nat.mul_le_mul (by omega) hwp
              obtain ⟨c1, b1⟩ := HC.out ((k + 1) * wd W - 1) (by omega)
              have z1 : ((k : Int) + 1) * (wd W : Int) ≤ (H : Int) * (wd W : Int) := Int.mul_le_mul_of_nonneg_right (by omega) (by omega)
              have z2 : (1 : Int) * 1 ≤ ((k : Int) + 1) * (wd W : Int) := Int.mul_le_mul (by omega) (by omega) (by omega) (by omega)
              have z3 : (H : Int) * (wd W : Int) ≤ 17179869184 := by rw [← Int.natCast_mul]; omega
              have z4 : IntKind.i64.wrap (((k : Int) + 1) * (wd W : Int)) = ((k : Int) + 1) * (wd W : Int) := IntWalk.i64_in _ (by omega)
              have z5 : IntKind.i64.wrap (((k : Int) + 1) * (wd W : Int) - 1) = ((k : Int) + 1) * (wd W : Int) - 1 := IntWalk.i64_in _ (by omega)
              have z6 : (((k : Int) + 1) * (wd W : Int) - 1).toNat = (k + 1) * wd W - 1 := by
                have : ((k : Int) + 1) * (wd W : Int) = (((k + 1) * wd W : Nat) : Int) := by rw [Int.natCast_mul]; rfl
                rw [this]; omega
              have hsh := shl_u64 (B ((k + 1) * wd W - 1)) (W % 64)
              by_cases hc : B ((k + 1) * wd W - 1) * 2 ^ (W % 64) % 18446744073709551616 = 0
              · have e2 : (IntKind.u64.wrap ((B ((k + 1) * wd W - 1) : Int) * 2 ^ (W % 64)) != 0) = false := by rw [hsh, hc]; rfl
                clear hsh
                have HD := Lib.hid hc
                clear hc
                go_wp2
                go_quiet ((go_at_call 43; first | exact quiet0 (words0 _ _ (by omega)) | exact quietL (words0 _ _ (by omega)) | exact quietM (words0 _ _ (by omega))))
                go_wp2
                go_roundw
                case rel => exact ⟨k + 1, by omega, by go_num, fun y hy => by
                  by_cases e : y = k
                  · subst e; exact Or.inr HD.out
                  · exact HCl.out y (by omega), _, rfl⟩
                case measure => simp [intOf]; omega
              · have e2 : (IntKind.u64.wrap ((B ((k + 1) * wd W - 1) : Int) * 2 ^ (W % 64)) != 0) = true := by
                  rw [hsh]
                  generalize B ((k + 1) * wd W - 1) * 2 ^ (W % 64) % 18446744073709551616 = v at *
                  simp; omega
                have hbf : b = false := by
                  cases b
                  · rfl
                  · rcases (HB.out.1 rfl).2.2 k (by simpa using hlt) with g | g
                    · exact absurd (by simpa using g) HM.out
                    · exact absurd (by simpa using g) hc
                subst hbf
                clear hsh hc
                go_wp2
                go_quiet ((go_at_call 43; first | exact quiet0 (words0 _ _ (by omega)) | exact quietL (words0 _ _ (by omega)) | exact quietM (words0 _ _ (by omega))))
                go_wp2
                go_ret
                exact ⟨rfl, below_drewN (below_drewN HBel.out _) _⟩
            · obtain rfl : k = H := by omega
              have hbt : b = true := HB.out.2 ⟨⟨h1, h2, by simpa using of_decide_eq_true HZ.out.symm |>.2.2⟩, by simp, fun y hy => by simpa using HCl.out y (by simpa using hy)⟩
              subst hbt
              go_wp2
              go_ret
              exact ⟨rfl, below_drewN HBel.out _⟩
    · have e1 : ((n : Int) != (H : Int) * (wd W : Int)) = true := by rw [hHw2]; simp; omega
      have hbf : b = false := by
        cases b
        · rfl
        · exact absurd (hb.1 rfl).2.1 (by simpa using hn)
      subst hbf
      have HZ := Lib.hid hz
      clear hb hB h3 hz hHw2
      go_enter Try.func29, Try.ntmps29
      go_wp2
      go_quiet ((first | (go_at_call 44; exact quiet0 (zsize _ _ _ HZ.out _)) | (go_at_call 43; exact quiet0 (words0 _ _ (by omega)))))
      go_wp2
      go_ret
      exact ⟨rfl, boxed _ _ _ _⟩
  · have hbf : b = false := by
      cases b
      · rfl
      · exact absurd (hb.1 rfl).1 hs
    subst hbf
    have hz : false = decide (okS W H) := (decide_eq_false hs).symm
    have HZ := Lib.hid hz
    clear hz hb hs hB
    go_enter Try.func29, Try.ntmps29
    go_wp2
    go_quiet ((first | (go_at_call 44; exact quiet0 (zsize _ _ _ HZ.out _)) | (go_at_call 43; exact quiet0 (words0 _ _ (by omega)))))
    go_wp2
    go_ret
    exact ⟨rfl, boxed _ _ _ _⟩

theorem andNot_u64 (W v : Nat) (hv : v < 2 ^ 64) : bits BinOp.andNot IntKind.u64 (v : Int) ((lastW W : Nat) : Int) = ((v % 2 ^ ((64 - W % 64) % 64) : Nat) : Int) := by
  rw [u64_andNot_nat _ _ hv (lastW_lt W), lastW_and]

set_option maxHeartbeats 2000000 in
/-- Check of package bitmap -/
theorem check0 (W H : Int) (a : Option Addr) (n cap : Nat) (B : Nat → Nat) (b : Bool) (w : World) (hB : IsWords w a n cap B) (hb : b = true ↔ okB W H n B) :
    Calls Try.prog 32 #[.agg #[.int .i64 W, .int .i64 H, .slice a n cap]] w fun e w' => e = .returned (.bool b) ∧ Below w.heap.size w w' := by
  by_cases hs : okS W H
  · obtain ⟨h1, h2, h3⟩ := hs
    obtain ⟨hle1, hle2⟩ := okS_le ⟨h1, h2, h3⟩
    obtain ⟨W, rfl⟩ : ∃ i : Nat, W = i := ⟨W.toNat, by omega⟩
    obtain ⟨H, rfl⟩ : ∃ i : Nat, H = i := ⟨H.toNat, by omega⟩
    have hz : true = decide (okS (W : Int) (H : Int)) := (decide_eq_true (show okS W H from ⟨h1, h2, h3⟩)).symm
    have hww := wd_le (W := W) (by omega)
    have hwd : ((W : Int) + 63) / 64 = (wd W : Int) := by unfold wd; omega
    have hHw : H * wd W ≤ 1048576 * 16384 := Nat.mul_le_mul (by omega) hww
    have hHw2 : (H : Int) * (wd W : Int) = ((H * wd W : Nat) : Int) := (Int.natCast_mul _ _).symm
    have hwr : IntKind.i64.wrap ((H : Int) * (wd W : Int)) = (H : Int) * (wd W : Int) := IntWalk.i64_in _ (by omega)
    have HZ := Lib.hid hz
    have HB := Lib.hid hb
    by_cases hn : n = H * wd W
    · subst hn
      clear hHw2 hb h3 hz
      have hwp : 1 ≤ wd W := by unfold wd; omega
      have hHp : 1 * 1 ≤ H * wd W := Nat.mul_le_mul (by omega) hwp
      rcases hB with h0 | ⟨bb, off, rfl, hnc, hcap, hbs, hcell⟩
      · omega
      · go_enter Try.func32, Try.ntmps32
        go_wp2_with (go_at_call 48; refine (sized0 _ _ _ HZ.out _).mono ?_; rintro e w' ⟨rfl, rfl⟩)
        obtain ⟨w1, hw1⟩ : ∃ w1, w.alloc (.cells #[.int .i64 (W : Int), .int .i64 (H : Int), .slice (some ⟨bb, off, none⟩) (H * wd W) cap] 48) = w1 := ⟨_, rfl⟩
        have hbel : Below w.heap.size w w1 := by rw [← hw1]; exact (Below.refl _ _).alloc (Nat.le_refl _) _
        have g0 : w1.cell? ⟨w.heap.size, 0, none⟩ = some (.int .i64 (W : Int)) := by rw [← hw1, World.cell?_alloc_at _ _ _ _ rfl]; rfl
        have g1 : w1.cell? ⟨w.heap.size, 1, none⟩ = some (.int .i64 (H : Int)) := by rw [← hw1, World.cell?_alloc_at _ _ _ _ rfl]; rfl
        have g2 : w1.cell? ⟨w.heap.size, 2, none⟩ = some (.slice (some ⟨bb, off, none⟩) (H * wd W) cap) := by rw [← hw1, World.cell?_alloc_at _ _ _ _ rfl]; rfl
        have HC : Hid (∀ i, i < H * wd W → w1.cell? ⟨bb, off + i, none⟩ = some (.int .u64 (B i : Nat)) ∧ B i < 2 ^ 64) := fun i hi => ⟨(hbel.cell (p := ⟨bb, off + i, none⟩) hbs).trans (hcell i hi).1, (hcell i hi).2⟩
        have HBel := Lib.hid hbel
        clear hcell hbs hbel
        obtain ⟨W0, hW0⟩ : ∃ W0, w.heap.size = W0 := ⟨_, rfl⟩
        rw [hW0] at g0 g1 g2 ⊢
        rw [hw1]
        clear hw1 hW0
        go_loopw [4, 25] (fun _ i wr => ∃ k : Nat, k ≤ H ∧ i = .int .i64 k ∧ (∀ y, y < k → clean W (B ((y + 1) * wd W - 1))) ∧ ∃ m, wr = w1.drewN m) (fun _ i _ => H - (intOf i).toNat)
        case atStart => exact ⟨0, Nat.zero_le _, rfl, fun y hy => by omega, 0, rfl⟩
        case round =>
          obtain ⟨k, hk, rfl, hcl, m, rfl⟩ := hrel
          have HCl := Lib.hid hcl
          clear hcl
          by_cases hlt : k < H
          · have hkw : (k + 1) * wd W ≤ H * wd W := Nat.mul_le_mul_right _ hlt
            have hkp : 1 * 1 ≤ (k + 1) * wd W := Nat.mul_le_mul (by omega) hwp
            have hke : (k + 1) * wd W = k * wd W + wd W := by rw [Nat.add_mul, Nat.one_mul]
            rw [hke] at hkw hkp
            obtain ⟨c1, b1⟩ := HC.out (k * wd W + wd W - 1) (by omega)
            have z0 : (k : Int) * (wd W : Int) = ((k * wd W : Nat) : Int) := (Int.natCast_mul _ _).symm
            have z1 : 0 ≤ (k : Int) * (wd W : Int) := by rw [z0]; omega
            have z2 : (k : Int) * (wd W : Int) + (wd W : Int) ≤ (H : Int) * (wd W : Int) := by rw [z0, ← Int.natCast_mul]; omega
            have z3 : (H : Int) * (wd W : Int) ≤ 17179869184 := by rw [← Int.natCast_mul]; omega
            have z4 : IntKind.i64.wrap ((k : Int) * (wd W : Int)) = (k : Int) * (wd W : Int) := IntWalk.i64_in _ (by omega)
            have z6 : ((k : Int) * (wd W : Int) + (wd W : Int) - 1).toNat = k * wd W + wd W - 1 := by rw [z0]; omega
            have z7 : (1 : Int) ≤ (wd W : Int) := by omega
            clear z0
            have hsh := andNot_u64 W _ b1
            have hci := clean_iff W (B (k * wd W + wd W - 1))
            by_cases hc : B (k * wd W + wd W - 1) % 2 ^ ((64 - W % 64) % 64) = 0
            · have e2 : (bits BinOp.andNot IntKind.u64 (B (k * wd W + wd W - 1) : Int) ((lastW W : Nat) : Int) != 0) = false := by rw [hsh, hc]; rfl
              have HD := Lib.hid (hci.2 hc)
              have HE := Lib.hid hke
              clear hsh hc hci hke
              go_wp2
              go_quiet ((go_at_call 49; first | exact quiet0 (last0 _ _ (by omega)) | exact quietL (last0 _ _ (by omega)) | exact quietM (last0 _ _ (by omega))))
              go_wp2
              go_roundw
              case rel => exact ⟨k + 1, by omega, by go_num, fun y hy => by
                by_cases e : y = k
                · subst e; rw [HE.out]; exact HD.out
                · exact HCl.out y (by omega), _, rfl⟩
              case measure => simp [intOf]; omega
            · have e2 : (bits BinOp.andNot IntKind.u64 (B (k * wd W + wd W - 1) : Int) ((lastW W : Nat) : Int) != 0) = true := by
                rw [hsh]
                generalize B (k * wd W + wd W - 1) % 2 ^ ((64 - W % 64) % 64) = v at *
                simp; omega
              have hbf : b = false := by
                cases b
                · rfl
                · have g := (HB.out.1 rfl).2.2 k (by simpa using hlt)
                  have e : (W : Int).toNat = W := by omega
                  rw [e, hke] at g
                  exact absurd (hci.1 g) hc
              subst hbf
              clear hsh hc hci hke
              go_wp2
              go_quiet ((go_at_call 49; first | exact quiet0 (last0 _ _ (by omega)) | exact quietL (last0 _ _ (by omega)) | exact quietM (last0 _ _ (by omega))))
              go_wp2
              go_ret
              exact ⟨rfl, by rw [World.drewN_drewN]; exact below_drewN HBel.out _⟩
          · obtain rfl : k = H := by omega
            have hbt : b = true := HB.out.2 ⟨⟨h1, h2, by simpa using of_decide_eq_true HZ.out.symm |>.2.2⟩, by simp, fun y hy => by simpa using HCl.out y (by simpa using hy)⟩
            subst hbt
            go_wp2
            go_ret
            exact ⟨rfl, below_drewN HBel.out _⟩
    · have e1 : ((n : Int) != (H : Int) * (wd W : Int)) = true := by rw [hHw2]; simp; omega
      have hbf : b = false := by
        cases b
        · rfl
        · exact absurd (hb.1 rfl).2.1 (by simpa using hn)
      subst hbf
      clear hb hB h3 hz hHw2 HB
      go_enter Try.func32, Try.ntmps32
      go_wp2_with (go_at_call 48; refine (sized0 _ _ _ HZ.out _).mono ?_; rintro e w' ⟨rfl, rfl⟩)
      go_ret
      exact ⟨rfl, (Below.refl _ _).alloc (Nat.le_refl _) _⟩
  · have hbf : b = false := by
      cases b
      · rfl
      · exact absurd (hb.1 rfl).1 hs
    subst hbf
    have hz : false = decide (okS W H) := (decide_eq_false hs).symm
    have HZ := Lib.hid hz
    clear hz hb hs hB
    go_enter Try.func32, Try.ntmps32
    go_wp2_with (go_at_call 48; refine (sized0 _ _ _ HZ.out _).mono ?_; rintro e w' ⟨rfl, rfl⟩)
    go_ret
    exact ⟨rfl, (Below.refl _ _).alloc (Nat.le_refl _) _⟩
end Go.Proofs.Ytfniekdohidbiaa
