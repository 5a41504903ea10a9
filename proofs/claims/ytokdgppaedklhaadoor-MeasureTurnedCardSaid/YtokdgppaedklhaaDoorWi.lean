/- Unlike of the reference. Conditions: the bounds that each theorem names. -/
import Derived.Test.YtokdgppaedklhaaDoorWh
namespace Go.Proofs.YtokdgppaedklhaaDoor
open Go.RowKit Go.Bm Fl Go.FlW

theorem divinf (w : World) : Calls Tryd.prog 31 #[.int .i64 1, .int .i64 0] w fun e w' => e = .returned (.float .f64 9218868437227405312) ∧ ∃ k, w.drewN k = w' := by
  have h10 : D.div (fi 1) (fi 0) = some 9218868437227405312 := by decide
  refine (divide30 1 0 w (by unfold InR; omega) (by unfold InR; omega)).mono ?_
  rintro e w' ⟨r, rfl, hr, h⟩
  rw [h10] at hr
  obtain rfl : r = 9218868437227405312 := hr
  exact ⟨rfl, h⟩

set_option maxRecDepth 100000 in
set_option maxHeartbeats 2000000 in
theorem unlike16_far (W H : Int) (a : Option Addr) (n cap : Nat) (A : Nat → Nat) (W2 H2 : Int) (c : Option Addr) (m cap2 : Nat) (B : Nat → Nat) (w : World) (hA : IsWords w a n cap A) (hB : IsWords w c m cap2 B) (hne : ¬ (W = W2 ∧ H = H2)) :
    Calls Tryd.prog 16 #[.agg #[.int .i64 W, .int .i64 H, .slice a n cap], .agg #[.int .i64 W2, .int .i64 H2, .slice c m cap2]] w fun e w' => e = .returned (.float .f64 9218868437227405312) ∧ Below w.heap.size w w' := by
  have hi := TInv.new (W := W) (H := H) (W2 := W2) (H2 := H2) hA hB
  have HI := Lib.hid hi
  clear hA hB hi
  have HNE := Lib.hid hne
  clear hne
  go_enter Tryd.func16, Tryd.ntmps16
  go_upto_region 1 with fail
  obtain ⟨W0, hW0⟩ : ∃ W0, w.heap.size = W0 := ⟨_, rfl⟩
  have HI := Lib.hid (hW0 ▸ HI.out)
  rw [hW0]
  have HW0 := Lib.hid hW0
  clear hW0
  generalize (w.alloc (.cells #[.int .i64 W, .int .i64 H, .slice a n cap] 25)).alloc (.cells #[.int .i64 W2, .int .i64 H2, .slice c m cap2] 25) = w0 at *
  have c0 := HI.out.c0
  have c1 := HI.out.c1
  have d0 := HI.out.d0
  have d1 := HI.out.d1
  by_cases h1 : W = W2
  · have h2 : ¬ H = H2 := fun g => HNE.out ⟨h1, g⟩
    subst h1
    go_wp2_with (go_at_call 31; refine (divinf _).mono ?_; rintro e w3 ⟨rfl, k, rfl⟩)
    go_ret
    exact ⟨rfl, below_drewN (HI.out.bel.mono (Nat.le_of_eq HW0.out)) _⟩
  · go_wp2_with (go_at_call 31; refine (divinf _).mono ?_; rintro e w3 ⟨rfl, k, rfl⟩)
    go_ret
    exact ⟨rfl, below_drewN (HI.out.bel.mono (Nat.le_of_eq HW0.out)) _⟩

set_option maxRecDepth 100000 in
set_option maxHeartbeats 4000000 in
theorem unlike16 (W H : Nat) (a : Option Addr) (n cap : Nat) (A : Nat → Nat) (c : Option Addr) (cap2 : Nat) (B : Nat → Nat) (w : World) (hA : IsWords w a n cap A) (hB : IsWords w c n cap2 B) (ho : okB W H n A) (hn : n ≤ 10000) :
    Calls Tryd.prog 16 #[.agg #[.int .i64 (W : Int), .int .i64 (H : Int), .slice a n cap], .agg #[.int .i64 (W : Int), .int .i64 (H : Int), .slice c n cap2]] w fun e w' => ∃ r, e = .returned (.float .f64 r) ∧ Hid (IsQ (diffN W H A B) (W * H) r) ∧ Below w.heap.size w w' := by
  obtain ⟨e0, _, _, hw1, hh1, hhw⟩ := okB_area ho hn
  have hle : ∀ i j : Nat, (if px W H A (i : Int) (j : Int) = px W H B (i : Int) (j : Int) then 0 else 1) ≤ 1 := fun i j => by split <;> omega
  have HL : Hid (∀ y x, y < H → x ≤ W → psum (fun x y => if px W H A (x : Int) (y : Int) = px W H B (x : Int) (y : Int) then 0 else 1) W y x ≤ 640000) := fun y x hy hx => by
    have := psum_le (f := fun x y => if px W H A (x : Int) (y : Int) = px W H B (x : Int) (y : Int) then 0 else 1) (c := 1) (fun i j _ _ => hle i j) hy hx
    omega
  have HLE : Hid (diffN W H A B ≤ 9007199254740992) := by
    have : diffN W H A B ≤ H * (W * 1) := sumTo_le H fun j _ => sumTo_le W fun i _ => hle i j
    rw [Nat.mul_one] at this
    show _ ≤ _
    omega
  have HE : Hid (psum (fun x y => if px W H A (x : Int) (y : Int) = px W H B (x : Int) (y : Int) then 0 else 1) W H 0 = diffN W H A B) := rfl
  obtain ⟨dn, hdn⟩ : ∃ dn, diffN W H A B = dn := ⟨_, rfl⟩
  rw [hdn] at HLE HE ⊢
  clear hdn hle
  have hwr : wrap64 ((W : Int) * (H : Int)) = ((W * H : Nat) : Int) := wrap_mul 640000 (by rw [Nat.mul_comm]; exact hhw) (by decide)
  have R2 : Hid (W * H ≤ 9007199254740992) := by show _ ≤ _; rw [Nat.mul_comm]; omega
  have HWR := Lib.hid hwr
  have HW := Lib.hid (show W ≤ 1048576 by omega)
  have HH := Lib.hid (show H ≤ 1048576 by omega)
  have E0 := Lib.hid e0
  have hi := TInv.new (W := W) (H := H) (W2 := W) (H2 := H) hA hB
  have HI := Lib.hid hi
  clear hA hB hi ho hhw hw1 hh1 e0 hwr
  generalize W * H = p at *
  go_enter Tryd.func16, Tryd.ntmps16
  go_upto_region 1 with fail
  obtain ⟨W0, hW0⟩ : ∃ W0, w.heap.size = W0 := ⟨_, rfl⟩
  have HI := Lib.hid (hW0 ▸ HI.out)
  rw [hW0]
  have HW0 := Lib.hid hW0
  clear hW0
  generalize (w.alloc (.cells #[.int .i64 (W : Int), .int .i64 (H : Int), .slice a n cap] 25)).alloc (.cells #[.int .i64 (W : Int), .int .i64 (H : Int), .slice c n cap2] 25) = w0 at *
  have c0 := HI.out.c0
  have c1 := HI.out.c1
  have d0 := HI.out.d0
  have d1 := HI.out.d1
  go_wp2_with fail
  clear c0 c1 d0 d1
  go_loopw [5, 6, 7] (fun s yy _ wr => ∃ y : Nat, y ≤ H ∧ yy = .int .i64 y ∧ s = .int .i64 (psum (fun x y => if px W H A (x : Int) (y : Int) = px W H B (x : Int) (y : Int) then 0 else 1) W y 0 : Nat) ∧ Hid (TInv w W0 W H a n cap A W H c n cap2 B wr)) (fun _ yy _ _ => H - (intOf yy).toNat)
  case atStart => exact ⟨0, Nat.zero_le _, rfl, rfl, HI⟩
  case round =>
    obtain ⟨y, hy, rfl, rfl, hi⟩ := hrel
    have hyb : y ≤ 1048576 := by have := HH.out; omega
    by_cases hyl : y < H
    · have d1 := hi.out.d1
      go_wp2_with fail
      clear d1
      go_loopw [5, 7] (fun s xx wr => ∃ x : Nat, x ≤ W ∧ xx = .int .i64 x ∧ s = .int .i64 (psum (fun x y => if px W H A (x : Int) (y : Int) = px W H B (x : Int) (y : Int) then 0 else 1) W y x : Nat) ∧ Hid (TInv w W0 W H a n cap A W H c n cap2 B wr)) (fun _ xx _ => W - (intOf xx).toNat)
      case atStart => exact ⟨0, Nat.zero_le _, rfl, rfl, hi⟩
      case round =>
        obtain ⟨x, hx, rfl, rfl, hi⟩ := hrel
        have hxb : x ≤ 1048576 := by have := HW.out; omega
        by_cases hxl : x < W
        · have hl := HL.out y x hyl hx
          have hst := psum_step (fun x y => if px W H A (x : Int) (y : Int) = px W H B (x : Int) (y : Int) then 0 else 1) W y x
          generalize psum (fun x y => if px W H A (x : Int) (y : Int) = px W H B (x : Int) (y : Int) then 0 else 1) W y x = s at *
          have d0 := hi.out.d0
          go_upto_region 10 with fail
          clear d0
          have c0 := hi.out.c0
          have c1 := hi.out.c1
          have c2 := hi.out.c2
          have d0 := hi.out.d0
          have d1 := hi.out.d1
          have d2 := hi.out.d2
          have HST := Lib.hid hst
          have HL2 := Lib.hid hl
          clear hst hl
          go_region_held3 (fun w' => w'.cell? ⟨W0, 0, none⟩ = some (.int .i64 (W : Int)) ∧ w'.cell? ⟨W0, 1, none⟩ = some (.int .i64 (H : Int)) ∧ w'.cell? ⟨W0, 2, none⟩ = some (.slice a n cap) ∧ w'.cell? ⟨W0 + 1, 0, none⟩ = some (.int .i64 (W : Int)) ∧ w'.cell? ⟨W0 + 1, 1, none⟩ = some (.int .i64 (H : Int)) ∧ w'.cell? ⟨W0 + 1, 2, none⟩ = some (.slice c n cap2)) (go_keep)
            ((first
              | (go_at_call_of 32 a; refine (get_any W H a n cap A x y _ HW.out HH.out E0.out ?_).mono ?_; exact hi.out.ka; rintro e w1 ⟨rfl, hbel⟩; have hi := Lib.hid (TInv.stepd hi.out hbel); have c0 := hi.out.c0; have c1 := hi.out.c1; have c2 := hi.out.c2; have d0 := hi.out.d0; have d1 := hi.out.d1; have d2 := hi.out.d2; clear hbel)
              | (go_at_call_of 32 c; refine (get_any W H c n cap2 B x y _ HW.out HH.out E0.out ?_).mono ?_; exact hi.out.kb; rintro e w1 ⟨rfl, hbel⟩; have hi := Lib.hid (TInv.step hi.out hbel); have c0 := hi.out.c0; have c1 := hi.out.c1; have c2 := hi.out.c2; have d0 := hi.out.d0; have d1 := hi.out.d1; have d2 := hi.out.d2; clear hbel)))
          generalize px W H A (x : Int) (y : Int) = pa at *
          generalize px W H B (x : Int) (y : Int) = pb at *
          have hl := HL2.out
          by_cases he : pa = pb
          · subst he
            have hst := HST.out
            rw [if_pos rfl] at hst
            have HST2 := Lib.hid hst
            clear hst HST
            go_wp2_with fail
            go_roundw
            case rel => exact ⟨x + 1, by omega, by go_num, by rw [HST2.out]; rfl, hi⟩
            case measure => simp [intOf]; omega
          · have hst := HST.out
            rw [if_neg he] at hst
            have HST2 := Lib.hid hst
            clear hst HST
            have hne : ((pa : Int) != (pb : Int)) = true := by simp; omega
            have hne2 : ¬ (pa : Int) = (pb : Int) := by omega
            go_wp2_with fail
            go_roundw
            case rel => exact ⟨x + 1, by omega, by go_num, by rw [HST2.out]; simp, hi⟩
            case measure => simp [intOf]; omega
        · obtain rfl : x = W := by omega
          have d0 := hi.out.d0
          have HR := Lib.hid (psum_row (fun i j => if px x H A (i : Int) (j : Int) = px x H B (i : Int) (j : Int) then 0 else 1) x y)
          go_wp2_with fail
          go_roundw
          case rel => exact ⟨y + 1, by omega, by go_num, by rw [HR.out], hi⟩
          case measure => simp [intOf]; omega
    · obtain rfl : y = H := by omega
      have d0 := hi.out.d0
      have d1 := hi.out.d1
      rw [HE.out]
      have hwr := HWR.out
      clear HL HE
      go_wp2_with (go_at_call 31; refine (div31 dn p HLE.out R2.out _).mono ?_; rintro e w2 ⟨r, rfl, HR, k, rfl⟩)
      go_ret
      exact ⟨r, rfl, HR, below_drewN (hi.out.bel.mono (Nat.le_of_eq HW0.out)) _⟩
end Go.Proofs.YtokdgppaedklhaaDoor
