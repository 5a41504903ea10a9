/- Density and Center of the reference. Conditions: the bounds that each theorem names. -/
import Derived.Test.YtokdgppaedklhaaDoorWc
namespace Go.Proofs.YtokdgppaedklhaaDoor
open Go.RowKit Go.Bm Fl Go.FlW

theorem BInv.stepd {w : World} {W0 : Nat} {W H : Int} {a : Option Addr} {n cap : Nat} {B : Nat → Nat} {W1 W2 : World} (h : BInv w W0 W H a n cap B W1) (hb : Below W1.heap.size W1.drew W2) : BInv w W0 W H a n cap B W2 :=
  h.step (Below.trans (Below.drew (Below.refl _ W1)) hb)
theorem wrap_add {s m : Nat} (a b : Nat) (h1 : s ≤ a) (h2 : m ≤ b) (h : a + b ≤ 9007199254740992) : wrap64 ((s : Int) + (m : Int)) = ((s + m : Nat) : Int) := by
  rw [← Int.natCast_add]; exact Go.IntWalk.wrap64_in _ ⟨by omega, by omega⟩
theorem wrap_mul {s m : Nat} (a : Nat) (h1 : s * m ≤ a) (h : a ≤ 9007199254740992) : wrap64 ((s : Int) * (m : Int)) = ((s * m : Nat) : Int) := by
  rw [← Int.natCast_mul]; exact Go.IntWalk.wrap64_in _ ⟨by omega, by omega⟩
theorem InR.of_nat {x : Nat} (h : x ≤ 9007199254740992) : InR (x : Int) := ⟨by omega, by omega⟩
/-- a quotient's bits, as a result: what it may be -/
def IsQ (n d : Nat) (r : Nat) : Prop := Res (D.div (fi (n : Int)) (fi (d : Int))) r

theorem div31 (n d : Nat) (hn : n ≤ 9007199254740992) (hd : d ≤ 9007199254740992) (w : World) : Calls Tryd.prog 31 #[.int .i64 (n : Int), .int .i64 (d : Int)] w fun e w' => ∃ r, e = .returned (.float .f64 r) ∧ Hid (IsQ n d r) ∧ ∃ k, w.drewN k = w' :=
  (divide30 n d w (InR.of_nat hn) (InR.of_nat hd)).mono fun _ _ ⟨r, h1, h2, h3⟩ => ⟨r, h1, h2, h3⟩
theorem count22' (W H : Nat) (a : Option Addr) (n cap : Nat) (B : Nat → Nat) (w : World) (bn : Nat) (hb : blackN W H B = bn) (hB : IsWords w a n cap B) (ho : okB W H n B) (hn : n ≤ 10000) :
    Calls Tryd.prog 22 #[.agg #[.int .i64 (W : Int), .int .i64 (H : Int), .slice a n cap]] w fun e w' => e = .returned (.int .i64 (bn : Nat)) ∧ Below w.heap.size w w' := hb ▸ count22 W H a n cap B w hB ho hn

set_option maxRecDepth 100000 in
set_option maxHeartbeats 4000000 in
theorem density14 (W H : Nat) (a : Option Addr) (n cap : Nat) (B : Nat → Nat) (w : World) (hB : IsWords w a n cap B) (ho : okB W H n B) (hn : n ≤ 10000) :
    Calls Tryd.prog 14 #[.agg #[.int .i64 (W : Int), .int .i64 (H : Int), .slice a n cap]] w fun e w' => ∃ r, e = .returned (.float .f64 r) ∧ IsQ (blackN W H B) (W * H) r ∧ Below w.heap.size w w' := by
  obtain ⟨e0, _, _, hw1, hh1, hhw⟩ := okB_area ho hn
  have hbl := black_le W H B
  have hwr : IntKind.i64.wrap ((W : Int) * (H : Int)) = ((W * H : Nat) : Int) := by
    rw [← Int.natCast_mul]; rw [Nat.mul_comm] at hhw; exact IntWalk.i64_in _ (by omega)
  have R1 : Hid (blackN W H B ≤ 9007199254740992) := by show _ ≤ _; omega
  have R2 : Hid (W * H ≤ 9007199254740992) := by show _ ≤ _; rw [Nat.mul_comm]; omega
  have HO := Lib.hid ho
  have hi := BInv.new (W := W) (H := H) hB
  have HI := Lib.hid hi
  have HN := Lib.hid hn
  clear hB ho hi hhw hw1 hh1 e0 hbl hn
  generalize W * H = p at *
  obtain ⟨bn, hbn⟩ : ∃ bn, blackN W H B = bn := ⟨_, rfl⟩
  rw [hbn] at R1 ⊢
  have HBN := Lib.hid hbn
  clear hbn
  go_enter Tryd.func14, Tryd.ntmps14
  go_upto_region 1 with fail
  obtain ⟨W0, hW0⟩ : ∃ W0, w.heap.size = W0 := ⟨_, rfl⟩
  have HI := Lib.hid (hW0 ▸ HI.out)
  rw [hW0]
  have HW0 := Lib.hid hW0
  clear hW0
  generalize w.alloc (.cells #[.int .i64 (W : Int), .int .i64 (H : Int), .slice a n cap] 25) = w0 at *
  have c0 := HI.out.c0
  have c1 := HI.out.c1
  have c2 := HI.out.c2
  go_region_held3 (fun w' => w'.cell? ⟨W0, 0, none⟩ = some (.int .i64 (W : Int)) ∧ w'.cell? ⟨W0, 1, none⟩ = some (.int .i64 (H : Int)) ∧ w'.cell? ⟨W0, 2, none⟩ = some (.slice a n cap)) (go_keep)
    ((first
      | (go_at_call 22; refine (count22' W H a n cap B _ bn HBN.out ?_ HO.out HN.out).mono ?_; exact HI.out.k; rintro e w1 ⟨rfl, hbel⟩; have HI1 := Lib.hid (HI.out.stepd hbel); have c0 := HI1.out.c0; have c1 := HI1.out.c1; have c2 := HI1.out.c2; clear hbel)
      | (go_at_call 31; refine (div31 bn p R1.out R2.out _).mono ?_; rintro e w2 ⟨r, rfl, HR, k, rfl⟩)))
  go_wp2_with fail
  go_ret
  exact ⟨r, rfl, HR.out, below_drewN (by rw [HW0.out]; exact HI1.out.bel) _⟩

set_option maxRecDepth 100000 in
set_option maxHeartbeats 4000000 in
theorem center12 (W H : Nat) (a : Option Addr) (n cap : Nat) (B : Nat → Nat) (w : World) (hB : IsWords w a n cap B) (ho : okB W H n B) (hn : n ≤ 10000) :
    Calls Tryd.prog 12 #[.agg #[.int .i64 (W : Int), .int .i64 (H : Int), .slice a n cap]] w fun e w' => ∃ r s, e = .returned (.tuple #[.float .f64 r, .float .f64 s]) ∧ IsQ (sumX W H B) (blackN W H B) r ∧ IsQ (sumY W H B) (blackN W H B) s ∧ Below w.heap.size w w' := by
  obtain ⟨e0, _, _, hw1, hh1, hhw⟩ := okB_area ho hn
  have hbl := black_le W H B
  have HLX : Hid (∀ y x, y < H → x ≤ W → psum (fun x y => x * px W H B (x : Int) (y : Int)) W y x ≤ 409600000000) := fun y x hy hx => by
    have := psum_le (f := fun x y => x * px W H B (x : Int) (y : Int)) (c := 640000) (fun i j hi _ => Nat.le_trans (Nat.mul_le_mul_left i (px_le W H B i j)) (by omega)) hy hx
    omega
  have HLY : Hid (∀ y x, y < H → x ≤ W → psum (fun x y => y * px W H B (x : Int) (y : Int)) W y x ≤ 6400000000) := fun y x hy hx => by
    have := psum_le (f := fun x y => y * px W H B (x : Int) (y : Int)) (c := 10000) (fun i j _ hj => Nat.le_trans (Nat.mul_le_mul_left j (px_le W H B i j)) (by omega)) hy hx
    omega
  have hex : sumX W H B = psum (fun x y => x * px W H B (x : Int) (y : Int)) W H 0 := rfl
  have hey : sumY W H B = psum (fun x y => y * px W H B (x : Int) (y : Int)) W H 0 := rfl
  have HLXE : Hid (psum (fun x y => x * px W H B (x : Int) (y : Int)) W H 0 ≤ 9007199254740992) := by
    have : psum (fun x y => x * px W H B (x : Int) (y : Int)) W H 0 ≤ H * (W * 640000) := sumTo_le H fun j hj => sumTo_le W fun i hi => Nat.le_trans (Nat.mul_le_mul_left i (px_le W H B i j)) (by omega)
    rw [← Nat.mul_assoc] at this
    show _ ≤ _
    omega
  have HLYE : Hid (psum (fun x y => y * px W H B (x : Int) (y : Int)) W H 0 ≤ 9007199254740992) := by
    have : psum (fun x y => y * px W H B (x : Int) (y : Int)) W H 0 ≤ H * (W * 10000) := sumTo_le H fun j hj => sumTo_le W fun i hi => Nat.le_trans (Nat.mul_le_mul_left j (px_le W H B i j)) (by omega)
    rw [← Nat.mul_assoc] at this
    show _ ≤ _
    omega
  have R1 : Hid (blackN W H B ≤ 9007199254740992) := by show _ ≤ _; omega
  have HW := Lib.hid (show W ≤ 640000 by omega)
  have HH := Lib.hid (show H ≤ 10000 by omega)
  have E0 := Lib.hid e0
  have HO := Lib.hid ho
  have hi := BInv.new (W := W) (H := H) hB
  have HI := Lib.hid hi
  have HN := Lib.hid hn
  have HW' := Lib.hid (show W ≤ 1048576 by omega)
  have HH' := Lib.hid (show H ≤ 1048576 by omega)
  obtain ⟨bn, hbn⟩ : ∃ bn, blackN W H B = bn := ⟨_, rfl⟩
  rw [hbn] at R1 ⊢
  rw [hex, hey]
  obtain ⟨sx, hsx⟩ : ∃ sx, psum (fun x y => x * px W H B (x : Int) (y : Int)) W H 0 = sx := ⟨_, rfl⟩
  obtain ⟨sy, hsy⟩ : ∃ sy, psum (fun x y => y * px W H B (x : Int) (y : Int)) W H 0 = sy := ⟨_, rfl⟩
  rw [hsx] at HLXE ⊢
  rw [hsy] at HLYE ⊢
  have HSX := Lib.hid hsx
  have HSY := Lib.hid hsy
  clear hsx hsy
  have HBN := Lib.hid hbn
  clear hB ho hi hhw hw1 hh1 e0 hbn hex hey hbl hn
  go_enter Tryd.func12, Tryd.ntmps12
  go_upto_region 1 with fail
  obtain ⟨W0, hW0⟩ : ∃ W0, w.heap.size = W0 := ⟨_, rfl⟩
  have HI := Lib.hid (hW0 ▸ HI.out)
  rw [hW0]
  have HW0 := Lib.hid hW0
  clear hW0
  generalize w.alloc (.cells #[.int .i64 (W : Int), .int .i64 (H : Int), .slice a n cap] 25) = w0 at *
  go_wp2_with fail
  go_loopw [4, 5, 6, 7] (fun s t yy _ wr => ∃ y : Nat, y ≤ H ∧ yy = .int .i64 y ∧ s = .int .i64 (psum (fun x y => x * px W H B (x : Int) (y : Int)) W y 0 : Nat) ∧ t = .int .i64 (psum (fun x y => y * px W H B (x : Int) (y : Int)) W y 0 : Nat) ∧ Hid (BInv w W0 W H a n cap B wr)) (fun _ _ yy _ _ => H - (intOf yy).toNat)
  case atStart => exact ⟨0, Nat.zero_le _, rfl, rfl, rfl, HI⟩
  case round =>
    obtain ⟨y, hy, rfl, rfl, rfl, hi⟩ := hrel
    have c1 := hi.out.c1
    have hyb : y ≤ 10000 := by have := HH.out; omega
    by_cases hyl : y < H
    · go_wp2_with fail
      clear c1
      go_loopw [4, 5, 7] (fun s t xx wr => ∃ x : Nat, x ≤ W ∧ xx = .int .i64 x ∧ s = .int .i64 (psum (fun x y => x * px W H B (x : Int) (y : Int)) W y x : Nat) ∧ t = .int .i64 (psum (fun x y => y * px W H B (x : Int) (y : Int)) W y x : Nat) ∧ Hid (BInv w W0 W H a n cap B wr)) (fun _ _ xx _ => W - (intOf xx).toNat)
      case atStart => exact ⟨0, Nat.zero_le _, rfl, rfl, rfl, hi⟩
      case round =>
        obtain ⟨x, hx, rfl, rfl, rfl, hi⟩ := hrel
        have hxb : x ≤ 640000 := by have := HW.out; omega
        have c0 := hi.out.c0
        have c1 := hi.out.c1
        have c2 := hi.out.c2
        by_cases hxl : x < W
        · have hl := HLX.out y x hyl hx
          have hl2 := HLY.out y x hyl hx
          have HST := Lib.hid (psum_step (fun x y => x * px W H B (x : Int) (y : Int)) W y x)
          have HST2 := Lib.hid (psum_step (fun x y => y * px W H B (x : Int) (y : Int)) W y x)
          have hp := px_le W H B x y
          generalize psum (fun x y => x * px W H B (x : Int) (y : Int)) W y x = s at *
          generalize psum (fun x y => y * px W H B (x : Int) (y : Int)) W y x = t at *
          have hm1 : x * px W H B (x : Int) (y : Int) ≤ 640000 := Nat.le_trans (Nat.mul_le_mul_left x hp) (by omega)
          have hm2 : y * px W H B (x : Int) (y : Int) ≤ 10000 := Nat.le_trans (Nat.mul_le_mul_left y hp) (by omega)
          have hwm1 := wrap_mul 640000 hm1 (by decide)
          have hwm2 := wrap_mul 10000 hm2 (by decide)
          have hwr1 := wrap_add 409600000000 640000 hl hm1 (by decide)
          have hwr2 := wrap_add 6400000000 10000 hl2 hm2 (by decide)
          clear hm1 hm2 hl hl2 hp
          generalize x * px W H B (x : Int) (y : Int) = m1 at *
          generalize y * px W H B (x : Int) (y : Int) = m2 at *
          go_wp2_with (go_at_call 32; refine (get_any W H a n cap B x y _ HW'.out HH'.out E0.out hi.out.k).mono ?_; rintro e w1 ⟨rfl, hbel⟩; have hi := Lib.hid (hi.out.step hbel); have c0 := hi.out.c0; have c1 := hi.out.c1; have c2 := hi.out.c2; clear hbel)
          go_roundw
          case rel => exact ⟨x + 1, by omega, by go_num, by rw [HST.out]; first | (simp; done) | rw [hwr1], by rw [HST2.out]; first | (simp; done) | rw [hwr2], hi⟩
          case measure => simp [intOf]; omega
        · obtain rfl : x = W := by omega
          have HR := Lib.hid (psum_row (fun a b => a * px x H B (a : Int) (b : Int)) x y)
          have HR2 := Lib.hid (psum_row (fun a b => b * px x H B (a : Int) (b : Int)) x y)
          go_wp2_with fail
          go_roundw
          case rel => exact ⟨y + 1, by omega, by go_num, by rw [HR.out], by rw [HR2.out], hi⟩
          case measure => simp [intOf]; omega
    · obtain rfl : y = H := by omega
      have c0 := hi.out.c0
      have c2 := hi.out.c2
      rw [HSX.out, HSY.out]
      clear HLX HLY HSX HSY
      go_wp2_with (go_at_call 22; refine (count22' W y a n cap B _ bn HBN.out hi.out.k HO.out HN.out).mono ?_; rintro e w1 ⟨rfl, hbel⟩; have hi := Lib.hid (hi.out.step hbel); clear hbel)
      refine (div31 sx bn HLXE.out R1.out _).mono ?_
      rintro e w2 ⟨r, rfl, HR, k, rfl⟩
      go_wp2_with fail
      refine (div31 sy bn HLYE.out R1.out _).mono ?_
      rintro e w2 ⟨s, rfl, HS, k2, rfl⟩
      go_wp2_with fail
      go_ret2
      exact ⟨r, s, rfl, HR.out, HS.out, below_drewN (hi.out.bel.mono (Nat.le_of_eq HW0.out)) _⟩
end Go.Proofs.YtokdgppaedklhaaDoor
