/- Count, Center, Density, Unlike of the reference. Conditions: the bounds that each theorem names. -/
import Derived.Test.YtokdgppaedklhaaDoorWb
namespace Go.Bm
theorem okB_area {W H n : Nat} {B : Nat → Nat} (ho : okB W H n B) (hn : n ≤ 10000) : n = H * wd W ∧ 1 ≤ W ∧ 1 ≤ H ∧ W ≤ 640000 ∧ H ≤ 10000 ∧ H * W ≤ 640000 := by
  have h1 := ho.1.1
  have h2 := ho.1.2.1
  have h3 := ho.2.1
  simp only [Int.toNat_natCast] at h3
  have hw : 1 ≤ wd W := wd_pos (by omega)
  have h4 : 1 * wd W ≤ H * wd W := Nat.mul_le_mul_right _ (by omega)
  have h5 : H * 1 ≤ H * wd W := Nat.mul_le_mul_left _ hw
  have h6 : W ≤ wd W * 64 := by unfold wd; omega
  have h7 : H * W ≤ H * (wd W * 64) := Nat.mul_le_mul_left _ h6
  rw [← Nat.mul_assoc] at h7
  exact ⟨h3, by omega, by omega, by omega, by omega, by omega⟩
/-- a sum over the pixels so far -/
def psum (f : Nat → Nat → Nat) (W y x : Nat) : Nat := sumTo (fun y => sumTo (fun x => f x y) W) y + sumTo (fun x => f x y) x
theorem psum_start (f : Nat → Nat → Nat) (W : Nat) : psum f W 0 0 = 0 := rfl
theorem psum_step (f : Nat → Nat → Nat) (W y x : Nat) : psum f W y (x + 1) = psum f W y x + f x y := by unfold psum; rw [sumTo]; omega
theorem psum_row (f : Nat → Nat → Nat) (W y : Nat) : psum f W (y + 1) 0 = psum f W y W := by unfold psum; rw [sumTo]; rfl
theorem psum_end (f : Nat → Nat → Nat) (W y : Nat) : psum f W y 0 = sumTo (fun y => sumTo (fun x => f x y) W) y := rfl
theorem psum_le {f : Nat → Nat → Nat} {W H c : Nat} (hf : ∀ x y, x < W → y < H → f x y ≤ c) {y x : Nat} (hy : y < H) (hx : x ≤ W) : psum f W y x ≤ H * W * c := by
  have h1 : sumTo (fun y => sumTo (fun x => f x y) W) y ≤ y * (W * c) := sumTo_le y fun j hj => sumTo_le W fun i hi => hf i j hi (by omega)
  have h2 : sumTo (fun x => f x y) x ≤ x * c := sumTo_le x fun i hi => hf i y (by omega) hy
  have h3 : x * c ≤ W * c := Nat.mul_le_mul_right _ hx
  have h4 : (y + 1) * (W * c) ≤ H * (W * c) := Nat.mul_le_mul_right _ (by omega)
  rw [Nat.add_mul, Nat.one_mul] at h4
  rw [Nat.mul_assoc]
  unfold psum
  omega
end Go.Bm
namespace Go.Proofs.YtokdgppaedklhaaDoor
open Go.RowKit Go.Bm

set_option maxRecDepth 100000 in
set_option maxHeartbeats 4000000 in
theorem count22 (W H : Nat) (a : Option Addr) (n cap : Nat) (B : Nat → Nat) (w : World) (hB : IsWords w a n cap B) (ho : okB W H n B) (hn : n ≤ 10000) :
    Calls Tryd.prog 22 #[.agg #[.int .i64 (W : Int), .int .i64 (H : Int), .slice a n cap]] w fun e w' => e = .returned (.int .i64 (blackN W H B : Nat)) ∧ Below w.heap.size w w' := by
  obtain ⟨e0, _, _, hw1, hh1, hhw⟩ := okB_area ho hn
  have HL : Hid (∀ y x, y < H → x ≤ W → psum (fun x y => px W H B (x : Int) (y : Int)) W y x ≤ 640000) := fun y x hy hx => by
    have := psum_le (f := fun x y => px W H B (x : Int) (y : Int)) (c := 1) (fun i j _ _ => px_le W H B i j) hy hx
    rw [Nat.mul_one] at this
    exact Nat.le_trans this hhw
  have HE : Hid (blackN W H B = psum (fun x y => px W H B (x : Int) (y : Int)) W H 0) := rfl
  have HW := Lib.hid (show W ≤ 1048576 by omega)
  have HH := Lib.hid (show H ≤ 1048576 by omega)
  have E0 := Lib.hid e0
  have hi := BInv.new (W := W) (H := H) hB
  have HI := Lib.hid hi
  clear hB ho hi hhw hw1 hh1 e0
  go_enter Tryd.func22, Tryd.ntmps22
  go_upto_region 1 with fail
  obtain ⟨W0, hW0⟩ : ∃ W0, w.heap.size = W0 := ⟨_, rfl⟩
  have HI := Lib.hid (hW0 ▸ HI.out)
  rw [hW0]
  generalize w.alloc (.cells #[.int .i64 (W : Int), .int .i64 (H : Int), .slice a n cap] 25) = w0 at *
  go_wp2_with fail
  go_loopw [3, 4, 5] (fun s yy _ wr => ∃ y : Nat, y ≤ H ∧ yy = .int .i64 y ∧ s = .int .i64 (psum (fun x y => px W H B (x : Int) (y : Int)) W y 0 : Nat) ∧ Hid (BInv w W0 W H a n cap B wr)) (fun _ yy _ _ => H - (intOf yy).toNat)
  case atStart => exact ⟨0, Nat.zero_le _, rfl, by rw [psum_start]; rfl, HI⟩
  case round =>
    obtain ⟨y, hy, rfl, rfl, hi⟩ := hrel
    have c1 := hi.out.c1
    have hyb : y ≤ 1048576 := by have := HH.out; omega
    by_cases hyl : y < H
    · go_wp2_with fail
      clear c1
      go_loopw [3, 5] (fun s xx wr => ∃ x : Nat, x ≤ W ∧ xx = .int .i64 x ∧ s = .int .i64 (psum (fun x y => px W H B (x : Int) (y : Int)) W y x : Nat) ∧ Hid (BInv w W0 W H a n cap B wr)) (fun _ xx _ => W - (intOf xx).toNat)
      case atStart => exact ⟨0, Nat.zero_le _, rfl, rfl, hi⟩
      case round =>
        obtain ⟨x, hx, rfl, rfl, hi⟩ := hrel
        have hxb : x ≤ 1048576 := by have := HW.out; omega
        have c0 := hi.out.c0
        have c1 := hi.out.c1
        have c2 := hi.out.c2
        by_cases hxl : x < W
        · have hl := HL.out y x hyl hx
          have hst := psum_step (fun x y => px W H B (x : Int) (y : Int)) W y x
          have HST := Lib.hid hst
          have hp := px_le W H B x y
          have hwr : wrap64 (((psum (fun x y => px W H B (x : Int) (y : Int)) W y x : Nat) : Int) + ((px W H B x y : Nat) : Int)) = ((psum (fun x y => px W H B (x : Int) (y : Int)) W y x + px W H B x y : Nat) : Int) := by
            rw [← Int.natCast_add]; exact Go.IntWalk.wrap64_in _ ⟨by omega, by omega⟩
          clear hst
          go_upto_region 7 with (go_at_call 32; refine (get_any W H a n cap B x y _ HW.out HH.out E0.out hi.out.k).mono ?_; rintro e w1 ⟨rfl, hbel⟩)
          have hi1 := Lib.hid (hi.out.step hbel)
          clear hi hbel c0 c1 c2
          go_wp2_with fail
          go_roundw
          case rel => exact ⟨x + 1, by omega, by go_num, by rw [HST.out]; simp, hi1⟩
          case measure => simp [intOf]; omega
        · obtain rfl : x = W := by omega
          have HR := Lib.hid (psum_row (fun a b => px x H B (a : Int) (b : Int)) x y)
          go_wp2_with fail
          go_roundw
          case rel => exact ⟨y + 1, by omega, by go_num, by rw [HR.out], hi⟩
          case measure => simp [intOf]; omega
    · obtain rfl : y = H := by omega
      go_wp2_with fail
      go_ret
      exact ⟨by rw [HE.out]; rfl, by rw [← hW0] at hi; exact hi.out.bel⟩
end Go.Proofs.YtokdgppaedklhaaDoor
