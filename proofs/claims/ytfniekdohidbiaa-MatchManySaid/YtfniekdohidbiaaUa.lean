/- OnesCount64, Inf, quotients, sums over pixels. Conditions: the bounds that each theorem names. -/
import Derived.Test.YtfniekdohidbiaaW
import Derived.Test.YtfniekdohidbiaaBo
import Derived.Test.YtfniekdohidbiaaPd
import Derived.Laws.BitsAllLaws
namespace Go.Proofs.Ytfniekdohidbiaa
open Go.RowKit Go.Bm Fl Go.FlW
theorem rep_vals : rep 85 8 = 6148914691236517205 ∧ rep 51 8 = 3689348814741910323 ∧ rep 15 8 = 1085102592571150095 := by decide
theorem wrapN (x : Nat) (h : x < 18446744073709551616) : IntKind.u64.wrap (x : Int) = (x : Int) := by rw [IntKind.wrap_u64]; omega
set_option maxRecDepth 100000 in
theorem s1_lt (v : Nat) : s1 8 v < 18446744073709551616 ∧ s2 8 (s1 8 v) < 18446744073709551616 - 18446744073709551616 / 16 := by
  have h2 : ∀ k v, s1 k v < 256 ^ k ∧ s2 k (s1 k v) * 255 ≤ 68 * (256 ^ k - 1) := by
    intro k
    induction k with
    | zero => intro v; exact ⟨by show (v / 2 &&& 0) + (v &&& 0) < 1; rw [Nat.and_zero, Nat.and_zero]; decide, by show ((s1 0 v / 4 &&& 0) + (s1 0 v &&& 0)) * 255 ≤ _; rw [Nat.and_zero, Nat.and_zero]; decide⟩
    | succ k ih =>
      intro v
      obtain ⟨h1, h2⟩ := ih (v / 256)
      have h3 := b1_lt (v % 256) (by omega)
      have h4 := (b2_facts (v % 256) (by omega)).1
      have hp : 256 ^ (k + 1) = 256 * 256 ^ k := by rw [Nat.pow_succ, Nat.mul_comm]
      have hp1 : 0 < 256 ^ k := Nat.pow_pos (by decide)
      constructor
      · rw [s1_succ, hp]
        generalize s1 k (v / 256) = q at *
        generalize b1 (v % 256) = r at *
        generalize 256 ^ k = t at *
        omega
      · rw [s2_s1_succ, hp]
        generalize s2 k (s1 k (v / 256)) = q at *
        generalize b2 (b1 (v % 256)) = r at *
        generalize 256 ^ k = t at *
        clear hp h1 h3
        omega
  obtain ⟨h1, h3⟩ := h2 8 v
  have e : (256 : Nat) ^ 8 = 18446744073709551616 := rfl
  generalize s2 8 (s1 8 v) = q at *
  generalize s1 8 v = r at *
  generalize (256 : Nat) ^ 8 = t at *
  subst e
  clear h2
  exact ⟨h1, by omega⟩
set_option maxHeartbeats 1000000 in
theorem ones27 (v : Nat) (hv : v < 2 ^ 64) (w : World) : Calls Try.prog 41 #[.int .u64 v] w fun e w' => e = .returned (.int .i64 (pop v : Nat)) ∧ w = w' := by
  obtain ⟨r1, r2, r3⟩ := rep_vals
  obtain ⟨b1, b2⟩ := s1_lt v
  have hs3 := s3_all 8 v
  obtain ⟨p0, p1, p2, p3, p4⟩ := pop_fold v _ _ _ _ rfl rfl rfl rfl
  have f1 : bits .and .u64 ((v : Int) / 2) 6148914691236517205 = ((v / 2 &&& rep 85 8 : Nat) : Int) := by rw [r1]; exact u64_and_nat (v / 2) _ (by omega) (by decide)
  have f2 : bits .and .u64 (v : Int) 6148914691236517205 = ((v &&& rep 85 8 : Nat) : Int) := by rw [r1]; exact u64_and_nat v _ (by omega) (by decide)
  have f3 : IntKind.u64.wrap (((v / 2 &&& rep 85 8 : Nat) : Int) + ((v &&& rep 85 8 : Nat) : Int)) = ((s1 8 v : Nat) : Int) := by rw [← Int.natCast_add]; exact wrapN _ b1
  generalize v / 2 &&& rep 85 8 = a1 at *
  generalize v &&& rep 85 8 = a2 at *
  clear hv
  generalize s1 8 v = x1 at *
  have f4 : bits .and .u64 ((x1 : Int) / 4) 3689348814741910323 = ((x1 / 4 &&& rep 51 8 : Nat) : Int) := by rw [r2]; exact u64_and_nat (x1 / 4) _ (by omega) (by decide)
  have f5 : bits .and .u64 (x1 : Int) 3689348814741910323 = ((x1 &&& rep 51 8 : Nat) : Int) := by rw [r2]; exact u64_and_nat x1 _ (by omega) (by decide)
  have f6 : IntKind.u64.wrap (((x1 / 4 &&& rep 51 8 : Nat) : Int) + ((x1 &&& rep 51 8 : Nat) : Int)) = ((s2 8 x1 : Nat) : Int) := by rw [← Int.natCast_add]; exact wrapN _ (by unfold s2 at b2; omega)
  generalize x1 / 4 &&& rep 51 8 = a3 at *
  generalize x1 &&& rep 51 8 = a4 at *
  generalize s2 8 x1 = x2 at *
  have f7 : IntKind.u64.wrap ((x2 : Int) / 16 + (x2 : Int)) = ((x2 / 16 + x2 : Nat) : Int) := by
    have := wrapN (x2 / 16 + x2) (by omega)
    simpa using this
  have f8 : bits .and .u64 ((x2 / 16 + x2 : Nat) : Int) 1085102592571150095 = ((cnts 8 v : Nat) : Int) := by rw [← hs3, s3, r3]; exact u64_and_nat (x2 / 16 + x2) _ (by omega) (by decide)
  generalize x2 / 16 + x2 = x3 at *
  generalize cnts 8 v = x4 at *
  have f9 : IntKind.u64.wrap ((x4 : Int) + (x4 : Int) / 256) = ((x4 + x4 / 256 : Nat) : Int) := by simpa using wrapN _ p2
  generalize x4 + x4 / 256 = x5 at *
  have f10 : IntKind.u64.wrap ((x5 : Int) + (x5 : Int) / 65536) = ((x5 + x5 / 65536 : Nat) : Int) := by simpa using wrapN _ p3
  generalize x5 + x5 / 65536 = x6 at *
  have f11 : IntKind.u64.wrap ((x6 : Int) + (x6 : Int) / 4294967296) = ((x6 + x6 / 4294967296 : Nat) : Int) := by simpa using wrapN (x6 + x6 / 4294967296) (by omega)
  generalize x6 + x6 / 4294967296 = x7 at *
  have f12 : bits .and .i64 (wrap64 (x7 : Int)) 127 = ((x7 % 128 : Nat) : Int) := by
    rw [Go.IntWalk.wrap64_in _ ⟨by omega, by omega⟩]
    have h := bits_mask .i64 63 (by decide) (fun n h0 h1 => by rw [IntKind.wrap_i64]; omega) 7 (by omega) (x7 : Int) (by omega) (by omega)
    simpa using h
  rw [← p0]
  clear p0 p1 p2 p3 p4 hs3 b1 b2 r1 r2 r3
  go_enter Try.func41, Try.ntmps41
  go_wp2
  go_ret
  exact ⟨rfl, rfl⟩
set_option maxHeartbeats 1000000 in
theorem inf35 (w : World) : Calls Try.prog 40 #[.int .i64 1] w fun e w' => e = .returned (.float .f64 9218868437227405312) ∧ w = w' := by
  have h := call35 9218868437227405312
  go_enter Try.func40, Try.ntmps40
  go_wp2
  go_ret
  exact ⟨rfl, rfl⟩
theorem okB_area {W H n : Nat} {B : Nat → Nat} (ho : okB W H n B) (hn : n ≤ 10000) : n = H * wd W ∧ 1 ≤ W ∧ 1 ≤ H ∧ W ≤ 640000 ∧ H ≤ 10000 ∧ H * W ≤ 640000 := by
  have h1 := ho.1.1
  have h2 := ho.1.2.1
  have h3 := ho.2.1
  simp only [Int.toNat_natCast] at h3
  have hw : 1 ≤ wd W := wd_pos (by omega)
  have h4 : 1 * wd W ≤ H * wd W := Nat.mul_le_mul_right _ (by omega)
  have h5 : H * 1 ≤ H * wd W := Nat.mul_le_mul_left _ hw
  have h6 : W ≤ wd W * 64 := by unfold wd; omega
  have h7 : H * W ≤ H * (wd W * 64) := Nat.mul_le_mul_left _ h6
  rw [← Nat.mul_assoc] at h7
  exact ⟨h3, by omega, by omega, by omega, by omega, by omega⟩
/-- a sum over the pixels so far -/
def psum (f : Nat → Nat → Nat) (W y x : Nat) : Nat := sumTo (fun y => sumTo (fun x => f x y) W) y + sumTo (fun x => f x y) x
theorem psum_step (f : Nat → Nat → Nat) (W y x : Nat) : psum f W y (x + 1) = psum f W y x + f x y := by unfold psum; rw [sumTo]; omega
theorem psum_row (f : Nat → Nat → Nat) (W y : Nat) : psum f W (y + 1) 0 = psum f W y W := by unfold psum; rw [sumTo]; rfl
theorem psum_le {f : Nat → Nat → Nat} {W H c : Nat} (hf : ∀ x y, x < W → y < H → f x y ≤ c) {y x : Nat} (hy : y < H) (hx : x ≤ W) : psum f W y x ≤ H * W * c := by
  have h1 : sumTo (fun y => sumTo (fun x => f x y) W) y ≤ y * (W * c) := sumTo_le y fun j hj => sumTo_le W fun i hi => hf i j hi (by omega)
  have h2 : sumTo (fun x => f x y) x ≤ x * c := sumTo_le x fun i hi => hf i y (by omega) hy
  have h3 : x * c ≤ W * c := Nat.mul_le_mul_right _ hx
  have h4 : (y + 1) * (W * c) ≤ H * (W * c) := Nat.mul_le_mul_right _ (by omega)
  rw [Nat.add_mul, Nat.one_mul] at h4
  rw [Nat.mul_assoc]
  unfold psum
  omega
theorem wrap_mul {s m : Nat} (a : Nat) (h1 : s * m ≤ a) (h : a ≤ 9007199254740992) : wrap64 ((s : Int) * (m : Int)) = ((s * m : Nat) : Int) := by
  rw [← Int.natCast_mul]; exact Go.IntWalk.wrap64_in _ ⟨by omega, by omega⟩
theorem InR.of_nat {x : Nat} (h : x ≤ 9007199254740992) : InR (x : Int) := ⟨by omega, by omega⟩
/-- a quotient's bits, as a result: what it may be -/
def IsQ (n d : Nat) (r : Nat) : Prop := Res (D.div (fi (n : Int)) (fi (d : Int))) r
theorem div31 (n d : Nat) (hn : n ≤ 9007199254740992) (hd : d ≤ 9007199254740992) (w : World) : Calls Try.prog 45 #[.int .i64 (n : Int), .int .i64 (d : Int)] w fun e w' => ∃ r, e = .returned (.float .f64 r) ∧ Hid (IsQ n d r) ∧ ∃ k, w.drewN k = w' :=
  (divide30 n d w (InR.of_nat hn) (InR.of_nat hd)).mono fun _ _ ⟨r, h1, h2, h3⟩ => ⟨r, h1, h2, h3⟩
theorem sh21 (n d : Nat) (hn : n ≤ 9007199254740992) (hd : d ≤ 9007199254740992) (w : World) : Calls Try.prog 42 #[.int .i64 (n : Int), .int .i64 (d : Int)] w fun e w' => ∃ r, e = .returned (.tuple #[.float .f64 r, .int .i64 0]) ∧ Hid (IsQ n d r) ∧ ∃ k, w.drewN k = w' :=
  (share11_in n d w (InR.of_nat hn) (InR.of_nat hd)).mono fun _ _ ⟨r, h1, h2, h3⟩ => ⟨r, h1, h2, h3⟩
theorem wrapi_add {s m : Nat} (a b : Nat) (h1 : s ≤ a) (h2 : m ≤ b) (h : a + b ≤ 9007199254740992) : IntKind.i64.wrap ((s : Int) + (m : Int)) = ((s + m : Nat) : Int) := by
  rw [← Int.natCast_add]; exact IntWalk.i64_in _ (by omega)
end Go.Proofs.Ytfniekdohidbiaa
