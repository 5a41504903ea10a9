/- Density of package measure at bitmaps of up to 20000 words (a turned one may have more words). Conditions: the bounds that each theorem names. -/
import Derived.Test.YtokdgppaedklhaaDoorWf
namespace Go.Bm
theorem okB_areaw {W H n : Nat} {B : Nat → Nat} (ho : okB W H n B) (hn : n ≤ 20000) : n = H * wd W ∧ 1 ≤ W ∧ 1 ≤ H ∧ W ≤ 1280000 ∧ H ≤ 20000 ∧ H * W ≤ 1280000 := by
  have h1 := ho.1.1
  have h2 := ho.1.2.1
  have h3 := ho.2.1
  simp only [Int.toNat_natCast] at h3
  have hw : 1 ≤ wd W := wd_pos (by omega)
  have h4 : 1 * wd W ≤ H * wd W := Nat.mul_le_mul_right _ (by omega)
  have h5 : H * 1 ≤ H * wd W := Nat.mul_le_mul_left _ hw
  have h6 : W ≤ wd W * 64 := by unfold wd; omega
  have h7 : H * W ≤ H * (wd W * 64) := Nat.mul_le_mul_left _ h6
  rw [← Nat.mul_assoc] at h7
  exact ⟨h3, by omega, by omega, by omega, by omega, by omega⟩
end Go.Bm
namespace Go.Proofs.YtokdgppaedklhaaDoor
open Go.RowKit Go.Bm Fl Go.FlW

set_option maxHeartbeats 2000000 in
theorem black26w (W H : Int) (a : Option Addr) (n cap : Nat) (B : Nat → Nat) (w : World) (hB : IsWords w a n cap B) (hn : n ≤ 20000) :
    Calls Tryd.prog 26 #[.agg #[.int .i64 W, .int .i64 H, .slice a n cap]] w fun e w' => e = .returned (.int .i64 (sumTo (fun i => pop (B i)) n : Nat)) ∧ Below w.heap.size w w' := by
  have hb := (Below.refl w.heap.size w).alloc (Nat.le_refl _) (.cells #[.int .i64 W, .int .i64 H, .slice a n cap] 25)
  have HB := Lib.hid (hB.below hb)
  have HBE := Lib.hid hb
  clear hB hb
  go_enter Tryd.func26, Tryd.ntmps26
  go_wp2_with fail
  go_loop [3, 5, 9] (fun s u i => ∃ k : Nat, k ≤ n ∧ i = .int .i64 k ∧ s = .int .i64 (sumTo (fun i => pop (B i)) k : Nat)) (fun _ _ i => n - (intOf i).toNat)
  case atStart => exact ⟨0, Nat.zero_le _, rfl, rfl⟩
  case round =>
    obtain ⟨k, hk, rfl, rfl⟩ := hrel
    by_cases hlt : k < n
    · rcases HB.out with h | ⟨b, off, rfl, hnc, hcap, hbs, hcell⟩
      · omega
      · obtain ⟨c0, v0⟩ := hcell k hlt
        have hltI : (k : Int) < (n : Int) := by omega
        have hs : sumTo (fun i => pop (B i)) k ≤ k * 64 := sumTo_le k fun i _ => pop_le _
        have hp := pop_le (B k)
        have hst : sumTo (fun i => pop (B i)) (k + 1) = sumTo (fun i => pop (B i)) k + pop (B k) := rfl
        have HST := Lib.hid hst
        clear hst hcell hcap hbs hnc
        generalize sumTo (fun i => pop (B i)) k = s at *
        have hw : wrap64 ((s : Int) + (pop (B k) : Nat)) = ((s + pop (B k) : Nat) : Int) := by rw [← Int.natCast_add]; exact Go.IntWalk.wrap64_in _ ⟨by omega, by omega⟩
        generalize hv : B k = v at *
        go_wp2_with (go_at_call 27; refine (ones27 v v0 _).mono ?_; rintro e w' ⟨rfl, rfl⟩)
        go_round
        case rel => exact ⟨k + 1, by omega, by go_num, by rw [HST.out]; simp⟩
        case measure => simp [intOf]; omega
    · obtain rfl : k = n := by omega
      go_wp2_with fail
      go_ret
      exact ⟨rfl, HBE.out⟩

theorem black26v (W H : Nat) (a : Option Addr) (n cap : Nat) (B : Nat → Nat) (w : World) (bn : Nat) (hb : blackN W H B = bn) (hB : IsWords w a n cap B) (ho : okB W H n B) (hn : n ≤ 20000) :
    Calls Tryd.prog 26 #[.agg #[.int .i64 (W : Int), .int .i64 (H : Int), .slice a n cap]] w fun e w' => e = .returned (.int .i64 (bn : Nat)) ∧ Below w.heap.size w w' := by
  rw [← hb, black_words ho]; exact black26w W H a n cap B w hB hn


set_option maxRecDepth 100000 in
set_option maxHeartbeats 4000000 in
theorem density7w (W H : Nat) (a : Option Addr) (n cap : Nat) (B : Nat → Nat) (w : World) (hB : IsWords w a n cap B) (ho : okB W H n B) (hn : n ≤ 20000) :
    Calls Tryd.prog 7 #[.agg #[.int .i64 (W : Int), .int .i64 (H : Int), .slice a n cap]] w fun e w' => ∃ r, e = .returned (.tuple #[.float .f64 r, .int .i64 0]) ∧ Hid (IsQ (blackN W H B) (W * H) r) ∧ Below w.heap.size w w' := by
  obtain ⟨e0, _, _, hw1, hh1, hhw⟩ := okB_areaw ho hn
  have hbl := black_le W H B
  have hwr : IntKind.i64.wrap ((W : Int) * (H : Int)) = ((W * H : Nat) : Int) := by
    rw [← Int.natCast_mul]; rw [Nat.mul_comm] at hhw; exact IntWalk.i64_in _ (by omega)
  have R1 : Hid (blackN W H B ≤ 9007199254740992) := by show _ ≤ _; omega
  have R2 : Hid (W * H ≤ 9007199254740992) := by show _ ≤ _; rw [Nat.mul_comm]; omega
  have HO := Lib.hid ho
  have hi := BInv.new (W := W) (H := H) hB
  have HI := Lib.hid hi
  have HN := Lib.hid hn
  clear hB ho hi hhw hw1 hh1 e0 hbl hn
  generalize W * H = p at *
  obtain ⟨bn, hbn⟩ : ∃ bn, blackN W H B = bn := ⟨_, rfl⟩
  rw [hbn] at R1 ⊢
  have HBN := Lib.hid hbn
  clear hbn
  go_enter Tryd.func7, Tryd.ntmps7
  go_upto_region 1 with fail
  obtain ⟨W0, hW0⟩ : ∃ W0, w.heap.size = W0 := ⟨_, rfl⟩
  have HI := Lib.hid (hW0 ▸ HI.out)
  rw [hW0]
  have HW0 := Lib.hid hW0
  clear hW0
  generalize w.alloc (.cells #[.int .i64 (W : Int), .int .i64 (H : Int), .slice a n cap] 25) = w0 at *
  have c0 := HI.out.c0
  have c1 := HI.out.c1
  have c2 := HI.out.c2
  go_upto_region 3 with (go_at_call 25; refine (check0 W H a n cap B true _ HI.out.k (by simp [HO.out])).mono ?_; rintro e w1 ⟨rfl, hbel⟩; have HI := Lib.hid (HI.out.step hbel); clear hbel c0 c1 c2)
  have c0 := HI.out.c0
  have c1 := HI.out.c1
  have c2 := HI.out.c2
  go_region_held3 (fun w' => w'.cell? ⟨W0, 0, none⟩ = some (.int .i64 (W : Int)) ∧ w'.cell? ⟨W0, 1, none⟩ = some (.int .i64 (H : Int)) ∧ w'.cell? ⟨W0, 2, none⟩ = some (.slice a n cap)) (go_keep)
    ((first
      | (go_at_call 26; refine (black26v W H a n cap B _ bn HBN.out ?_ HO.out HN.out).mono ?_; exact HI.out.k; rintro e w1 ⟨rfl, hbel⟩; have HI1 := Lib.hid (HI.out.stepd hbel); have c0 := HI1.out.c0; have c1 := HI1.out.c1; have c2 := HI1.out.c2; clear hbel)
      | (go_at_call 21; refine (sh21 bn p R1.out R2.out _).mono ?_; rintro e w2 ⟨r, rfl, HR, k, rfl⟩)))
  go_wp2_with fail
  go_ret2
  exact ⟨r, rfl, HR, below_drewN (HI1.out.bel.mono (Nat.le_of_eq HW0.out)) _⟩

end Go.Proofs.YtokdgppaedklhaaDoor
