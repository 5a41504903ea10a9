/- Aspect, Density, Center of package measure. Conditions: the bounds that each theorem names. -/
import Derived.Test.YtokdgppaedklhaaDoorWd
namespace Go.Proofs.YtokdgppaedklhaaDoor
open Go.RowKit Go.Bm Fl Go.FlW

theorem sh21 (n d : Nat) (hn : n ≤ 9007199254740992) (hd : d ≤ 9007199254740992) (w : World) : Calls Tryd.prog 21 #[.int .i64 (n : Int), .int .i64 (d : Int)] w fun e w' => ∃ r, e = .returned (.tuple #[.float .f64 r, .int .i64 0]) ∧ Hid (IsQ n d r) ∧ ∃ k, w.drewN k = w' :=
  (share11_in n d w (InR.of_nat hn) (InR.of_nat hd)).mono fun _ _ ⟨r, h1, h2, h3⟩ => ⟨r, h1, h2, h3⟩
theorem black26' (W H : Nat) (a : Option Addr) (n cap : Nat) (B : Nat → Nat) (w : World) (bn : Nat) (hb : blackN W H B = bn) (hB : IsWords w a n cap B) (ho : okB W H n B) (hn : n ≤ 10000) :
    Calls Tryd.prog 26 #[.agg #[.int .i64 (W : Int), .int .i64 (H : Int), .slice a n cap]] w fun e w' => e = .returned (.int .i64 (bn : Nat)) ∧ Below w.heap.size w w' := by
  rw [← hb, black_words ho]; exact black26 W H a n cap B w hB hn

set_option maxHeartbeats 2000000 in
/-- a bitmap that may not be is refused -/
theorem aspect_no (W H : Int) (a : Option Addr) (n cap : Nat) (B : Nat → Nat) (w : World) (hB : IsWords w a n cap B) (ho : ¬ okB W H n B) :
    Calls Tryd.prog 6 #[.agg #[.int .i64 W, .int .i64 H, .slice a n cap]] w fun e w' => e = .returned (.tuple #[.float .f64 0, .int .i64 101]) ∧ Below w.heap.size w w' := by
  have hi := BInv.new (W := W) (H := H) hB
  have HI := Lib.hid hi
  have HO := Lib.hid ho
  clear hB hi ho
  go_enter Tryd.func6, Tryd.ntmps6
  go_upto_region 1 with fail
  obtain ⟨W0, hW0⟩ : ∃ W0, w.heap.size = W0 := ⟨_, rfl⟩
  have HI := Lib.hid (hW0 ▸ HI.out)
  rw [hW0]
  have HW0 := Lib.hid hW0
  clear hW0
  generalize w.alloc (.cells #[.int .i64 W, .int .i64 H, .slice a n cap] 25) = w0 at *
  have c0 := HI.out.c0
  have c1 := HI.out.c1
  have c2 := HI.out.c2
  go_wp2_with (go_at_call 25; refine (check0 W H a n cap B false _ HI.out.k (by simp [HO.out])).mono ?_; rintro e w1 ⟨rfl, hbel⟩; have HI1 := Lib.hid (HI.out.step hbel); clear hbel)
  go_ret2
  exact ⟨rfl, HI1.out.bel.mono (Nat.le_of_eq HW0.out)⟩

set_option maxHeartbeats 2000000 in
theorem density_no (W H : Int) (a : Option Addr) (n cap : Nat) (B : Nat → Nat) (w : World) (hB : IsWords w a n cap B) (ho : ¬ okB W H n B) :
    Calls Tryd.prog 7 #[.agg #[.int .i64 W, .int .i64 H, .slice a n cap]] w fun e w' => e = .returned (.tuple #[.float .f64 0, .int .i64 101]) ∧ Below w.heap.size w w' := by
  have hi := BInv.new (W := W) (H := H) hB
  have HI := Lib.hid hi
  have HO := Lib.hid ho
  clear hB hi ho
  go_enter Tryd.func7, Tryd.ntmps7
  go_upto_region 1 with fail
  obtain ⟨W0, hW0⟩ : ∃ W0, w.heap.size = W0 := ⟨_, rfl⟩
  have HI := Lib.hid (hW0 ▸ HI.out)
  rw [hW0]
  have HW0 := Lib.hid hW0
  clear hW0
  generalize w.alloc (.cells #[.int .i64 W, .int .i64 H, .slice a n cap] 25) = w0 at *
  have c0 := HI.out.c0
  have c1 := HI.out.c1
  have c2 := HI.out.c2
  go_wp2_with (go_at_call 25; refine (check0 W H a n cap B false _ HI.out.k (by simp [HO.out])).mono ?_; rintro e w1 ⟨rfl, hbel⟩; have HI1 := Lib.hid (HI.out.step hbel); clear hbel)
  go_ret2
  exact ⟨rfl, HI1.out.bel.mono (Nat.le_of_eq HW0.out)⟩

set_option maxHeartbeats 2000000 in
theorem center_no (W H : Int) (a : Option Addr) (n cap : Nat) (B : Nat → Nat) (w : World) (hB : IsWords w a n cap B) (ho : ¬ okB W H n B) :
    Calls Tryd.prog 8 #[.agg #[.int .i64 W, .int .i64 H, .slice a n cap]] w fun e w' => e = .returned (.tuple #[.float .f64 0, .float .f64 0, .int .i64 101]) ∧ Below w.heap.size w w' := by
  have hi := BInv.new (W := W) (H := H) hB
  have HI := Lib.hid hi
  have HO := Lib.hid ho
  clear hB hi ho
  go_enter Tryd.func8, Tryd.ntmps8
  go_upto_region 1 with fail
  obtain ⟨W0, hW0⟩ : ∃ W0, w.heap.size = W0 := ⟨_, rfl⟩
  have HI := Lib.hid (hW0 ▸ HI.out)
  rw [hW0]
  have HW0 := Lib.hid hW0
  clear hW0
  generalize w.alloc (.cells #[.int .i64 W, .int .i64 H, .slice a n cap] 25) = w0 at *
  have c0 := HI.out.c0
  have c1 := HI.out.c1
  have c2 := HI.out.c2
  go_wp2_with (go_at_call 25; refine (check0 W H a n cap B false _ HI.out.k (by simp [HO.out])).mono ?_; rintro e w1 ⟨rfl, hbel⟩; have HI1 := Lib.hid (HI.out.step hbel); clear hbel)
  refine bodyPost_ret (v := .tuple #[.float .f64 0, .float .f64 0, .int .i64 101]) (by simp [results, Tryd.results8, go_sem]) rfl ?_
  exact ⟨rfl, HI1.out.bel.mono (Nat.le_of_eq HW0.out)⟩

set_option maxHeartbeats 2000000 in
theorem aspect6 (W H : Nat) (a : Option Addr) (n cap : Nat) (B : Nat → Nat) (w : World) (hB : IsWords w a n cap B) (ho : okB W H n B) :
    Calls Tryd.prog 6 #[.agg #[.int .i64 (W : Int), .int .i64 (H : Int), .slice a n cap]] w fun e w' => ∃ r, e = .returned (.tuple #[.float .f64 r, .int .i64 0]) ∧ Hid (IsQ W H r) ∧ Below w.heap.size w w' := by
  have hi := BInv.new (W := W) (H := H) hB
  have HI := Lib.hid hi
  have HO := Lib.hid ho
  have hs := okS_le ho.1
  have HW := Lib.hid (show W ≤ 9007199254740992 by omega)
  have HH := Lib.hid (show H ≤ 9007199254740992 by omega)
  clear hB hi ho hs
  go_enter Tryd.func6, Tryd.ntmps6
  go_upto_region 1 with fail
  obtain ⟨W0, hW0⟩ : ∃ W0, w.heap.size = W0 := ⟨_, rfl⟩
  have HI := Lib.hid (hW0 ▸ HI.out)
  rw [hW0]
  have HW0 := Lib.hid hW0
  clear hW0
  generalize w.alloc (.cells #[.int .i64 (W : Int), .int .i64 (H : Int), .slice a n cap] 25) = w0 at *
  have c0 := HI.out.c0
  have c1 := HI.out.c1
  have c2 := HI.out.c2
  go_wp2_with (first
    | (go_at_call 25; refine (check0 W H a n cap B true _ HI.out.k (by simp [HO.out])).mono ?_; rintro e w1 ⟨rfl, hbel⟩; have HI1 := Lib.hid (HI.out.step hbel); have c0 := HI1.out.c0; have c1 := HI1.out.c1; clear hbel)
    | (go_at_call 21; refine (sh21 W H HW.out HH.out _).mono ?_; rintro e w2 ⟨r, rfl, HR, k, rfl⟩))
  go_ret2
  exact ⟨r, rfl, HR, below_drewN (HI1.out.bel.mono (Nat.le_of_eq HW0.out)) _⟩

set_option maxRecDepth 100000 in
set_option maxHeartbeats 4000000 in
theorem density7 (W H : Nat) (a : Option Addr) (n cap : Nat) (B : Nat → Nat) (w : World) (hB : IsWords w a n cap B) (ho : okB W H n B) (hn : n ≤ 10000) :
    Calls Tryd.prog 7 #[.agg #[.int .i64 (W : Int), .int .i64 (H : Int), .slice a n cap]] w fun e w' => ∃ r, e = .returned (.tuple #[.float .f64 r, .int .i64 0]) ∧ Hid (IsQ (blackN W H B) (W * H) r) ∧ Below w.heap.size w w' := by
  obtain ⟨e0, _, _, hw1, hh1, hhw⟩ := okB_area ho hn
  have hbl := black_le W H B
  have hwr : IntKind.i64.wrap ((W : Int) * (H : Int)) = ((W * H : Nat) : Int) := by
    rw [← Int.natCast_mul]; rw [Nat.mul_comm] at hhw; exact IntWalk.i64_in _ (by omega)
  have R1 : Hid (blackN W H B ≤ 9007199254740992) := by show _ ≤ _; omega
  have R2 : Hid (W * H ≤ 9007199254740992) := by show _ ≤ _; rw [Nat.mul_comm]; omega
  have HO := Lib.hid ho
  have hi := BInv.new (W := W) (H := H) hB
  have HI := Lib.hid hi
  have HN := Lib.hid hn
  clear hB ho hi hhw hw1 hh1 e0 hbl hn
  generalize W * H = p at *
  obtain ⟨bn, hbn⟩ : ∃ bn, blackN W H B = bn := ⟨_, rfl⟩
  rw [hbn] at R1 ⊢
  have HBN := Lib.hid hbn
  clear hbn
  go_enter Tryd.func7, Tryd.ntmps7
  go_upto_region 1 with fail
  obtain ⟨W0, hW0⟩ : ∃ W0, w.heap.size = W0 := ⟨_, rfl⟩
  have HI := Lib.hid (hW0 ▸ HI.out)
  rw [hW0]
  have HW0 := Lib.hid hW0
  clear hW0
  generalize w.alloc (.cells #[.int .i64 (W : Int), .int .i64 (H : Int), .slice a n cap] 25) = w0 at *
  have c0 := HI.out.c0
  have c1 := HI.out.c1
  have c2 := HI.out.c2
  go_upto_region 3 with (go_at_call 25; refine (check0 W H a n cap B true _ HI.out.k (by simp [HO.out])).mono ?_; rintro e w1 ⟨rfl, hbel⟩; have HI := Lib.hid (HI.out.step hbel); clear hbel c0 c1 c2)
  have c0 := HI.out.c0
  have c1 := HI.out.c1
  have c2 := HI.out.c2
  go_region_held3 (fun w' => w'.cell? ⟨W0, 0, none⟩ = some (.int .i64 (W : Int)) ∧ w'.cell? ⟨W0, 1, none⟩ = some (.int .i64 (H : Int)) ∧ w'.cell? ⟨W0, 2, none⟩ = some (.slice a n cap)) (go_keep)
    ((first
      | (go_at_call 26; refine (black26' W H a n cap B _ bn HBN.out ?_ HO.out HN.out).mono ?_; exact HI.out.k; rintro e w1 ⟨rfl, hbel⟩; have HI1 := Lib.hid (HI.out.stepd hbel); have c0 := HI1.out.c0; have c1 := HI1.out.c1; have c2 := HI1.out.c2; clear hbel)
      | (go_at_call 21; refine (sh21 bn p R1.out R2.out _).mono ?_; rintro e w2 ⟨r, rfl, HR, k, rfl⟩)))
  go_wp2_with fail
  go_ret2
  exact ⟨r, rfl, HR, below_drewN (HI1.out.bel.mono (Nat.le_of_eq HW0.out)) _⟩
end Go.Proofs.YtokdgppaedklhaaDoor
