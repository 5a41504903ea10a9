/- Small at two bitmaps. Conditions: the bounds that each theorem names. -/
import Derived.Test.YtokdgppaedklhaaDoorWl
namespace Go.Proofs.YtokdgppaedklhaaDoor
open Go.RowKit Go.Bm

set_option maxRecDepth 100000 in
set_option maxHeartbeats 2000000 in
theorem small2 (g n cap m cap2 : Nat) (a c : Option Addr) (b : Bool) (w : World) (hn : n ≤ 17179869184) (hm : m ≤ 17179869184) (c2 : w.cell? ⟨g, 2, none⟩ = some (.slice a n cap)) (c5 : w.cell? ⟨g, 5, none⟩ = some (.slice c m cap2)) (hb : b = decide (64 * (n : Int) + 64 * (m : Int) + 128 ≤ 20000)) :
    Calls Tryd.prog 18 #[.slice (some ⟨g, 0, none⟩) 2 2, .int .i64 20000] w fun e w' => e = .returned (.bool b) ∧ w = w' := by
  go_enter Tryd.func18, Tryd.ntmps18
  go_wp2_with fail
  go_loop [5, 6] (fun s i => (i = .int .i64 0 ∧ s = .int .i64 0) ∨ (i = .int .i64 1 ∧ s = .int .i64 (64 * (n : Int) + 64) ∧ 64 * (n : Int) + 64 ≤ 20000) ∨ (i = .int .i64 2 ∧ 64 * (n : Int) + 64 * (m : Int) + 128 ≤ 20000)) (fun _ i => (2 - intOf i).toNat)
  case atStart => exact Or.inl ⟨rfl, rfl⟩
  case round =>
    rcases hrel with ⟨rfl, rfl⟩ | ⟨rfl, rfl, hle⟩ | ⟨rfl, hle⟩
    · by_cases hm : 64 * (n : Int) + 64 ≤ 20000
      · have HM := Lib.hid hm
        have HB := Lib.hid hb
        clear hb
        go_wp2_with fail
        go_round
        case rel => exact Or.inr (Or.inl ⟨rfl, by first | rfl | (congr 1; omega), HM.out⟩)
        case measure => simp [intOf]
      · have hb2 : b = false := by rw [hb]; exact decide_eq_false (by omega)
        subst hb2
        clear hb
        have hm2 : (20000 : Int) < 64 * (n : Int) + 64 := by omega
        go_wp2_with fail
        go_ret
        exact ⟨rfl, rfl⟩
    · by_cases hm : 64 * (n : Int) + 64 * (m : Int) + 128 ≤ 20000
      · have HM := Lib.hid hm
        have HB := Lib.hid hb
        clear hb
        have s1 : wrap64 (64 * (m : Int)) = 64 * (m : Int) := Go.IntWalk.wrap64_in _ ⟨by omega, by omega⟩
        have s2 : wrap64 (64 * (n : Int) + 64 + 64 * (m : Int)) = 64 * (n : Int) + 64 + 64 * (m : Int) := Go.IntWalk.wrap64_in _ ⟨by omega, by omega⟩
        have s3 : wrap64 (64 * (n : Int) + 64 + 64 * (m : Int) + 64) = 64 * (n : Int) + 64 + 64 * (m : Int) + 64 := Go.IntWalk.wrap64_in _ ⟨by omega, by omega⟩
        have hm3 : ¬ (20000 : Int) < 64 * (n : Int) + 64 + 64 * (m : Int) + 64 := by omega
        go_wp2_with fail
        go_round
        case rel => exact Or.inr (Or.inr ⟨rfl, HM.out⟩)
        case measure => simp [intOf]
      · have hb2 : b = false := by rw [hb]; exact decide_eq_false hm
        subst hb2
        clear hb
        have s1 : wrap64 (64 * (m : Int)) = 64 * (m : Int) := Go.IntWalk.wrap64_in _ ⟨by omega, by omega⟩
        have s2 : wrap64 (64 * (n : Int) + 64 + 64 * (m : Int)) = 64 * (n : Int) + 64 + 64 * (m : Int) := Go.IntWalk.wrap64_in _ ⟨by omega, by omega⟩
        have s3 : wrap64 (64 * (n : Int) + 64 + 64 * (m : Int) + 64) = 64 * (n : Int) + 64 + 64 * (m : Int) + 64 := Go.IntWalk.wrap64_in _ ⟨by omega, by omega⟩
        have hm3 : (20000 : Int) < 64 * (n : Int) + 64 + 64 * (m : Int) + 64 := by omega
        go_wp2_with fail
        go_ret
        exact ⟨rfl, rfl⟩
    · have hb2 : b = true := by rw [hb]; exact decide_eq_true hle
      subst hb2
      clear hb hle
      go_wp2_with fail
      go_ret
      exact ⟨rfl, rfl⟩
end Go.Proofs.YtokdgppaedklhaaDoor
