/- The library's table, as the row lays it, in its variable's cells; a start that meets the condition. No condition. -/
import Derived.Test.YtokdgppaedklhaaDoorWj
import Derived.LaidMore
import Derived.LaidLaws
import Derived.LaidHandle
import Derived.MakeChecks
import Derived.Stop.Joined
namespace Go.Proofs.YtokdgppaedklhaaDoor
open Go.ChangeShapes Go.WideShapes Go.ChangeAt Go.RowKit Go.Bm

abbrev laid1 : List (String × DataW Unit) := [("math/bits.deBruijn64tab", Rows.laid_math_bits_deBruijn64tab)]
theorem gTab : Tryd.prog.globalNamed "math/bits.deBruijn64tab" = some 0 := by kernel_rfl
theorem tTab : (Tryd.prog.globals[0]?).map (·.type) = some 65 := by kernel_rfl
theorem door_met (os : Os) (args : Array Value) : laidMetH Tryd.prog laid1 ((World.doorLaid Tryd.prog 400 os).forCall (fun _ _ => 0) ⟨#[], args, []⟩).memory :=
  laidMetH_of_parts3 (fuel := 8) (laidMet_of_run' 8 (by kernel_rfl) (by kernel_rfl)) (by kernel_rfl) (by kernel_rfl)

theorem tab_data : (Rows.laid_math_bits_deBruijn64tab : DataW Unit) = .agg (Lib.deBruijn64tab.map fun x : Nat => .lit (.int .u8 (x : Int))) := by rfl

theorem tab_of_laid {W : World} (h : laidMetH Tryd.prog laid1 W) : TabW W := by
  rw [MakeChecks.laidMetH_plain _ _ _ (by kernel_rfl)] at h
  obtain ⟨ps, ⟨g0, t0, cs0, f0, p0, q0, hg0, ht0, hv0, hd0, _, _⟩, _, _⟩ := h
  obtain rfl := Option.some.inj (gTab.symm.trans hg0)
  obtain rfl := Option.some.inj (tTab.symm.trans ht0)
  obtain ⟨xs, m1, rfl, hx1, hlen, hn3, hel⟩ := DataW.trod_array Tryd.underlying65 hd0
  have c5 : Tryd.prog.cellsOf 5 = 1 := by kernel_rfl
  rw [tab_data] at hx1
  simp only [Prod.mk.injEq, DataW.agg.injEq] at hx1
  intro j hj
  rw [World.var?_cell hg0 hv0 j]
  have h0 := hel j hj
  have hxj : ∃ x, xs[j]? = some x := ⟨xs[j]'(by omega), List.getElem?_eq_getElem (by omega)⟩
  obtain ⟨x, hx⟩ := hxj
  rw [hx, c5] at h0
  obtain ⟨k, e1, e2, _⟩ := DataW.trod_int Tryd.underlying5 h0
  have e3 : (xs.map (·.1))[j]? = some (.lit (.int .u8 k)) := by rw [List.getElem?_map, hx, e2]; rfl
  rw [← hx1.1, List.getElem?_map] at e3
  have hk : k = ((Lib.deBruijn64tab.getD j 0 : Nat) : Int) := by
    rw [List.getD_eq_getElem?_getD]
    cases hq : Lib.deBruijn64tab[j]? with
    | none => rw [hq] at e3; cases e3
    | some y =>
      rw [hq] at e3
      simp at e3
      simpa using e3.symm
  have e4 : cs0.toList[j]? = some (.int .u8 k) := by
    have : (List.take 1 (List.drop (j * 1) cs0.toList))[0]? = some (.int .u8 k) := by rw [e1]; rfl
    rw [List.getElem?_take, if_pos (by omega), List.getElem?_drop, Nat.mul_one, Nat.add_zero] at this
    exact this
  rw [← Array.getElem?_toList, e4, hk]
end Go.Proofs.YtokdgppaedklhaaDoor
