/- Read$1 of package pbm entered as a deferred call. Conditions: the bounds that each theorem names. -/
import Derived.Test.YtgpjpmadbepblaaDoorSd
import Derived.Defers
import Derived.Recover
namespace Go.Proofs.YtgpjpmadbepblaaDoor
open Go.RowKit (wrap32 wrap64)
theorem assert_nil (w : World) : (Instr.typeAssert Value.nilIface 20 57 true).run Tryd.prog w = .ok (.tuple #[.agg #[.int .i64 0], .bool false]) w := by rfl
theorem assert_fault (c : Int) (w : World) : (Instr.typeAssert (.iface 57 (.agg #[.int .i64 c])) 20 57 true).run Tryd.prog w = .ok (.tuple #[.agg #[.int .i64 c], .bool true]) w := by rfl
set_option maxHeartbeats 1000000 in
theorem catch28_idle (p q : Addr) (w : World) :
    CallsD Tryd.prog 28 #[.pointer (some p), .pointer (some q)] .returning w fun e u' w' => e = .returned (.tuple #[]) ∧ u' = .returning ∧ w' = w.alloc (.cells #[.int .i64 0] 57) := by
  refine callsD_of_wpS Tryd.func28 rfl fun c₀ cs hu => ?_
  apply wpS_seq
  apply wpS_region
  simp [wpOpsS, go_sem, recoverD, hu, Tryd.ntmps28, Exit.thenS, assert_nil, Array.replicate]
  refine wpS_of_wp ?_
  go_wp2
  cases c₀
  simp_all [bodyPostS, results, Tryd.results28]
set_option maxHeartbeats 1000000 in
theorem catch28_fault (p q : Nat) (c : Int) (x0 x1 x2 y : Value) (older : List PanicEntry) (w w1 : World) (hw1 : w.alloc (.cells #[.int .i64 c] 57) = w1) (hc1 : w1.cell? ⟨w.heap.size, 0, none⟩ = some (.int .i64 c))
    (hp0 : w1.cell? ⟨p, 0, none⟩ = some x0) (hp1 : w1.cell? ⟨p, 1, none⟩ = some x1) (hp2 : w1.cell? ⟨p, 2, none⟩ = some x2) (hq : w1.cell? ⟨q, 0, none⟩ = some y)
    (hz : ∀ o, w1.frozen? ⟨p, o, none⟩ = false) (hzq : w1.frozen? ⟨q, 0, none⟩ = false) (hpq : ¬ p = q) (hpn : ¬ p = w.heap.size) (hqn : ¬ q = w.heap.size) :
    CallsD Tryd.prog 28 #[.pointer (some ⟨p, 0, none⟩), .pointer (some ⟨q, 0, none⟩)] (.panicking ({ v := .iface 57 (.agg #[.int .i64 c]), recovered := false } :: older)) w fun e u' w' => e = .returned (.tuple #[]) ∧ u' = .panicking ({ v := .iface 57 (.agg #[.int .i64 c]), recovered := true } :: older) ∧
      w' = ((((w1.setCell ⟨p, 0, none⟩ (.int .i64 0)).setCell ⟨p, 1, none⟩ (.int .i64 0)).setCell ⟨p, 2, none⟩ (.slice none 0 0)).setCell ⟨q, 0, none⟩ (.int .i64 c)).drew := by
  refine callsD_of_wpS Tryd.func28 rfl fun c₀ cs hu => ?_
  apply wpS_seq
  apply wpS_region
  simp [wpOpsS, go_sem, recoverD, hu, Tryd.ntmps28, Exit.thenS, assert_fault, Array.replicate]
  refine wpS_of_wp ?_
  rw [hw1]
  go_wp2_with fail
  have hpn2 : ¬ w.heap.size = p := fun h => hpn h.symm
  have hqn2 : ¬ w.heap.size = q := fun h => hqn h.symm
  have hpq2 : ¬ q = p := fun h => hpq h.symm
  clear hw1
  generalize w.heap.size = n at *
  go_region
  go_wp2
  cases c₀
  simp_all [bodyPostS, results, Tryd.results28]
end Go.Proofs.YtgpjpmadbepblaaDoor
