/-
  No cell of these rows narrows 'for every input' (looked for: loops, veiled, ifaces, maps, wideKeys, modest, calm, conditions, laid).
  DERIVED. THE GIVEN ROWS OF THIS SEAT. 5 by the template 'for every input the law returns true; each argument reads behind the call as it read before'; 0 by the template 'total and deterministic' (their statements: YtknhgenhknjkoaaTotals.lean).
  GIVEN WITH THE SEED: the statements are not yours to turn. If you find one false, say at which input.
  Laid BY PROGRAM, IN A SANDBOX (cutbox-rows.mjs): the forced cells as the released guide's own fill.sh prints them over the translation ed718325a618ff51… (all of the seat's roots in one cut). By AI agents, Wed Nov 11 2026. No macro, syntax, notation, axiom, sorry.
-/
import Derived.Test.YtknhgenhknjkoaaChecked
import GoSem.Claim
import GoSem.ClaimJoined
import GoSem.ClaimMapViews
import Derived.JoinedTies
import Derived.KernelRfl
namespace Go.Proofs.Ytknhgenhknjkoaa
/- THE CELL 'sum', in the pinned program and in every row, IS THE sha256 OF THE DUMP (.gsa) THAT YtknhgenhknjkoaaProg.lean LOADS. Nothing in Lean hashes anything: it is a label: what it is worth is what the hold of that sum in a sandbox is worth. -/
noncomputable def Try.pinned : Pinned := { name := "ytknhgenhknjkoaa", sum := "ed718325a618ff51122ab3365db87fc920c0f3923c65d488d29b77c112c816f4", checked := Try.checked }
namespace Rows
def none {H : Type} : Left H := { results := [], args := [] }

/-- 'burinlaw6.ContextExact': WHATEVER THE INPUT: true; the input reads as it did. -/
def contextExactSpec : ChangeSpec := { name := "contextExact", fn := fun _ => fun
  | [d] => { results := [.lit (.bool true)], args := [d] }
  | _ => none }
def contextExactRow : OpenClaim := { program := "ytknhgenhknjkoaa", sum := "ed718325a618ff51122ab3365db87fc920c0f3923c65d488d29b77c112c816f4", func := "burin/burinlaw6.ContextExact", spec := "contextExact", unfollowed := true, recurses := true, apart := false }
def ContextExactSaid : Prop := contextExactRow.holds Try.pinned (OpenSpec.ofChange contextExactSpec)

/-- ITS FALSE NEIGHBOUR: 'it returns false'. Refute it at one input. -/
def contextExactWrong : ChangeSpec := { name := "contextExact", fn := fun _ => fun
  | [d] => { results := [.lit (.bool false)], args := [d] }
  | _ => none }
def ContextExactWrongFalsely : Prop := contextExactRow.holds Try.pinned (OpenSpec.ofChange contextExactWrong)

/-- 'burinlaw6.ContextRows': WHATEVER THE INPUT: true; the input reads as it did. -/
def contextRowsSpec : ChangeSpec := { name := "contextRows", fn := fun _ => fun
  | [d] => { results := [.lit (.bool true)], args := [d] }
  | _ => none }
def contextRowsRow : OpenClaim := { program := "ytknhgenhknjkoaa", sum := "ed718325a618ff51122ab3365db87fc920c0f3923c65d488d29b77c112c816f4", func := "burin/burinlaw6.ContextRows", spec := "contextRows", unfollowed := true, recurses := true, apart := false }
def ContextRowsSaid : Prop := contextRowsRow.holds Try.pinned (OpenSpec.ofChange contextRowsSpec)

/-- ITS FALSE NEIGHBOUR: 'it returns false'. Refute it at one input. -/
def contextRowsWrong : ChangeSpec := { name := "contextRows", fn := fun _ => fun
  | [d] => { results := [.lit (.bool false)], args := [d] }
  | _ => none }
def ContextRowsWrongFalsely : Prop := contextRowsRow.holds Try.pinned (OpenSpec.ofChange contextRowsWrong)

/-- 'burinlaw6.ContextPast': WHATEVER THE INPUT: true; the input reads as it did. -/
def contextPastSpec : ChangeSpec := { name := "contextPast", fn := fun _ => fun
  | [d] => { results := [.lit (.bool true)], args := [d] }
  | _ => none }
def contextPastRow : OpenClaim := { program := "ytknhgenhknjkoaa", sum := "ed718325a618ff51122ab3365db87fc920c0f3923c65d488d29b77c112c816f4", func := "burin/burinlaw6.ContextPast", spec := "contextPast", unfollowed := true, recurses := true, apart := false }
def ContextPastSaid : Prop := contextPastRow.holds Try.pinned (OpenSpec.ofChange contextPastSpec)

/-- ITS FALSE NEIGHBOUR: 'it returns false'. Refute it at one input. -/
def contextPastWrong : ChangeSpec := { name := "contextPast", fn := fun _ => fun
  | [d] => { results := [.lit (.bool false)], args := [d] }
  | _ => none }
def ContextPastWrongFalsely : Prop := contextPastRow.holds Try.pinned (OpenSpec.ofChange contextPastWrong)

/-- 'burinlaw6.ContextMoved': WHATEVER THE INPUT: true; the input reads as it did. -/
def contextMovedSpec : ChangeSpec := { name := "contextMoved", fn := fun _ => fun
  | [d] => { results := [.lit (.bool true)], args := [d] }
  | _ => none }
def contextMovedRow : OpenClaim := { program := "ytknhgenhknjkoaa", sum := "ed718325a618ff51122ab3365db87fc920c0f3923c65d488d29b77c112c816f4", func := "burin/burinlaw6.ContextMoved", spec := "contextMoved", unfollowed := true, recurses := true, apart := false }
def ContextMovedSaid : Prop := contextMovedRow.holds Try.pinned (OpenSpec.ofChange contextMovedSpec)

/-- ITS FALSE NEIGHBOUR: 'it returns false'. Refute it at one input. -/
def contextMovedWrong : ChangeSpec := { name := "contextMoved", fn := fun _ => fun
  | [d] => { results := [.lit (.bool false)], args := [d] }
  | _ => none }
def ContextMovedWrongFalsely : Prop := contextMovedRow.holds Try.pinned (OpenSpec.ofChange contextMovedWrong)

/-- 'burinlaw6.ContextOne': WHATEVER THE INPUT: true; the input reads as it did. -/
def contextOneSpec : ChangeSpec := { name := "contextOne", fn := fun _ => fun
  | [] => { results := [.lit (.bool true)], args := [] }
  | _ => none }
def contextOneRow : OpenClaim := { program := "ytknhgenhknjkoaa", sum := "ed718325a618ff51122ab3365db87fc920c0f3923c65d488d29b77c112c816f4", func := "burin/burinlaw6.ContextOne", spec := "contextOne", unfollowed := true, recurses := true, apart := false }
def ContextOneSaid : Prop := contextOneRow.holds Try.pinned (OpenSpec.ofChange contextOneSpec)

/-- ITS FALSE NEIGHBOUR: 'it returns false'. Refute it at one input. -/
def contextOneWrong : ChangeSpec := { name := "contextOne", fn := fun _ => fun
  | [] => { results := [.lit (.bool false)], args := [] }
  | _ => none }
def ContextOneWrongFalsely : Prop := contextOneRow.holds Try.pinned (OpenSpec.ofChange contextOneWrong)

/- THE SECOND FORM. 'bulk': how many values and letters a reading holds, each counted each time it is reached (what is shared counts as often as it is met; a slice's spare places count too). A statement '..UptoSaid' is the law's where the arguments, and the package variables that the reading takes, are together of bulk at most 1048576: NARROWER than '..Said'. Prove '..Said' where nothing that the law and all that it calls make is longer than what came in: it says more and counts as full. Else prove '..UptoSaid'. A law counts once. -/
mutual
def uptoBulk {H : Type} : DataW H → Nat
  | .lit (.string bytes) => bytes.length + 1
  | .lit _ => 1
  | .nil => 1
  | .ptr d => uptoBulk d + 1
  | .slice elems spare => uptoBulkAll elems + uptoBulkAll spare + 1
  | .agg parts => uptoBulkAll parts + 1
  | .iface _ d => uptoBulk d + 1
  | .map entries => uptoBulkEntries entries + 1
  | .held _ => 1
def uptoBulkAll {H : Type} : List (DataW H) → Nat
  | [] => 0
  | d :: r => uptoBulk d + uptoBulkAll r
def uptoBulkEntries {H : Type} : List (Lit × DataW H) → Nat
  | [] => 0
  | x :: r => uptoBulkEntry x + uptoBulkEntries r
def uptoBulkEntry {H : Type} : Lit × DataW H → Nat
  | (.string bytes, d) => bytes.length + uptoBulk d + 1
  | (_, d) => uptoBulk d + 1
 end
def uptoSmall : (H : Type) → List (DataW H) → Bool := fun _ ds => decide (uptoBulkAll ds ≤ 1048576)
def OpenSpec.upto (s : _root_.Go.ChangeSpec) : _root_.Go.OpenSpec := { _root_.Go.OpenSpec.ofChange s with cond := some uptoSmall }

/-- 'burinlaw6.ContextExact', WHERE WHAT IT READS IS OF BULK AT MOST 1048576: true; the input reads as it did. -/
def contextExactUptoRow : OpenClaim := { program := "ytknhgenhknjkoaa", sum := "ed718325a618ff51122ab3365db87fc920c0f3923c65d488d29b77c112c816f4", func := "burin/burinlaw6.ContextExact", spec := "contextExact", unfollowed := true, recurses := true, apart := false, narrowed := true }
def ContextExactUptoSaid : Prop := contextExactUptoRow.holds Try.pinned (OpenSpec.upto contextExactSpec)

/-- 'burinlaw6.ContextRows', WHERE WHAT IT READS IS OF BULK AT MOST 1048576: true; the input reads as it did. -/
def contextRowsUptoRow : OpenClaim := { program := "ytknhgenhknjkoaa", sum := "ed718325a618ff51122ab3365db87fc920c0f3923c65d488d29b77c112c816f4", func := "burin/burinlaw6.ContextRows", spec := "contextRows", unfollowed := true, recurses := true, apart := false, narrowed := true }
def ContextRowsUptoSaid : Prop := contextRowsUptoRow.holds Try.pinned (OpenSpec.upto contextRowsSpec)

/-- 'burinlaw6.ContextPast', WHERE WHAT IT READS IS OF BULK AT MOST 1048576: true; the input reads as it did. -/
def contextPastUptoRow : OpenClaim := { program := "ytknhgenhknjkoaa", sum := "ed718325a618ff51122ab3365db87fc920c0f3923c65d488d29b77c112c816f4", func := "burin/burinlaw6.ContextPast", spec := "contextPast", unfollowed := true, recurses := true, apart := false, narrowed := true }
def ContextPastUptoSaid : Prop := contextPastUptoRow.holds Try.pinned (OpenSpec.upto contextPastSpec)

/-- 'burinlaw6.ContextMoved', WHERE WHAT IT READS IS OF BULK AT MOST 1048576: true; the input reads as it did. -/
def contextMovedUptoRow : OpenClaim := { program := "ytknhgenhknjkoaa", sum := "ed718325a618ff51122ab3365db87fc920c0f3923c65d488d29b77c112c816f4", func := "burin/burinlaw6.ContextMoved", spec := "contextMoved", unfollowed := true, recurses := true, apart := false, narrowed := true }
def ContextMovedUptoSaid : Prop := contextMovedUptoRow.holds Try.pinned (OpenSpec.upto contextMovedSpec)

/-- 'burinlaw6.ContextOne', WHERE WHAT IT READS IS OF BULK AT MOST 1048576: true; the input reads as it did. -/
def contextOneUptoRow : OpenClaim := { program := "ytknhgenhknjkoaa", sum := "ed718325a618ff51122ab3365db87fc920c0f3923c65d488d29b77c112c816f4", func := "burin/burinlaw6.ContextOne", spec := "contextOne", unfollowed := true, recurses := true, apart := false, narrowed := true }
def ContextOneUptoSaid : Prop := contextOneUptoRow.holds Try.pinned (OpenSpec.upto contextOneSpec)

end Rows
end Go.Proofs.Ytknhgenhknjkoaa
