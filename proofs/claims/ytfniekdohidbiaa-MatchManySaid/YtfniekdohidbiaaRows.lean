/-
  No cell of these rows narrows 'for every input' (looked for: loops, veiled, ifaces, maps, wideKeys, modest, calm, conditions, laid).
  DERIVED. THE GIVEN ROWS OF THIS SEAT. 7 by the template 'for every input the law returns true; each argument reads behind the call as it read before'; 0 by the template 'total and deterministic' (their statements: YtfniekdohidbiaaTotals.lean).
  GIVEN WITH THE SEED: the statements are not yours to turn. If you find one false, say at which input.
  Laid BY PROGRAM, IN A SANDBOX (cutbox-rows.mjs): the forced cells as the released guide's own fill.sh prints them over the translation bfab6df3b71658cd… (all of the seat's roots in one cut). By AI agents, Wed Nov 11 2026. No macro, syntax, notation, axiom, sorry.
-/
import Derived.Test.YtfniekdohidbiaaChecked
import GoSem.Claim
import GoSem.ClaimJoined
import GoSem.ClaimMapViews
import Derived.JoinedTies
import Derived.KernelRfl
namespace Go.Proofs.Ytfniekdohidbiaa
/- THE CELL 'sum', in the pinned program and in every row, IS THE sha256 OF THE DUMP (.gsa) THAT YtfniekdohidbiaaProg.lean LOADS. Nothing in Lean hashes anything: it is a label: what it is worth is what the hold of that sum in a sandbox is worth. -/
noncomputable def Try.pinned : Pinned := { name := "ytfniekdohidbiaa", sum := "bfab6df3b71658cd7aae00fc58ccaf8b121468156c1abc36fdab8e5fb90f2960", checked := Try.checked }
namespace Rows
def none {H : Type} : Left H := { results := [], args := [] }

/-- 'burinlaw12.MatchClasses': WHATEVER THE INPUT: true; the input reads as it did. -/
def matchClassesSpec : ChangeSpec := { name := "matchClasses", fn := fun _ => fun
  | [d] => { results := [.lit (.bool true)], args := [d] }
  | _ => none }
def matchClassesRow : OpenClaim := { program := "ytfniekdohidbiaa", sum := "bfab6df3b71658cd7aae00fc58ccaf8b121468156c1abc36fdab8e5fb90f2960", func := "burin/burinlaw12.MatchClasses", spec := "matchClasses", inPlace := ["math.Float64frombits"], unfollowed := true, recurses := true, plainKeys := false, apart := false }
def MatchClassesSaid : Prop := matchClassesRow.holds Try.pinned (OpenSpec.ofChange matchClassesSpec)

/-- ITS FALSE NEIGHBOUR: 'it returns false'. Refute it at one input. -/
def matchClassesWrong : ChangeSpec := { name := "matchClasses", fn := fun _ => fun
  | [d] => { results := [.lit (.bool false)], args := [d] }
  | _ => none }
def MatchClassesWrongFalsely : Prop := matchClassesRow.holds Try.pinned (OpenSpec.ofChange matchClassesWrong)

/-- 'burinlaw12.MatchOrder': WHATEVER THE INPUT: true; the input reads as it did. -/
def matchOrderSpec : ChangeSpec := { name := "matchOrder", fn := fun _ => fun
  | [d] => { results := [.lit (.bool true)], args := [d] }
  | _ => none }
def matchOrderRow : OpenClaim := { program := "ytfniekdohidbiaa", sum := "bfab6df3b71658cd7aae00fc58ccaf8b121468156c1abc36fdab8e5fb90f2960", func := "burin/burinlaw12.MatchOrder", spec := "matchOrder", inPlace := ["math.Float64frombits"], unfollowed := true, recurses := true, plainKeys := false, apart := false }
def MatchOrderSaid : Prop := matchOrderRow.holds Try.pinned (OpenSpec.ofChange matchOrderSpec)

/-- ITS FALSE NEIGHBOUR: 'it returns false'. Refute it at one input. -/
def matchOrderWrong : ChangeSpec := { name := "matchOrder", fn := fun _ => fun
  | [d] => { results := [.lit (.bool false)], args := [d] }
  | _ => none }
def MatchOrderWrongFalsely : Prop := matchOrderRow.holds Try.pinned (OpenSpec.ofChange matchOrderWrong)

/-- 'burinlaw12.MatchEqual': WHATEVER THE INPUT: true; the input reads as it did. -/
def matchEqualSpec : ChangeSpec := { name := "matchEqual", fn := fun _ => fun
  | [d] => { results := [.lit (.bool true)], args := [d] }
  | _ => none }
def matchEqualRow : OpenClaim := { program := "ytfniekdohidbiaa", sum := "bfab6df3b71658cd7aae00fc58ccaf8b121468156c1abc36fdab8e5fb90f2960", func := "burin/burinlaw12.MatchEqual", spec := "matchEqual", inPlace := ["math.Float64frombits"], unfollowed := true, recurses := true, plainKeys := false, apart := false }
def MatchEqualSaid : Prop := matchEqualRow.holds Try.pinned (OpenSpec.ofChange matchEqualSpec)

/-- ITS FALSE NEIGHBOUR: 'it returns false'. Refute it at one input. -/
def matchEqualWrong : ChangeSpec := { name := "matchEqual", fn := fun _ => fun
  | [d] => { results := [.lit (.bool false)], args := [d] }
  | _ => none }
def MatchEqualWrongFalsely : Prop := matchEqualRow.holds Try.pinned (OpenSpec.ofChange matchEqualWrong)

/-- 'burinlaw12.MatchFirst': WHATEVER THE INPUT: true; the input reads as it did. -/
def matchFirstSpec : ChangeSpec := { name := "matchFirst", fn := fun _ => fun
  | [d] => { results := [.lit (.bool true)], args := [d] }
  | _ => none }
def matchFirstRow : OpenClaim := { program := "ytfniekdohidbiaa", sum := "bfab6df3b71658cd7aae00fc58ccaf8b121468156c1abc36fdab8e5fb90f2960", func := "burin/burinlaw12.MatchFirst", spec := "matchFirst", inPlace := ["math.Float64frombits"], unfollowed := true, recurses := true, plainKeys := false, apart := false }
def MatchFirstSaid : Prop := matchFirstRow.holds Try.pinned (OpenSpec.ofChange matchFirstSpec)

/-- ITS FALSE NEIGHBOUR: 'it returns false'. Refute it at one input. -/
def matchFirstWrong : ChangeSpec := { name := "matchFirst", fn := fun _ => fun
  | [d] => { results := [.lit (.bool false)], args := [d] }
  | _ => none }
def MatchFirstWrongFalsely : Prop := matchFirstRow.holds Try.pinned (OpenSpec.ofChange matchFirstWrong)

/-- 'burinlaw12.MatchSorted': WHATEVER THE INPUT: true; the input reads as it did. -/
def matchSortedSpec : ChangeSpec := { name := "matchSorted", fn := fun _ => fun
  | [d] => { results := [.lit (.bool true)], args := [d] }
  | _ => none }
def matchSortedRow : OpenClaim := { program := "ytfniekdohidbiaa", sum := "bfab6df3b71658cd7aae00fc58ccaf8b121468156c1abc36fdab8e5fb90f2960", func := "burin/burinlaw12.MatchSorted", spec := "matchSorted", inPlace := ["math.Float64frombits"], unfollowed := true, recurses := true, plainKeys := false, apart := false }
def MatchSortedSaid : Prop := matchSortedRow.holds Try.pinned (OpenSpec.ofChange matchSortedSpec)

/-- ITS FALSE NEIGHBOUR: 'it returns false'. Refute it at one input. -/
def matchSortedWrong : ChangeSpec := { name := "matchSorted", fn := fun _ => fun
  | [d] => { results := [.lit (.bool false)], args := [d] }
  | _ => none }
def MatchSortedWrongFalsely : Prop := matchSortedRow.holds Try.pinned (OpenSpec.ofChange matchSortedWrong)

/-- 'burinlaw12.MatchAdded': WHATEVER THE INPUT: true; the input reads as it did. -/
def matchAddedSpec : ChangeSpec := { name := "matchAdded", fn := fun _ => fun
  | [d] => { results := [.lit (.bool true)], args := [d] }
  | _ => none }
def matchAddedRow : OpenClaim := { program := "ytfniekdohidbiaa", sum := "bfab6df3b71658cd7aae00fc58ccaf8b121468156c1abc36fdab8e5fb90f2960", func := "burin/burinlaw12.MatchAdded", spec := "matchAdded", inPlace := ["math.Float64frombits"], unfollowed := true, recurses := true, plainKeys := false, apart := false }
def MatchAddedSaid : Prop := matchAddedRow.holds Try.pinned (OpenSpec.ofChange matchAddedSpec)

/-- ITS FALSE NEIGHBOUR: 'it returns false'. Refute it at one input. -/
def matchAddedWrong : ChangeSpec := { name := "matchAdded", fn := fun _ => fun
  | [d] => { results := [.lit (.bool false)], args := [d] }
  | _ => none }
def MatchAddedWrongFalsely : Prop := matchAddedRow.holds Try.pinned (OpenSpec.ofChange matchAddedWrong)

/-- 'burinlaw12.MatchMany': WHATEVER THE INPUT: true; the input reads as it did. -/
def matchManySpec : ChangeSpec := { name := "matchMany", fn := fun _ => fun
  | [] => { results := [.lit (.bool true)], args := [] }
  | _ => none }
def matchManyRow : OpenClaim := { program := "ytfniekdohidbiaa", sum := "bfab6df3b71658cd7aae00fc58ccaf8b121468156c1abc36fdab8e5fb90f2960", func := "burin/burinlaw12.MatchMany", spec := "matchMany", inPlace := ["math.Float64frombits"], unfollowed := true, recurses := true, plainKeys := false, apart := false }
def MatchManySaid : Prop := matchManyRow.holds Try.pinned (OpenSpec.ofChange matchManySpec)

/-- ITS FALSE NEIGHBOUR: 'it returns false'. Refute it at one input. -/
def matchManyWrong : ChangeSpec := { name := "matchMany", fn := fun _ => fun
  | [] => { results := [.lit (.bool false)], args := [] }
  | _ => none }
def MatchManyWrongFalsely : Prop := matchManyRow.holds Try.pinned (OpenSpec.ofChange matchManyWrong)

/- THE SECOND FORM. 'bulk': how many values and letters a reading holds, each counted each time it is reached (what is shared counts as often as it is met; a slice's spare places count too). A statement '..UptoSaid' is the law's where the arguments, and the package variables that the reading takes, are together of bulk at most 1048576: NARROWER than '..Said'. Prove '..Said' where nothing that the law and all that it calls make is longer than what came in: it says more and counts as full. Else prove '..UptoSaid'. A law counts once. -/
mutual
def uptoBulk {H : Type} : DataW H → Nat
  | .lit (.string bytes) => bytes.length + 1
  | .lit _ => 1
  | .nil => 1
  | .ptr d => uptoBulk d + 1
  | .slice elems spare => uptoBulkAll elems + uptoBulkAll spare + 1
  | .agg parts => uptoBulkAll parts + 1
  | .iface _ d => uptoBulk d + 1
  | .map entries => uptoBulkEntries entries + 1
  | .held _ => 1
def uptoBulkAll {H : Type} : List (DataW H) → Nat
  | [] => 0
  | d :: r => uptoBulk d + uptoBulkAll r
def uptoBulkEntries {H : Type} : List (Lit × DataW H) → Nat
  | [] => 0
  | x :: r => uptoBulkEntry x + uptoBulkEntries r
def uptoBulkEntry {H : Type} : Lit × DataW H → Nat
  | (.string bytes, d) => bytes.length + uptoBulk d + 1
  | (_, d) => uptoBulk d + 1
 end
def uptoSmall : (H : Type) → List (DataW H) → Bool := fun _ ds => decide (uptoBulkAll ds ≤ 1048576)
def OpenSpec.upto (s : _root_.Go.ChangeSpec) : _root_.Go.OpenSpec := { _root_.Go.OpenSpec.ofChange s with cond := some uptoSmall }

/-- 'burinlaw12.MatchClasses', WHERE WHAT IT READS IS OF BULK AT MOST 1048576: true; the input reads as it did. -/
def matchClassesUptoRow : OpenClaim := { program := "ytfniekdohidbiaa", sum := "bfab6df3b71658cd7aae00fc58ccaf8b121468156c1abc36fdab8e5fb90f2960", func := "burin/burinlaw12.MatchClasses", spec := "matchClasses", inPlace := ["math.Float64frombits"], unfollowed := true, recurses := true, plainKeys := false, apart := false, narrowed := true }
def MatchClassesUptoSaid : Prop := matchClassesUptoRow.holds Try.pinned (OpenSpec.upto matchClassesSpec)

/-- 'burinlaw12.MatchOrder', WHERE WHAT IT READS IS OF BULK AT MOST 1048576: true; the input reads as it did. -/
def matchOrderUptoRow : OpenClaim := { program := "ytfniekdohidbiaa", sum := "bfab6df3b71658cd7aae00fc58ccaf8b121468156c1abc36fdab8e5fb90f2960", func := "burin/burinlaw12.MatchOrder", spec := "matchOrder", inPlace := ["math.Float64frombits"], unfollowed := true, recurses := true, plainKeys := false, apart := false, narrowed := true }
def MatchOrderUptoSaid : Prop := matchOrderUptoRow.holds Try.pinned (OpenSpec.upto matchOrderSpec)

/-- 'burinlaw12.MatchEqual', WHERE WHAT IT READS IS OF BULK AT MOST 1048576: true; the input reads as it did. -/
def matchEqualUptoRow : OpenClaim := { program := "ytfniekdohidbiaa", sum := "bfab6df3b71658cd7aae00fc58ccaf8b121468156c1abc36fdab8e5fb90f2960", func := "burin/burinlaw12.MatchEqual", spec := "matchEqual", inPlace := ["math.Float64frombits"], unfollowed := true, recurses := true, plainKeys := false, apart := false, narrowed := true }
def MatchEqualUptoSaid : Prop := matchEqualUptoRow.holds Try.pinned (OpenSpec.upto matchEqualSpec)

/-- 'burinlaw12.MatchFirst', WHERE WHAT IT READS IS OF BULK AT MOST 1048576: true; the input reads as it did. -/
def matchFirstUptoRow : OpenClaim := { program := "ytfniekdohidbiaa", sum := "bfab6df3b71658cd7aae00fc58ccaf8b121468156c1abc36fdab8e5fb90f2960", func := "burin/burinlaw12.MatchFirst", spec := "matchFirst", inPlace := ["math.Float64frombits"], unfollowed := true, recurses := true, plainKeys := false, apart := false, narrowed := true }
def MatchFirstUptoSaid : Prop := matchFirstUptoRow.holds Try.pinned (OpenSpec.upto matchFirstSpec)

/-- 'burinlaw12.MatchSorted', WHERE WHAT IT READS IS OF BULK AT MOST 1048576: true; the input reads as it did. -/
def matchSortedUptoRow : OpenClaim := { program := "ytfniekdohidbiaa", sum := "bfab6df3b71658cd7aae00fc58ccaf8b121468156c1abc36fdab8e5fb90f2960", func := "burin/burinlaw12.MatchSorted", spec := "matchSorted", inPlace := ["math.Float64frombits"], unfollowed := true, recurses := true, plainKeys := false, apart := false, narrowed := true }
def MatchSortedUptoSaid : Prop := matchSortedUptoRow.holds Try.pinned (OpenSpec.upto matchSortedSpec)

/-- 'burinlaw12.MatchAdded', WHERE WHAT IT READS IS OF BULK AT MOST 1048576: true; the input reads as it did. -/
def matchAddedUptoRow : OpenClaim := { program := "ytfniekdohidbiaa", sum := "bfab6df3b71658cd7aae00fc58ccaf8b121468156c1abc36fdab8e5fb90f2960", func := "burin/burinlaw12.MatchAdded", spec := "matchAdded", inPlace := ["math.Float64frombits"], unfollowed := true, recurses := true, plainKeys := false, apart := false, narrowed := true }
def MatchAddedUptoSaid : Prop := matchAddedUptoRow.holds Try.pinned (OpenSpec.upto matchAddedSpec)

/-- 'burinlaw12.MatchMany', WHERE WHAT IT READS IS OF BULK AT MOST 1048576: true; the input reads as it did. -/
def matchManyUptoRow : OpenClaim := { program := "ytfniekdohidbiaa", sum := "bfab6df3b71658cd7aae00fc58ccaf8b121468156c1abc36fdab8e5fb90f2960", func := "burin/burinlaw12.MatchMany", spec := "matchMany", inPlace := ["math.Float64frombits"], unfollowed := true, recurses := true, plainKeys := false, apart := false, narrowed := true }
def MatchManyUptoSaid : Prop := matchManyUptoRow.holds Try.pinned (OpenSpec.upto matchManySpec)

end Rows
end Go.Proofs.Ytfniekdohidbiaa
