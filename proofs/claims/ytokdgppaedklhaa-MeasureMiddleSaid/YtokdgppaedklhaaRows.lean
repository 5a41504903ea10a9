/-
  No cell of these rows narrows 'for every input' (looked for: loops, veiled, ifaces, maps, wideKeys, modest, calm, conditions, laid).
  DERIVED. THE GIVEN ROWS OF THIS SEAT. 8 by the template 'for every input the law returns true; each argument reads behind the call as it read before'; 0 by the template 'total and deterministic' (their statements: YtokdgppaedklhaaTotals.lean).
  GIVEN WITH THE SEED: the statements are not yours to turn. If you find one false, say at which input.
  Laid BY PROGRAM, IN A SANDBOX (cutbox-rows.mjs): the forced cells as the released guide's own fill.sh prints them over the translation 7bed015103df60f4… (all of the seat's roots in one cut). By AI agents, Wed Nov 11 2026. No macro, syntax, notation, axiom, sorry.
-/
import Derived.Test.YtokdgppaedklhaaChecked
import GoSem.Claim
import GoSem.ClaimJoined
import GoSem.ClaimMapViews
import Derived.JoinedTies
import Derived.KernelRfl
namespace Go.Proofs.Ytokdgppaedklhaa
/- THE CELL 'sum', in the pinned program and in every row, IS THE sha256 OF THE DUMP (.gsa) THAT YtokdgppaedklhaaProg.lean LOADS. Nothing in Lean hashes anything: it is a label: what it is worth is what the hold of that sum in a sandbox is worth. -/
noncomputable def Try.pinned : Pinned := { name := "ytokdgppaedklhaa", sum := "7bed015103df60f4a5af2afc72024a0c4889aec5a7daaeef003f72e3ccf79ca3", checked := Try.checked }
namespace Rows
def none {H : Type} : Left H := { results := [], args := [] }

/-- 'burinlaw11.MeasureShares': WHATEVER THE INPUT: true; the input reads as it did. -/
def measureSharesSpec : ChangeSpec := { name := "measureShares", fn := fun _ => fun
  | [d] => { results := [.lit (.bool true)], args := [d] }
  | _ => none }
def measureSharesRow : OpenClaim := { program := "ytokdgppaedklhaa", sum := "7bed015103df60f4a5af2afc72024a0c4889aec5a7daaeef003f72e3ccf79ca3", func := "burin/burinlaw11.MeasureShares", spec := "measureShares", inPlace := ["math.Float64bits", "math.Float64frombits"], apart := false }
def MeasureSharesSaid : Prop := measureSharesRow.holds Try.pinned (OpenSpec.ofChange measureSharesSpec)

/-- ITS FALSE NEIGHBOUR: 'it returns false'. Refute it at one input. -/
def measureSharesWrong : ChangeSpec := { name := "measureShares", fn := fun _ => fun
  | [d] => { results := [.lit (.bool false)], args := [d] }
  | _ => none }
def MeasureSharesWrongFalsely : Prop := measureSharesRow.holds Try.pinned (OpenSpec.ofChange measureSharesWrong)

/-- 'burinlaw11.MeasureScaled': WHATEVER THE INPUT: true; the input reads as it did. -/
def measureScaledSpec : ChangeSpec := { name := "measureScaled", fn := fun _ => fun
  | [d] => { results := [.lit (.bool true)], args := [d] }
  | _ => none }
def measureScaledRow : OpenClaim := { program := "ytokdgppaedklhaa", sum := "7bed015103df60f4a5af2afc72024a0c4889aec5a7daaeef003f72e3ccf79ca3", func := "burin/burinlaw11.MeasureScaled", spec := "measureScaled", inPlace := ["math.Float64bits", "math.Float64frombits"], apart := false }
def MeasureScaledSaid : Prop := measureScaledRow.holds Try.pinned (OpenSpec.ofChange measureScaledSpec)

/-- ITS FALSE NEIGHBOUR: 'it returns false'. Refute it at one input. -/
def measureScaledWrong : ChangeSpec := { name := "measureScaled", fn := fun _ => fun
  | [d] => { results := [.lit (.bool false)], args := [d] }
  | _ => none }
def MeasureScaledWrongFalsely : Prop := measureScaledRow.holds Try.pinned (OpenSpec.ofChange measureScaledWrong)

/-- 'burinlaw11.MeasureWithin': WHATEVER THE INPUT: true; the input reads as it did. -/
def measureWithinSpec : ChangeSpec := { name := "measureWithin", fn := fun _ => fun
  | [d] => { results := [.lit (.bool true)], args := [d] }
  | _ => none }
def measureWithinRow : OpenClaim := { program := "ytokdgppaedklhaa", sum := "7bed015103df60f4a5af2afc72024a0c4889aec5a7daaeef003f72e3ccf79ca3", func := "burin/burinlaw11.MeasureWithin", spec := "measureWithin", inPlace := ["math.Float64frombits", "math.Float64bits"], apart := false }
def MeasureWithinSaid : Prop := measureWithinRow.holds Try.pinned (OpenSpec.ofChange measureWithinSpec)

/-- ITS FALSE NEIGHBOUR: 'it returns false'. Refute it at one input. -/
def measureWithinWrong : ChangeSpec := { name := "measureWithin", fn := fun _ => fun
  | [d] => { results := [.lit (.bool false)], args := [d] }
  | _ => none }
def MeasureWithinWrongFalsely : Prop := measureWithinRow.holds Try.pinned (OpenSpec.ofChange measureWithinWrong)

/-- 'burinlaw11.MeasureMiddle': WHATEVER THE INPUT: true; the input reads as it did. -/
def measureMiddleSpec : ChangeSpec := { name := "measureMiddle", fn := fun _ => fun
  | [d] => { results := [.lit (.bool true)], args := [d] }
  | _ => none }
def measureMiddleRow : OpenClaim := { program := "ytokdgppaedklhaa", sum := "7bed015103df60f4a5af2afc72024a0c4889aec5a7daaeef003f72e3ccf79ca3", func := "burin/burinlaw11.MeasureMiddle", spec := "measureMiddle", inPlace := ["math.Float64bits", "math.Float64frombits"], apart := false }
def MeasureMiddleSaid : Prop := measureMiddleRow.holds Try.pinned (OpenSpec.ofChange measureMiddleSpec)

/-- ITS FALSE NEIGHBOUR: 'it returns false'. Refute it at one input. -/
def measureMiddleWrong : ChangeSpec := { name := "measureMiddle", fn := fun _ => fun
  | [d] => { results := [.lit (.bool false)], args := [d] }
  | _ => none }
def MeasureMiddleWrongFalsely : Prop := measureMiddleRow.holds Try.pinned (OpenSpec.ofChange measureMiddleWrong)

/-- 'burinlaw11.MeasureNear': WHATEVER THE INPUT: true; the input reads as it did. -/
def measureNearSpec : ChangeSpec := { name := "measureNear", fn := fun _ => fun
  | [d] => { results := [.lit (.bool true)], args := [d] }
  | _ => none }
def measureNearRow : OpenClaim := { program := "ytokdgppaedklhaa", sum := "7bed015103df60f4a5af2afc72024a0c4889aec5a7daaeef003f72e3ccf79ca3", func := "burin/burinlaw11.MeasureNear", spec := "measureNear", inPlace := ["math.Float64frombits", "math.Float64bits"], unfollowed := true, recurses := true, apart := false }
def MeasureNearSaid : Prop := measureNearRow.holds Try.pinned (OpenSpec.ofChange measureNearSpec)

/-- ITS FALSE NEIGHBOUR: 'it returns false'. Refute it at one input. -/
def measureNearWrong : ChangeSpec := { name := "measureNear", fn := fun _ => fun
  | [d] => { results := [.lit (.bool false)], args := [d] }
  | _ => none }
def MeasureNearWrongFalsely : Prop := measureNearRow.holds Try.pinned (OpenSpec.ofChange measureNearWrong)

/-- 'burinlaw11.MeasureOrder': WHATEVER THE INPUT: true; the input reads as it did. -/
def measureOrderSpec : ChangeSpec := { name := "measureOrder", fn := fun _ => fun
  | [d] => { results := [.lit (.bool true)], args := [d] }
  | _ => none }
def measureOrderRow : OpenClaim := { program := "ytokdgppaedklhaa", sum := "7bed015103df60f4a5af2afc72024a0c4889aec5a7daaeef003f72e3ccf79ca3", func := "burin/burinlaw11.MeasureOrder", spec := "measureOrder", inPlace := ["math.Float64frombits", "math.Float64bits"], unfollowed := true, recurses := true, apart := false }
def MeasureOrderSaid : Prop := measureOrderRow.holds Try.pinned (OpenSpec.ofChange measureOrderSpec)

/-- ITS FALSE NEIGHBOUR: 'it returns false'. Refute it at one input. -/
def measureOrderWrong : ChangeSpec := { name := "measureOrder", fn := fun _ => fun
  | [d] => { results := [.lit (.bool false)], args := [d] }
  | _ => none }
def MeasureOrderWrongFalsely : Prop := measureOrderRow.holds Try.pinned (OpenSpec.ofChange measureOrderWrong)

/-- 'burinlaw11.MeasureCounts': WHATEVER THE INPUT: true; the input reads as it did. -/
def measureCountsSpec : ChangeSpec := { name := "measureCounts", fn := fun _ => fun
  | [d] => { results := [.lit (.bool true)], args := [d] }
  | _ => none }
def measureCountsRow : OpenClaim := { program := "ytokdgppaedklhaa", sum := "7bed015103df60f4a5af2afc72024a0c4889aec5a7daaeef003f72e3ccf79ca3", func := "burin/burinlaw11.MeasureCounts", spec := "measureCounts", inPlace := ["math.Float64bits", "math.Float64frombits"], unfollowed := true, recurses := true, apart := false }
def MeasureCountsSaid : Prop := measureCountsRow.holds Try.pinned (OpenSpec.ofChange measureCountsSpec)

/-- ITS FALSE NEIGHBOUR: 'it returns false'. Refute it at one input. -/
def measureCountsWrong : ChangeSpec := { name := "measureCounts", fn := fun _ => fun
  | [d] => { results := [.lit (.bool false)], args := [d] }
  | _ => none }
def MeasureCountsWrongFalsely : Prop := measureCountsRow.holds Try.pinned (OpenSpec.ofChange measureCountsWrong)

/-- 'burinlaw11.MeasureMeans': WHATEVER THE INPUT: true; the input reads as it did. -/
def measureMeansSpec : ChangeSpec := { name := "measureMeans", fn := fun _ => fun
  | [d] => { results := [.lit (.bool true)], args := [d] }
  | _ => none }
def measureMeansRow : OpenClaim := { program := "ytokdgppaedklhaa", sum := "7bed015103df60f4a5af2afc72024a0c4889aec5a7daaeef003f72e3ccf79ca3", func := "burin/burinlaw11.MeasureMeans", spec := "measureMeans", inPlace := ["math.Float64bits", "math.Float64frombits"], unfollowed := true, recurses := true, apart := false }
def MeasureMeansSaid : Prop := measureMeansRow.holds Try.pinned (OpenSpec.ofChange measureMeansSpec)

/-- ITS FALSE NEIGHBOUR: 'it returns false'. Refute it at one input. -/
def measureMeansWrong : ChangeSpec := { name := "measureMeans", fn := fun _ => fun
  | [d] => { results := [.lit (.bool false)], args := [d] }
  | _ => none }
def MeasureMeansWrongFalsely : Prop := measureMeansRow.holds Try.pinned (OpenSpec.ofChange measureMeansWrong)

/- THE SECOND FORM. 'bulk': how many values and letters a reading holds, each counted each time it is reached (what is shared counts as often as it is met; a slice's spare places count too). A statement '..UptoSaid' is the law's where the arguments, and the package variables that the reading takes, are together of bulk at most 1048576: NARROWER than '..Said'. Prove '..Said' where nothing that the law and all that it calls make is longer than what came in: it says more and counts as full. Else prove '..UptoSaid'. A law counts once. -/
mutual
def uptoBulk {H : Type} : DataW H → Nat
  | .lit (.string bytes) => bytes.length + 1
  | .lit _ => 1
  | .nil => 1
  | .ptr d => uptoBulk d + 1
  | .slice elems spare => uptoBulkAll elems + uptoBulkAll spare + 1
  | .agg parts => uptoBulkAll parts + 1
  | .iface _ d => uptoBulk d + 1
  | .map entries => uptoBulkEntries entries + 1
  | .held _ => 1
def uptoBulkAll {H : Type} : List (DataW H) → Nat
  | [] => 0
  | d :: r => uptoBulk d + uptoBulkAll r
def uptoBulkEntries {H : Type} : List (Lit × DataW H) → Nat
  | [] => 0
  | x :: r => uptoBulkEntry x + uptoBulkEntries r
def uptoBulkEntry {H : Type} : Lit × DataW H → Nat
  | (.string bytes, d) => bytes.length + uptoBulk d + 1
  | (_, d) => uptoBulk d + 1
 end
def uptoSmall : (H : Type) → List (DataW H) → Bool := fun _ ds => decide (uptoBulkAll ds ≤ 1048576)
def OpenSpec.upto (s : _root_.Go.ChangeSpec) : _root_.Go.OpenSpec := { _root_.Go.OpenSpec.ofChange s with cond := some uptoSmall }

/-- 'burinlaw11.MeasureShares', WHERE WHAT IT READS IS OF BULK AT MOST 1048576: true; the input reads as it did. -/
def measureSharesUptoRow : OpenClaim := { program := "ytokdgppaedklhaa", sum := "7bed015103df60f4a5af2afc72024a0c4889aec5a7daaeef003f72e3ccf79ca3", func := "burin/burinlaw11.MeasureShares", spec := "measureShares", inPlace := ["math.Float64bits", "math.Float64frombits"], apart := false, narrowed := true }
def MeasureSharesUptoSaid : Prop := measureSharesUptoRow.holds Try.pinned (OpenSpec.upto measureSharesSpec)

/-- 'burinlaw11.MeasureScaled', WHERE WHAT IT READS IS OF BULK AT MOST 1048576: true; the input reads as it did. -/
def measureScaledUptoRow : OpenClaim := { program := "ytokdgppaedklhaa", sum := "7bed015103df60f4a5af2afc72024a0c4889aec5a7daaeef003f72e3ccf79ca3", func := "burin/burinlaw11.MeasureScaled", spec := "measureScaled", inPlace := ["math.Float64bits", "math.Float64frombits"], apart := false, narrowed := true }
def MeasureScaledUptoSaid : Prop := measureScaledUptoRow.holds Try.pinned (OpenSpec.upto measureScaledSpec)

/-- 'burinlaw11.MeasureWithin', WHERE WHAT IT READS IS OF BULK AT MOST 1048576: true; the input reads as it did. -/
def measureWithinUptoRow : OpenClaim := { program := "ytokdgppaedklhaa", sum := "7bed015103df60f4a5af2afc72024a0c4889aec5a7daaeef003f72e3ccf79ca3", func := "burin/burinlaw11.MeasureWithin", spec := "measureWithin", inPlace := ["math.Float64frombits", "math.Float64bits"], apart := false, narrowed := true }
def MeasureWithinUptoSaid : Prop := measureWithinUptoRow.holds Try.pinned (OpenSpec.upto measureWithinSpec)

/-- 'burinlaw11.MeasureMiddle', WHERE WHAT IT READS IS OF BULK AT MOST 1048576: true; the input reads as it did. -/
def measureMiddleUptoRow : OpenClaim := { program := "ytokdgppaedklhaa", sum := "7bed015103df60f4a5af2afc72024a0c4889aec5a7daaeef003f72e3ccf79ca3", func := "burin/burinlaw11.MeasureMiddle", spec := "measureMiddle", inPlace := ["math.Float64bits", "math.Float64frombits"], apart := false, narrowed := true }
def MeasureMiddleUptoSaid : Prop := measureMiddleUptoRow.holds Try.pinned (OpenSpec.upto measureMiddleSpec)

/-- 'burinlaw11.MeasureNear', WHERE WHAT IT READS IS OF BULK AT MOST 1048576: true; the input reads as it did. -/
def measureNearUptoRow : OpenClaim := { program := "ytokdgppaedklhaa", sum := "7bed015103df60f4a5af2afc72024a0c4889aec5a7daaeef003f72e3ccf79ca3", func := "burin/burinlaw11.MeasureNear", spec := "measureNear", inPlace := ["math.Float64frombits", "math.Float64bits"], unfollowed := true, recurses := true, apart := false, narrowed := true }
def MeasureNearUptoSaid : Prop := measureNearUptoRow.holds Try.pinned (OpenSpec.upto measureNearSpec)

/-- 'burinlaw11.MeasureOrder', WHERE WHAT IT READS IS OF BULK AT MOST 1048576: true; the input reads as it did. -/
def measureOrderUptoRow : OpenClaim := { program := "ytokdgppaedklhaa", sum := "7bed015103df60f4a5af2afc72024a0c4889aec5a7daaeef003f72e3ccf79ca3", func := "burin/burinlaw11.MeasureOrder", spec := "measureOrder", inPlace := ["math.Float64frombits", "math.Float64bits"], unfollowed := true, recurses := true, apart := false, narrowed := true }
def MeasureOrderUptoSaid : Prop := measureOrderUptoRow.holds Try.pinned (OpenSpec.upto measureOrderSpec)

/-- 'burinlaw11.MeasureCounts', WHERE WHAT IT READS IS OF BULK AT MOST 1048576: true; the input reads as it did. -/
def measureCountsUptoRow : OpenClaim := { program := "ytokdgppaedklhaa", sum := "7bed015103df60f4a5af2afc72024a0c4889aec5a7daaeef003f72e3ccf79ca3", func := "burin/burinlaw11.MeasureCounts", spec := "measureCounts", inPlace := ["math.Float64bits", "math.Float64frombits"], unfollowed := true, recurses := true, apart := false, narrowed := true }
def MeasureCountsUptoSaid : Prop := measureCountsUptoRow.holds Try.pinned (OpenSpec.upto measureCountsSpec)

/-- 'burinlaw11.MeasureMeans', WHERE WHAT IT READS IS OF BULK AT MOST 1048576: true; the input reads as it did. -/
def measureMeansUptoRow : OpenClaim := { program := "ytokdgppaedklhaa", sum := "7bed015103df60f4a5af2afc72024a0c4889aec5a7daaeef003f72e3ccf79ca3", func := "burin/burinlaw11.MeasureMeans", spec := "measureMeans", inPlace := ["math.Float64bits", "math.Float64frombits"], unfollowed := true, recurses := true, apart := false, narrowed := true }
def MeasureMeansUptoSaid : Prop := measureMeansUptoRow.holds Try.pinned (OpenSpec.upto measureMeansSpec)

end Rows
end Go.Proofs.Ytokdgppaedklhaa
