/-
  DERIVED. GIVEN WITH THE SEED: THE CARDS: each row of YtgpjpmadbepblaaDoorRows.lean that lists a variable, with what it lists TIED to the program's text (the seventh form; the later family's looks); each row that meets fmt, with fmt's text TOLD by the authors' own Lean function (tested against real Go, not proved from fmt's source: count such statements apart). THE CARD IS WHAT COUNTS. Prove the row's statement (the work); the ties are given (YtgpjpmadbepblaaDoorTie.lean); close each card by the builder's one call (the guide's Derived/Test/ToyasCard.lean, 'card_holds'). Laid BY PROGRAM, IN A SANDBOX (cutbox-door.mjs). By AI agents, Wed Nov 11 2026. No macro, syntax, notation, axiom, sorry.
-/
import Derived.Test.YtgpjpmadbepblaaDoorRows
import GoSem.ClaimSeven
namespace Go.Proofs.YtgpjpmadbepblaaDoor
namespace Rows

/-- THE TIED CARD OF 'burinlaw3.PbmWrites'. -/
def pbmWritesCard : Claim7 := { stood := { row := pbmWritesRow, standIns := [], harness := (true, "b3364e174899b47dcbcb44afd3405c2ba5feaff6f2e46eb7c59fa33b162eba35"), looks := true }, kinds := [], alts := [], laidByText := true, laidKinds := [.data, .data, .data], laidTests := true, laidLooks := .later }
def PbmWritesCardSaid : Prop := Claim7.holds Tryd.pinned (.plain (OpenSpec.ofChange pbmWritesSpec)) pbmWritesCard

/-- THE TIED CARD OF 'burinlaw3.PbmReads'. -/
def pbmReadsCard : Claim7 := { stood := { row := pbmReadsRow, standIns := [], harness := (true, "b3364e174899b47dcbcb44afd3405c2ba5feaff6f2e46eb7c59fa33b162eba35"), looks := true }, kinds := [], alts := [], laidByText := true, laidKinds := [.data, .data, .data], laidTests := true, laidLooks := .later }
def PbmReadsCardSaid : Prop := Claim7.holds Tryd.pinned (.plain (OpenSpec.ofChange pbmReadsSpec)) pbmReadsCard

/-- THE TIED CARD OF 'burinlaw3.PbmBack'. -/
def pbmBackCard : Claim7 := { stood := { row := pbmBackRow, standIns := [], harness := (true, "b3364e174899b47dcbcb44afd3405c2ba5feaff6f2e46eb7c59fa33b162eba35"), looks := true }, kinds := [], alts := [], laidByText := true, laidKinds := [.data, .data, .data], laidTests := true, laidLooks := .later }
def PbmBackCardSaid : Prop := Claim7.holds Tryd.pinned (.plain (OpenSpec.ofChange pbmBackSpec)) pbmBackCard

/-- THE TIED CARD OF 'burinlaw3.PbmSpread'. -/
def pbmSpreadCard : Claim7 := { stood := { row := pbmSpreadRow, standIns := [], harness := (true, "b3364e174899b47dcbcb44afd3405c2ba5feaff6f2e46eb7c59fa33b162eba35"), looks := true }, kinds := [], alts := [], laidByText := true, laidKinds := [.data, .data, .data], laidTests := true, laidLooks := .later }
def PbmSpreadCardSaid : Prop := Claim7.holds Tryd.pinned (.plain (OpenSpec.ofChange pbmSpreadSpec)) pbmSpreadCard

/-- THE SECOND FORM's CARD OF 'burinlaw3.PbmWrites'. -/
def pbmWritesUptoCard : Claim7 := { stood := { row := pbmWritesUptoRow, standIns := [], harness := (true, "b3364e174899b47dcbcb44afd3405c2ba5feaff6f2e46eb7c59fa33b162eba35"), looks := true }, kinds := [], alts := [], laidByText := true, laidKinds := [.data, .data, .data], laidTests := true, laidLooks := .later }
def PbmWritesUptoCardSaid : Prop := Claim7.holds Tryd.pinned (.plain (OpenSpec.upto pbmWritesSpec)) pbmWritesUptoCard

/-- THE SECOND FORM's CARD OF 'burinlaw3.PbmReads'. -/
def pbmReadsUptoCard : Claim7 := { stood := { row := pbmReadsUptoRow, standIns := [], harness := (true, "b3364e174899b47dcbcb44afd3405c2ba5feaff6f2e46eb7c59fa33b162eba35"), looks := true }, kinds := [], alts := [], laidByText := true, laidKinds := [.data, .data, .data], laidTests := true, laidLooks := .later }
def PbmReadsUptoCardSaid : Prop := Claim7.holds Tryd.pinned (.plain (OpenSpec.upto pbmReadsSpec)) pbmReadsUptoCard

/-- THE SECOND FORM's CARD OF 'burinlaw3.PbmBack'. -/
def pbmBackUptoCard : Claim7 := { stood := { row := pbmBackUptoRow, standIns := [], harness := (true, "b3364e174899b47dcbcb44afd3405c2ba5feaff6f2e46eb7c59fa33b162eba35"), looks := true }, kinds := [], alts := [], laidByText := true, laidKinds := [.data, .data, .data], laidTests := true, laidLooks := .later }
def PbmBackUptoCardSaid : Prop := Claim7.holds Tryd.pinned (.plain (OpenSpec.upto pbmBackSpec)) pbmBackUptoCard

/-- THE SECOND FORM's CARD OF 'burinlaw3.PbmSpread'. -/
def pbmSpreadUptoCard : Claim7 := { stood := { row := pbmSpreadUptoRow, standIns := [], harness := (true, "b3364e174899b47dcbcb44afd3405c2ba5feaff6f2e46eb7c59fa33b162eba35"), looks := true }, kinds := [], alts := [], laidByText := true, laidKinds := [.data, .data, .data], laidTests := true, laidLooks := .later }
def PbmSpreadUptoCardSaid : Prop := Claim7.holds Tryd.pinned (.plain (OpenSpec.upto pbmSpreadSpec)) pbmSpreadUptoCard
end Rows
end Go.Proofs.YtgpjpmadbepblaaDoor
