/-
  DERIVED. GIVEN WITH THE SEED: THE CARDS: each row of YtokdgppaedklhaaDoorRows.lean that lists a variable, with what it lists TIED to the program's text (the seventh form; the later family's looks); each row that meets fmt, with fmt's text TOLD by the authors' own Lean function (tested against real Go, not proved from fmt's source: count such statements apart). THE CARD IS WHAT COUNTS. Prove the row's statement (the work); the ties are given (YtokdgppaedklhaaDoorTie.lean); close each card by the builder's one call (the guide's Derived/Test/ToyasCard.lean, 'card_holds'). Laid BY PROGRAM, IN A SANDBOX (cutbox-door.mjs). By AI agents, Wed Nov 11 2026. No macro, syntax, notation, axiom, sorry.
-/
import Derived.Test.YtokdgppaedklhaaDoorRows
import GoSem.ClaimSeven
namespace Go.Proofs.YtokdgppaedklhaaDoor
namespace Rows

/-- THE TIED CARD OF 'burinlaw11.MeasureBitmaps'. -/
def measureBitmapsCard : Claim7 := { stood := { row := measureBitmapsRow, standIns := [], harness := (true, "0c2699c54d6a834755ca39ff62849cbca2e963e2e119a29ea5d999a3774a10a1"), looks := false }, kinds := [], alts := [], laidByText := true, laidKinds := [.data], laidTests := true, laidLooks := .later }
def MeasureBitmapsCardSaid : Prop := Claim7.holds Tryd.pinned (.plain (OpenSpec.ofChange measureBitmapsSpec)) measureBitmapsCard

/-- THE TIED CARD OF 'burinlaw11.MeasureTurned'. -/
def measureTurnedCard : Claim7 := { stood := { row := measureTurnedRow, standIns := [], harness := (true, "0c2699c54d6a834755ca39ff62849cbca2e963e2e119a29ea5d999a3774a10a1"), looks := false }, kinds := [], alts := [], laidByText := true, laidKinds := [.data], laidTests := true, laidLooks := .later }
def MeasureTurnedCardSaid : Prop := Claim7.holds Tryd.pinned (.plain (OpenSpec.ofChange measureTurnedSpec)) measureTurnedCard

/-- THE SECOND FORM's CARD OF 'burinlaw11.MeasureBitmaps'. -/
def measureBitmapsUptoCard : Claim7 := { stood := { row := measureBitmapsUptoRow, standIns := [], harness := (true, "0c2699c54d6a834755ca39ff62849cbca2e963e2e119a29ea5d999a3774a10a1"), looks := false }, kinds := [], alts := [], laidByText := true, laidKinds := [.data], laidTests := true, laidLooks := .later }
def MeasureBitmapsUptoCardSaid : Prop := Claim7.holds Tryd.pinned (.plain (OpenSpec.upto measureBitmapsSpec)) measureBitmapsUptoCard

/-- THE SECOND FORM's CARD OF 'burinlaw11.MeasureTurned'. -/
def measureTurnedUptoCard : Claim7 := { stood := { row := measureTurnedUptoRow, standIns := [], harness := (true, "0c2699c54d6a834755ca39ff62849cbca2e963e2e119a29ea5d999a3774a10a1"), looks := false }, kinds := [], alts := [], laidByText := true, laidKinds := [.data], laidTests := true, laidLooks := .later }
def MeasureTurnedUptoCardSaid : Prop := Claim7.holds Tryd.pinned (.plain (OpenSpec.upto measureTurnedSpec)) measureTurnedUptoCard
end Rows
end Go.Proofs.YtokdgppaedklhaaDoor
