/-
  DERIVED. GIVEN WITH THE SEED: THE CARDS: each row of YtiahgkpihbchbaaGreatDoorRows.lean that lists a variable, with what it lists TIED to the program's text (the seventh form; the later family's looks); each row that meets fmt, with fmt's text TOLD by the authors' own Lean function (tested against real Go, not proved from fmt's source: count such statements apart). THE CARD IS WHAT COUNTS. Prove the row's statement (the work); the ties are given (YtiahgkpihbchbaaGreatDoorTie.lean); close each card by the builder's one call (the guide's Derived/Test/ToyasCard.lean, 'card_holds'). Laid BY PROGRAM, IN A SANDBOX (cutbox-door.mjs). By AI agents, Wed Nov 11 2026. No macro, syntax, notation, axiom, sorry.
-/
import Derived.Test.YtiahgkpihbchbaaGreatDoorRows
import GoSem.ClaimSeven
namespace Go.Proofs.YtiahgkpihbchbaaGreatDoor
namespace Rows

/-- THE TIED CARD OF 'linkworklaw05.PolyThrough'. -/
def polyThroughCard : Claim7 := { stood := { row := polyThroughRow, standIns := [], harness := (true, "49ad8d190c84d0386a9089b3dcb6ce69e2031207b1432cd7a4cab0ec1f8e67b9"), looks := true }, kinds := [], alts := [], laidByText := true, laidKinds := [.data, .data, .data], laidTests := true, laidLooks := .later }
def PolyThroughCardSaid : Prop := Claim7.holds Tryz.pinned (.plain (OpenSpec.ofChange polyThroughSpec)) polyThroughCard

/-- THE TIED CARD OF 'linkworklaw05.PolyChecks'. -/
def polyChecksCard : Claim7 := { stood := { row := polyChecksRow, standIns := [], harness := (true, "49ad8d190c84d0386a9089b3dcb6ce69e2031207b1432cd7a4cab0ec1f8e67b9"), looks := true }, kinds := [], alts := [], laidByText := true, laidKinds := [.data, .data, .data], laidTests := true, laidLooks := .later }
def PolyChecksCardSaid : Prop := Claim7.holds Tryz.pinned (.plain (OpenSpec.ofChange polyChecksSpec)) polyChecksCard

/-- THE TIED CARD OF 'linkworklaw05.PolyDivides'. -/
def polyDividesCard : Claim7 := { stood := { row := polyDividesRow, standIns := [], harness := (true, "49ad8d190c84d0386a9089b3dcb6ce69e2031207b1432cd7a4cab0ec1f8e67b9"), looks := true }, kinds := [], alts := [], laidByText := true, laidKinds := [.data, .data, .data], laidTests := true, laidLooks := .later }
def PolyDividesCardSaid : Prop := Claim7.holds Tryz.pinned (.plain (OpenSpec.ofChange polyDividesSpec)) polyDividesCard

/-- THE TIED CARD OF 'linkworklaw05.PolyQuotients'. -/
def polyQuotientsCard : Claim7 := { stood := { row := polyQuotientsRow, standIns := [], harness := (true, "49ad8d190c84d0386a9089b3dcb6ce69e2031207b1432cd7a4cab0ec1f8e67b9"), looks := true }, kinds := [], alts := [], laidByText := true, laidKinds := [.data, .data, .data], laidTests := true, laidLooks := .later }
def PolyQuotientsCardSaid : Prop := Claim7.holds Tryz.pinned (.plain (OpenSpec.ofChange polyQuotientsSpec)) polyQuotientsCard

/-- THE TIED CARD OF 'linkworklaw05.PolyDerives'. -/
def polyDerivesCard : Claim7 := { stood := { row := polyDerivesRow, standIns := [], harness := (true, "49ad8d190c84d0386a9089b3dcb6ce69e2031207b1432cd7a4cab0ec1f8e67b9"), looks := true }, kinds := [], alts := [], laidByText := true, laidKinds := [.data, .data, .data], laidTests := true, laidLooks := .later }
def PolyDerivesCardSaid : Prop := Claim7.holds Tryz.pinned (.plain (OpenSpec.ofChange polyDerivesSpec)) polyDerivesCard

/-- THE TIED CARD OF 'linkworklaw05.PolyRing'. -/
def polyRingCard : Claim7 := { stood := { row := polyRingRow, standIns := [], harness := (true, "49ad8d190c84d0386a9089b3dcb6ce69e2031207b1432cd7a4cab0ec1f8e67b9"), looks := true }, kinds := [], alts := [], laidByText := true, laidKinds := [.data, .data, .data], laidTests := true, laidLooks := .later }
def PolyRingCardSaid : Prop := Claim7.holds Tryz.pinned (.plain (OpenSpec.ofChange polyRingSpec)) polyRingCard

/-- THE TIED CARD OF 'linkworklaw05.PolyComputes'. -/
def polyComputesCard : Claim7 := { stood := { row := polyComputesRow, standIns := [], harness := (true, "49ad8d190c84d0386a9089b3dcb6ce69e2031207b1432cd7a4cab0ec1f8e67b9"), looks := true }, kinds := [], alts := [], laidByText := true, laidKinds := [.data, .data, .data], laidTests := true, laidLooks := .later }
def PolyComputesCardSaid : Prop := Claim7.holds Tryz.pinned (.plain (OpenSpec.ofChange polyComputesSpec)) polyComputesCard

/-- THE TIED CARD OF 'linkworklaw05.PolyEvaluates'. -/
def polyEvaluatesCard : Claim7 := { stood := { row := polyEvaluatesRow, standIns := [], harness := (true, "49ad8d190c84d0386a9089b3dcb6ce69e2031207b1432cd7a4cab0ec1f8e67b9"), looks := true }, kinds := [], alts := [], laidByText := true, laidKinds := [.data, .data, .data], laidTests := true, laidLooks := .later }
def PolyEvaluatesCardSaid : Prop := Claim7.holds Tryz.pinned (.plain (OpenSpec.ofChange polyEvaluatesSpec)) polyEvaluatesCard

/-- THE TIED CARD OF 'linkworklaw05.PolyOver'. -/
def polyOverCard : Claim7 := { stood := { row := polyOverRow, standIns := [], harness := (true, "49ad8d190c84d0386a9089b3dcb6ce69e2031207b1432cd7a4cab0ec1f8e67b9"), looks := true }, kinds := [], alts := [], laidByText := true, laidKinds := [.data, .data, .data], laidTests := true, laidLooks := .later }
def PolyOverCardSaid : Prop := Claim7.holds Tryz.pinned (.plain (OpenSpec.ofChange polyOverSpec)) polyOverCard

/-- THE SECOND FORM's CARD OF 'linkworklaw05.PolyThrough'. -/
def polyThroughUptoCard : Claim7 := { stood := { row := polyThroughUptoRow, standIns := [], harness := (true, "49ad8d190c84d0386a9089b3dcb6ce69e2031207b1432cd7a4cab0ec1f8e67b9"), looks := true }, kinds := [], alts := [], laidByText := true, laidKinds := [.data, .data, .data], laidTests := true, laidLooks := .later }
def PolyThroughUptoCardSaid : Prop := Claim7.holds Tryz.pinned (.plain (OpenSpec.upto polyThroughSpec)) polyThroughUptoCard

/-- THE SECOND FORM's CARD OF 'linkworklaw05.PolyChecks'. -/
def polyChecksUptoCard : Claim7 := { stood := { row := polyChecksUptoRow, standIns := [], harness := (true, "49ad8d190c84d0386a9089b3dcb6ce69e2031207b1432cd7a4cab0ec1f8e67b9"), looks := true }, kinds := [], alts := [], laidByText := true, laidKinds := [.data, .data, .data], laidTests := true, laidLooks := .later }
def PolyChecksUptoCardSaid : Prop := Claim7.holds Tryz.pinned (.plain (OpenSpec.upto polyChecksSpec)) polyChecksUptoCard

/-- THE SECOND FORM's CARD OF 'linkworklaw05.PolyDivides'. -/
def polyDividesUptoCard : Claim7 := { stood := { row := polyDividesUptoRow, standIns := [], harness := (true, "49ad8d190c84d0386a9089b3dcb6ce69e2031207b1432cd7a4cab0ec1f8e67b9"), looks := true }, kinds := [], alts := [], laidByText := true, laidKinds := [.data, .data, .data], laidTests := true, laidLooks := .later }
def PolyDividesUptoCardSaid : Prop := Claim7.holds Tryz.pinned (.plain (OpenSpec.upto polyDividesSpec)) polyDividesUptoCard

/-- THE SECOND FORM's CARD OF 'linkworklaw05.PolyQuotients'. -/
def polyQuotientsUptoCard : Claim7 := { stood := { row := polyQuotientsUptoRow, standIns := [], harness := (true, "49ad8d190c84d0386a9089b3dcb6ce69e2031207b1432cd7a4cab0ec1f8e67b9"), looks := true }, kinds := [], alts := [], laidByText := true, laidKinds := [.data, .data, .data], laidTests := true, laidLooks := .later }
def PolyQuotientsUptoCardSaid : Prop := Claim7.holds Tryz.pinned (.plain (OpenSpec.upto polyQuotientsSpec)) polyQuotientsUptoCard

/-- THE SECOND FORM's CARD OF 'linkworklaw05.PolyDerives'. -/
def polyDerivesUptoCard : Claim7 := { stood := { row := polyDerivesUptoRow, standIns := [], harness := (true, "49ad8d190c84d0386a9089b3dcb6ce69e2031207b1432cd7a4cab0ec1f8e67b9"), looks := true }, kinds := [], alts := [], laidByText := true, laidKinds := [.data, .data, .data], laidTests := true, laidLooks := .later }
def PolyDerivesUptoCardSaid : Prop := Claim7.holds Tryz.pinned (.plain (OpenSpec.upto polyDerivesSpec)) polyDerivesUptoCard

/-- THE SECOND FORM's CARD OF 'linkworklaw05.PolyRing'. -/
def polyRingUptoCard : Claim7 := { stood := { row := polyRingUptoRow, standIns := [], harness := (true, "49ad8d190c84d0386a9089b3dcb6ce69e2031207b1432cd7a4cab0ec1f8e67b9"), looks := true }, kinds := [], alts := [], laidByText := true, laidKinds := [.data, .data, .data], laidTests := true, laidLooks := .later }
def PolyRingUptoCardSaid : Prop := Claim7.holds Tryz.pinned (.plain (OpenSpec.upto polyRingSpec)) polyRingUptoCard

/-- THE SECOND FORM's CARD OF 'linkworklaw05.PolyComputes'. -/
def polyComputesUptoCard : Claim7 := { stood := { row := polyComputesUptoRow, standIns := [], harness := (true, "49ad8d190c84d0386a9089b3dcb6ce69e2031207b1432cd7a4cab0ec1f8e67b9"), looks := true }, kinds := [], alts := [], laidByText := true, laidKinds := [.data, .data, .data], laidTests := true, laidLooks := .later }
def PolyComputesUptoCardSaid : Prop := Claim7.holds Tryz.pinned (.plain (OpenSpec.upto polyComputesSpec)) polyComputesUptoCard

/-- THE SECOND FORM's CARD OF 'linkworklaw05.PolyEvaluates'. -/
def polyEvaluatesUptoCard : Claim7 := { stood := { row := polyEvaluatesUptoRow, standIns := [], harness := (true, "49ad8d190c84d0386a9089b3dcb6ce69e2031207b1432cd7a4cab0ec1f8e67b9"), looks := true }, kinds := [], alts := [], laidByText := true, laidKinds := [.data, .data, .data], laidTests := true, laidLooks := .later }
def PolyEvaluatesUptoCardSaid : Prop := Claim7.holds Tryz.pinned (.plain (OpenSpec.upto polyEvaluatesSpec)) polyEvaluatesUptoCard

/-- THE SECOND FORM's CARD OF 'linkworklaw05.PolyOver'. -/
def polyOverUptoCard : Claim7 := { stood := { row := polyOverUptoRow, standIns := [], harness := (true, "49ad8d190c84d0386a9089b3dcb6ce69e2031207b1432cd7a4cab0ec1f8e67b9"), looks := true }, kinds := [], alts := [], laidByText := true, laidKinds := [.data, .data, .data], laidTests := true, laidLooks := .later }
def PolyOverUptoCardSaid : Prop := Claim7.holds Tryz.pinned (.plain (OpenSpec.upto polyOverSpec)) polyOverUptoCard
end Rows
end Go.Proofs.YtiahgkpihbchbaaGreatDoor
