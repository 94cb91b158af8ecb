/-
  DERIVED. GIVEN WITH THE SEED: THE CARDS: each row of YtboilcfohmmpbaaGreatDoorRows.lean that lists a variable, with what it lists TIED to the program's text (the seventh form; the later family's looks); each row that meets fmt, with fmt's text TOLD by the authors' own Lean function (tested against real Go, not proved from fmt's source: count such statements apart). THE CARD IS WHAT COUNTS. Prove the row's statement (the work); the ties are given (YtboilcfohmmpbaaGreatDoorTie.lean); close each card by the builder's one call (the guide's Derived/Test/ToyasCard.lean, 'card_holds'). Laid BY PROGRAM, IN A SANDBOX (cutbox-door.mjs). By AI agents, Wed Nov 11 2026. No macro, syntax, notation, axiom, sorry.
-/
import Derived.Test.YtboilcfohmmpbaaGreatDoorRows
import GoSem.ClaimSeven
namespace Go.Proofs.YtboilcfohmmpbaaGreatDoor
namespace Rows

/-- THE TIED CARD OF 'linkworklaw08.ResultantComputes'. -/
def resultantComputesCard : Claim7 := { stood := { row := resultantComputesRow, standIns := [], harness := (true, "a9a70914656052aea536306a7a6b405b66acc256124caddd2be16e4a681b9c52"), looks := true }, kinds := [], alts := [], laidByText := true, laidKinds := [.data, .data, .data], laidTests := true, laidLooks := .later }
def ResultantComputesCardSaid : Prop := Claim7.holds Tryz.pinned (.plain (OpenSpec.ofChange resultantComputesSpec)) resultantComputesCard

/-- THE TIED CARD OF 'linkworklaw08.ResultantProducts'. -/
def resultantProductsCard : Claim7 := { stood := { row := resultantProductsRow, standIns := [], harness := (true, "a9a70914656052aea536306a7a6b405b66acc256124caddd2be16e4a681b9c52"), looks := true }, kinds := [], alts := [], laidByText := true, laidKinds := [.data, .data, .data], laidTests := true, laidLooks := .later }
def ResultantProductsCardSaid : Prop := Claim7.holds Tryz.pinned (.plain (OpenSpec.ofChange resultantProductsSpec)) resultantProductsCard

/-- THE TIED CARD OF 'linkworklaw08.ResultantRoots'. -/
def resultantRootsCard : Claim7 := { stood := { row := resultantRootsRow, standIns := [], harness := (true, "a9a70914656052aea536306a7a6b405b66acc256124caddd2be16e4a681b9c52"), looks := true }, kinds := [], alts := [], laidByText := true, laidKinds := [.data, .data, .data], laidTests := true, laidLooks := .later }
def ResultantRootsCardSaid : Prop := Claim7.holds Tryz.pinned (.plain (OpenSpec.ofChange resultantRootsSpec)) resultantRootsCard

/-- THE TIED CARD OF 'linkworklaw08.ResultantCommon'. -/
def resultantCommonCard : Claim7 := { stood := { row := resultantCommonRow, standIns := [], harness := (true, "a9a70914656052aea536306a7a6b405b66acc256124caddd2be16e4a681b9c52"), looks := true }, kinds := [], alts := [], laidByText := true, laidKinds := [.data, .data, .data], laidTests := true, laidLooks := .later }
def ResultantCommonCardSaid : Prop := Claim7.holds Tryz.pinned (.plain (OpenSpec.ofChange resultantCommonSpec)) resultantCommonCard

/-- THE TIED CARD OF 'linkworklaw08.ResultantSquares'. -/
def resultantSquaresCard : Claim7 := { stood := { row := resultantSquaresRow, standIns := [], harness := (true, "a9a70914656052aea536306a7a6b405b66acc256124caddd2be16e4a681b9c52"), looks := true }, kinds := [], alts := [], laidByText := true, laidKinds := [.data, .data, .data], laidTests := true, laidLooks := .later }
def ResultantSquaresCardSaid : Prop := Claim7.holds Tryz.pinned (.plain (OpenSpec.ofChange resultantSquaresSpec)) resultantSquaresCard

/-- THE TIED CARD OF 'linkworklaw08.ResultantBezout'. -/
def resultantBezoutCard : Claim7 := { stood := { row := resultantBezoutRow, standIns := [], harness := (true, "a9a70914656052aea536306a7a6b405b66acc256124caddd2be16e4a681b9c52"), looks := true }, kinds := [], alts := [], laidByText := true, laidKinds := [.data, .data, .data], laidTests := true, laidLooks := .later }
def ResultantBezoutCardSaid : Prop := Claim7.holds Tryz.pinned (.plain (OpenSpec.ofChange resultantBezoutSpec)) resultantBezoutCard

/-- THE TIED CARD OF 'linkworklaw08.ResultantCertifies'. -/
def resultantCertifiesCard : Claim7 := { stood := { row := resultantCertifiesRow, standIns := [], harness := (true, "a9a70914656052aea536306a7a6b405b66acc256124caddd2be16e4a681b9c52"), looks := true }, kinds := [], alts := [], laidByText := true, laidKinds := [.data, .data, .data], laidTests := true, laidLooks := .later }
def ResultantCertifiesCardSaid : Prop := Claim7.holds Tryz.pinned (.plain (OpenSpec.ofChange resultantCertifiesSpec)) resultantCertifiesCard

/-- THE SECOND FORM's CARD OF 'linkworklaw08.ResultantComputes'. -/
def resultantComputesUptoCard : Claim7 := { stood := { row := resultantComputesUptoRow, standIns := [], harness := (true, "a9a70914656052aea536306a7a6b405b66acc256124caddd2be16e4a681b9c52"), looks := true }, kinds := [], alts := [], laidByText := true, laidKinds := [.data, .data, .data], laidTests := true, laidLooks := .later }
def ResultantComputesUptoCardSaid : Prop := Claim7.holds Tryz.pinned (.plain (OpenSpec.upto resultantComputesSpec)) resultantComputesUptoCard

/-- THE SECOND FORM's CARD OF 'linkworklaw08.ResultantProducts'. -/
def resultantProductsUptoCard : Claim7 := { stood := { row := resultantProductsUptoRow, standIns := [], harness := (true, "a9a70914656052aea536306a7a6b405b66acc256124caddd2be16e4a681b9c52"), looks := true }, kinds := [], alts := [], laidByText := true, laidKinds := [.data, .data, .data], laidTests := true, laidLooks := .later }
def ResultantProductsUptoCardSaid : Prop := Claim7.holds Tryz.pinned (.plain (OpenSpec.upto resultantProductsSpec)) resultantProductsUptoCard

/-- THE SECOND FORM's CARD OF 'linkworklaw08.ResultantRoots'. -/
def resultantRootsUptoCard : Claim7 := { stood := { row := resultantRootsUptoRow, standIns := [], harness := (true, "a9a70914656052aea536306a7a6b405b66acc256124caddd2be16e4a681b9c52"), looks := true }, kinds := [], alts := [], laidByText := true, laidKinds := [.data, .data, .data], laidTests := true, laidLooks := .later }
def ResultantRootsUptoCardSaid : Prop := Claim7.holds Tryz.pinned (.plain (OpenSpec.upto resultantRootsSpec)) resultantRootsUptoCard

/-- THE SECOND FORM's CARD OF 'linkworklaw08.ResultantCommon'. -/
def resultantCommonUptoCard : Claim7 := { stood := { row := resultantCommonUptoRow, standIns := [], harness := (true, "a9a70914656052aea536306a7a6b405b66acc256124caddd2be16e4a681b9c52"), looks := true }, kinds := [], alts := [], laidByText := true, laidKinds := [.data, .data, .data], laidTests := true, laidLooks := .later }
def ResultantCommonUptoCardSaid : Prop := Claim7.holds Tryz.pinned (.plain (OpenSpec.upto resultantCommonSpec)) resultantCommonUptoCard

/-- THE SECOND FORM's CARD OF 'linkworklaw08.ResultantSquares'. -/
def resultantSquaresUptoCard : Claim7 := { stood := { row := resultantSquaresUptoRow, standIns := [], harness := (true, "a9a70914656052aea536306a7a6b405b66acc256124caddd2be16e4a681b9c52"), looks := true }, kinds := [], alts := [], laidByText := true, laidKinds := [.data, .data, .data], laidTests := true, laidLooks := .later }
def ResultantSquaresUptoCardSaid : Prop := Claim7.holds Tryz.pinned (.plain (OpenSpec.upto resultantSquaresSpec)) resultantSquaresUptoCard

/-- THE SECOND FORM's CARD OF 'linkworklaw08.ResultantBezout'. -/
def resultantBezoutUptoCard : Claim7 := { stood := { row := resultantBezoutUptoRow, standIns := [], harness := (true, "a9a70914656052aea536306a7a6b405b66acc256124caddd2be16e4a681b9c52"), looks := true }, kinds := [], alts := [], laidByText := true, laidKinds := [.data, .data, .data], laidTests := true, laidLooks := .later }
def ResultantBezoutUptoCardSaid : Prop := Claim7.holds Tryz.pinned (.plain (OpenSpec.upto resultantBezoutSpec)) resultantBezoutUptoCard

/-- THE SECOND FORM's CARD OF 'linkworklaw08.ResultantCertifies'. -/
def resultantCertifiesUptoCard : Claim7 := { stood := { row := resultantCertifiesUptoRow, standIns := [], harness := (true, "a9a70914656052aea536306a7a6b405b66acc256124caddd2be16e4a681b9c52"), looks := true }, kinds := [], alts := [], laidByText := true, laidKinds := [.data, .data, .data], laidTests := true, laidLooks := .later }
def ResultantCertifiesUptoCardSaid : Prop := Claim7.holds Tryz.pinned (.plain (OpenSpec.upto resultantCertifiesSpec)) resultantCertifiesUptoCard
end Rows
end Go.Proofs.YtboilcfohmmpbaaGreatDoor
