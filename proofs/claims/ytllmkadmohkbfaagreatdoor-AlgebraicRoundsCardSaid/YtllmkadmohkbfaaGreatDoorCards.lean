/-
  DERIVED. GIVEN WITH THE SEED: THE CARDS: each row of YtllmkadmohkbfaaGreatDoorRows.lean that lists a variable, with what it lists TIED to the program's text (the seventh form; the later family's looks); each row that meets fmt, with fmt's text TOLD by the authors' own Lean function (tested against real Go, not proved from fmt's source: count such statements apart). THE CARD IS WHAT COUNTS. Prove the row's statement (the work); the ties are given (YtllmkadmohkbfaaGreatDoorTie.lean); close each card by the builder's one call (the guide's Derived/Test/ToyasCard.lean, 'card_holds'). Laid BY PROGRAM, IN A SANDBOX (cutbox-door.mjs). By AI agents, Wed Nov 11 2026. No macro, syntax, notation, axiom, sorry.
-/
import Derived.Test.YtllmkadmohkbfaaGreatDoorRows
import GoSem.ClaimSeven
namespace Go.Proofs.YtllmkadmohkbfaaGreatDoor
namespace Rows

/-- THE TIED CARD OF 'linkworklaw07.AlgebraicRounds'. -/
def algebraicRoundsCard : Claim7 := { stood := { row := algebraicRoundsRow, standIns := [], harness := (true, "00d8a891d1bcc00e30dd52ec5bb872d9308082fb0bae38710f4a1c03dddcb8f2"), looks := true }, kinds := [], alts := [], laidByText := true, laidKinds := [.data, .data, .data], laidTests := true, laidLooks := .later }
def AlgebraicRoundsCardSaid : Prop := Claim7.holds Tryz.pinned (.plain (OpenSpec.ofChange algebraicRoundsSpec)) algebraicRoundsCard

/-- THE TIED CARD OF 'linkworklaw07.AlgebraicMakes'. -/
def algebraicMakesCard : Claim7 := { stood := { row := algebraicMakesRow, standIns := [], harness := (true, "00d8a891d1bcc00e30dd52ec5bb872d9308082fb0bae38710f4a1c03dddcb8f2"), looks := true }, kinds := [], alts := [], laidByText := true, laidKinds := [.data, .data, .data], laidTests := true, laidLooks := .later }
def AlgebraicMakesCardSaid : Prop := Claim7.holds Tryz.pinned (.plain (OpenSpec.ofChange algebraicMakesSpec)) algebraicMakesCard

/-- THE TIED CARD OF 'linkworklaw07.AlgebraicNear'. -/
def algebraicNearCard : Claim7 := { stood := { row := algebraicNearRow, standIns := [], harness := (true, "00d8a891d1bcc00e30dd52ec5bb872d9308082fb0bae38710f4a1c03dddcb8f2"), looks := true }, kinds := [], alts := [], laidByText := true, laidKinds := [.data, .data, .data], laidTests := true, laidLooks := .later }
def AlgebraicNearCardSaid : Prop := Claim7.holds Tryz.pinned (.plain (OpenSpec.ofChange algebraicNearSpec)) algebraicNearCard

/-- THE TIED CARD OF 'linkworklaw07.AlgebraicOrder'. -/
def algebraicOrderCard : Claim7 := { stood := { row := algebraicOrderRow, standIns := [], harness := (true, "00d8a891d1bcc00e30dd52ec5bb872d9308082fb0bae38710f4a1c03dddcb8f2"), looks := true }, kinds := [], alts := [], laidByText := true, laidKinds := [.data, .data, .data], laidTests := true, laidLooks := .later }
def AlgebraicOrderCardSaid : Prop := Claim7.holds Tryz.pinned (.plain (OpenSpec.ofChange algebraicOrderSpec)) algebraicOrderCard

/-- THE TIED CARD OF 'linkworklaw07.AlgebraicTowers'. -/
def algebraicTowersCard : Claim7 := { stood := { row := algebraicTowersRow, standIns := [], harness := (true, "00d8a891d1bcc00e30dd52ec5bb872d9308082fb0bae38710f4a1c03dddcb8f2"), looks := true }, kinds := [], alts := [], laidByText := true, laidKinds := [.data, .data, .data], laidTests := true, laidLooks := .later }
def AlgebraicTowersCardSaid : Prop := Claim7.holds Tryz.pinned (.plain (OpenSpec.ofChange algebraicTowersSpec)) algebraicTowersCard

/-- THE TIED CARD OF 'linkworklaw07.AlgebraicConjugates'. -/
def algebraicConjugatesCard : Claim7 := { stood := { row := algebraicConjugatesRow, standIns := [], harness := (true, "00d8a891d1bcc00e30dd52ec5bb872d9308082fb0bae38710f4a1c03dddcb8f2"), looks := true }, kinds := [], alts := [], laidByText := true, laidKinds := [.data, .data, .data], laidTests := true, laidLooks := .later }
def AlgebraicConjugatesCardSaid : Prop := Claim7.holds Tryz.pinned (.plain (OpenSpec.ofChange algebraicConjugatesSpec)) algebraicConjugatesCard

/-- THE TIED CARD OF 'linkworklaw07.AlgebraicCompares'. -/
def algebraicComparesCard : Claim7 := { stood := { row := algebraicComparesRow, standIns := [], harness := (true, "00d8a891d1bcc00e30dd52ec5bb872d9308082fb0bae38710f4a1c03dddcb8f2"), looks := true }, kinds := [], alts := [], laidByText := true, laidKinds := [.data, .data, .data], laidTests := true, laidLooks := .later }
def AlgebraicComparesCardSaid : Prop := Claim7.holds Tryz.pinned (.plain (OpenSpec.ofChange algebraicComparesSpec)) algebraicComparesCard

/-- THE TIED CARD OF 'linkworklaw07.AlgebraicSigns'. -/
def algebraicSignsCard : Claim7 := { stood := { row := algebraicSignsRow, standIns := [], harness := (true, "00d8a891d1bcc00e30dd52ec5bb872d9308082fb0bae38710f4a1c03dddcb8f2"), looks := true }, kinds := [], alts := [], laidByText := true, laidKinds := [.data, .data, .data], laidTests := true, laidLooks := .later }
def AlgebraicSignsCardSaid : Prop := Claim7.holds Tryz.pinned (.plain (OpenSpec.ofChange algebraicSignsSpec)) algebraicSignsCard

/-- THE SECOND FORM's CARD OF 'linkworklaw07.AlgebraicRounds'. -/
def algebraicRoundsUptoCard : Claim7 := { stood := { row := algebraicRoundsUptoRow, standIns := [], harness := (true, "00d8a891d1bcc00e30dd52ec5bb872d9308082fb0bae38710f4a1c03dddcb8f2"), looks := true }, kinds := [], alts := [], laidByText := true, laidKinds := [.data, .data, .data], laidTests := true, laidLooks := .later }
def AlgebraicRoundsUptoCardSaid : Prop := Claim7.holds Tryz.pinned (.plain (OpenSpec.upto algebraicRoundsSpec)) algebraicRoundsUptoCard

/-- THE SECOND FORM's CARD OF 'linkworklaw07.AlgebraicMakes'. -/
def algebraicMakesUptoCard : Claim7 := { stood := { row := algebraicMakesUptoRow, standIns := [], harness := (true, "00d8a891d1bcc00e30dd52ec5bb872d9308082fb0bae38710f4a1c03dddcb8f2"), looks := true }, kinds := [], alts := [], laidByText := true, laidKinds := [.data, .data, .data], laidTests := true, laidLooks := .later }
def AlgebraicMakesUptoCardSaid : Prop := Claim7.holds Tryz.pinned (.plain (OpenSpec.upto algebraicMakesSpec)) algebraicMakesUptoCard

/-- THE SECOND FORM's CARD OF 'linkworklaw07.AlgebraicNear'. -/
def algebraicNearUptoCard : Claim7 := { stood := { row := algebraicNearUptoRow, standIns := [], harness := (true, "00d8a891d1bcc00e30dd52ec5bb872d9308082fb0bae38710f4a1c03dddcb8f2"), looks := true }, kinds := [], alts := [], laidByText := true, laidKinds := [.data, .data, .data], laidTests := true, laidLooks := .later }
def AlgebraicNearUptoCardSaid : Prop := Claim7.holds Tryz.pinned (.plain (OpenSpec.upto algebraicNearSpec)) algebraicNearUptoCard

/-- THE SECOND FORM's CARD OF 'linkworklaw07.AlgebraicOrder'. -/
def algebraicOrderUptoCard : Claim7 := { stood := { row := algebraicOrderUptoRow, standIns := [], harness := (true, "00d8a891d1bcc00e30dd52ec5bb872d9308082fb0bae38710f4a1c03dddcb8f2"), looks := true }, kinds := [], alts := [], laidByText := true, laidKinds := [.data, .data, .data], laidTests := true, laidLooks := .later }
def AlgebraicOrderUptoCardSaid : Prop := Claim7.holds Tryz.pinned (.plain (OpenSpec.upto algebraicOrderSpec)) algebraicOrderUptoCard

/-- THE SECOND FORM's CARD OF 'linkworklaw07.AlgebraicTowers'. -/
def algebraicTowersUptoCard : Claim7 := { stood := { row := algebraicTowersUptoRow, standIns := [], harness := (true, "00d8a891d1bcc00e30dd52ec5bb872d9308082fb0bae38710f4a1c03dddcb8f2"), looks := true }, kinds := [], alts := [], laidByText := true, laidKinds := [.data, .data, .data], laidTests := true, laidLooks := .later }
def AlgebraicTowersUptoCardSaid : Prop := Claim7.holds Tryz.pinned (.plain (OpenSpec.upto algebraicTowersSpec)) algebraicTowersUptoCard

/-- THE SECOND FORM's CARD OF 'linkworklaw07.AlgebraicConjugates'. -/
def algebraicConjugatesUptoCard : Claim7 := { stood := { row := algebraicConjugatesUptoRow, standIns := [], harness := (true, "00d8a891d1bcc00e30dd52ec5bb872d9308082fb0bae38710f4a1c03dddcb8f2"), looks := true }, kinds := [], alts := [], laidByText := true, laidKinds := [.data, .data, .data], laidTests := true, laidLooks := .later }
def AlgebraicConjugatesUptoCardSaid : Prop := Claim7.holds Tryz.pinned (.plain (OpenSpec.upto algebraicConjugatesSpec)) algebraicConjugatesUptoCard

/-- THE SECOND FORM's CARD OF 'linkworklaw07.AlgebraicCompares'. -/
def algebraicComparesUptoCard : Claim7 := { stood := { row := algebraicComparesUptoRow, standIns := [], harness := (true, "00d8a891d1bcc00e30dd52ec5bb872d9308082fb0bae38710f4a1c03dddcb8f2"), looks := true }, kinds := [], alts := [], laidByText := true, laidKinds := [.data, .data, .data], laidTests := true, laidLooks := .later }
def AlgebraicComparesUptoCardSaid : Prop := Claim7.holds Tryz.pinned (.plain (OpenSpec.upto algebraicComparesSpec)) algebraicComparesUptoCard

/-- THE SECOND FORM's CARD OF 'linkworklaw07.AlgebraicSigns'. -/
def algebraicSignsUptoCard : Claim7 := { stood := { row := algebraicSignsUptoRow, standIns := [], harness := (true, "00d8a891d1bcc00e30dd52ec5bb872d9308082fb0bae38710f4a1c03dddcb8f2"), looks := true }, kinds := [], alts := [], laidByText := true, laidKinds := [.data, .data, .data], laidTests := true, laidLooks := .later }
def AlgebraicSignsUptoCardSaid : Prop := Claim7.holds Tryz.pinned (.plain (OpenSpec.upto algebraicSignsSpec)) algebraicSignsUptoCard
end Rows
end Go.Proofs.YtllmkadmohkbfaaGreatDoor
