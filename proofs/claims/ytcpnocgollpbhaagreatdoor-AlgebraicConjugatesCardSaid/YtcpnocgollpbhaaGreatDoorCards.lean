/-
  DERIVED. GIVEN WITH THE SEED: THE CARDS: each row of YtcpnocgollpbhaaGreatDoorRows.lean that lists a variable, with what it lists TIED to the program's text (the seventh form; the later family's looks); each row that meets fmt, with fmt's text TOLD by the authors' own Lean function (tested against real Go, not proved from fmt's source: count such statements apart). THE CARD IS WHAT COUNTS. Prove the row's statement (the work); the ties are given (YtcpnocgollpbhaaGreatDoorTie.lean); close each card by the builder's one call (the guide's Derived/Test/ToyasCard.lean, 'card_holds'). Laid BY PROGRAM, IN A SANDBOX (cutbox-door.mjs). By AI agents, Wed Nov 11 2026. No macro, syntax, notation, axiom, sorry.
-/
import Derived.Test.YtcpnocgollpbhaaGreatDoorRows
import GoSem.ClaimSeven
namespace Go.Proofs.YtcpnocgollpbhaaGreatDoor
namespace Rows

/-- THE TIED CARD OF 'linkworklaw07.AlgebraicTowers'. -/
def algebraicTowersCard : Claim7 := { stood := { row := algebraicTowersRow, standIns := [], harness := (true, "08f6437714080f59ac1acb324d4a83788e30e1490273f0820dc0cdea24881f9a"), looks := true }, kinds := [], alts := [], laidByText := true, laidKinds := [.data, .data, .data], laidTests := true, laidLooks := .later }
def AlgebraicTowersCardSaid : Prop := Claim7.holds Tryz.pinned (.plain (OpenSpec.ofChange algebraicTowersSpec)) algebraicTowersCard

/-- THE TIED CARD OF 'linkworklaw07.AlgebraicConjugates'. -/
def algebraicConjugatesCard : Claim7 := { stood := { row := algebraicConjugatesRow, standIns := [], harness := (true, "08f6437714080f59ac1acb324d4a83788e30e1490273f0820dc0cdea24881f9a"), looks := true }, kinds := [], alts := [], laidByText := true, laidKinds := [.data, .data, .data], laidTests := true, laidLooks := .later }
def AlgebraicConjugatesCardSaid : Prop := Claim7.holds Tryz.pinned (.plain (OpenSpec.ofChange algebraicConjugatesSpec)) algebraicConjugatesCard

/-- THE SECOND FORM's CARD OF 'linkworklaw07.AlgebraicTowers'. -/
def algebraicTowersUptoCard : Claim7 := { stood := { row := algebraicTowersUptoRow, standIns := [], harness := (true, "08f6437714080f59ac1acb324d4a83788e30e1490273f0820dc0cdea24881f9a"), looks := true }, kinds := [], alts := [], laidByText := true, laidKinds := [.data, .data, .data], laidTests := true, laidLooks := .later }
def AlgebraicTowersUptoCardSaid : Prop := Claim7.holds Tryz.pinned (.plain (OpenSpec.upto algebraicTowersSpec)) algebraicTowersUptoCard

/-- THE SECOND FORM's CARD OF 'linkworklaw07.AlgebraicConjugates'. -/
def algebraicConjugatesUptoCard : Claim7 := { stood := { row := algebraicConjugatesUptoRow, standIns := [], harness := (true, "08f6437714080f59ac1acb324d4a83788e30e1490273f0820dc0cdea24881f9a"), looks := true }, kinds := [], alts := [], laidByText := true, laidKinds := [.data, .data, .data], laidTests := true, laidLooks := .later }
def AlgebraicConjugatesUptoCardSaid : Prop := Claim7.holds Tryz.pinned (.plain (OpenSpec.upto algebraicConjugatesSpec)) algebraicConjugatesUptoCard
end Rows
end Go.Proofs.YtcpnocgollpbhaaGreatDoor
