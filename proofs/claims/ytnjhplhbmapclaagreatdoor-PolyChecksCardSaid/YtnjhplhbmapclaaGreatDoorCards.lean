/-
  DERIVED. GIVEN WITH THE SEED: THE CARDS: each row of YtnjhplhbmapclaaGreatDoorRows.lean that lists a variable, with what it lists TIED to the program's text (the seventh form; the later family's looks); each row that meets fmt, with fmt's text TOLD by the authors' own Lean function (tested against real Go, not proved from fmt's source: count such statements apart). THE CARD IS WHAT COUNTS. Prove the row's statement (the work); the ties are given (YtnjhplhbmapclaaGreatDoorTie.lean); close each card by the builder's one call (the guide's Derived/Test/ToyasCard.lean, 'card_holds'). Laid BY PROGRAM, IN A SANDBOX (cutbox-door.mjs). By AI agents, Wed Nov 11 2026. No macro, syntax, notation, axiom, sorry.
-/
import Derived.Test.YtnjhplhbmapclaaGreatDoorRows
import GoSem.ClaimSeven
namespace Go.Proofs.YtnjhplhbmapclaaGreatDoor
namespace Rows

/-- THE TIED CARD OF 'linkworklaw05.PolyChecks'. -/
def polyChecksCard : Claim7 := { stood := { row := polyChecksRow, standIns := [], harness := (true, "2c83a29fc4f3a3a24c8f4f996458829cb7a42071cc01c5d922773ac8112ea216"), looks := true }, kinds := [], alts := [], laidByText := true, laidKinds := [.data, .data, .data], laidTests := true, laidLooks := .later }
def PolyChecksCardSaid : Prop := Claim7.holds Tryz.pinned (.plain (OpenSpec.ofChange polyChecksSpec)) polyChecksCard

/-- THE SECOND FORM's CARD OF 'linkworklaw05.PolyChecks'. -/
def polyChecksUptoCard : Claim7 := { stood := { row := polyChecksUptoRow, standIns := [], harness := (true, "2c83a29fc4f3a3a24c8f4f996458829cb7a42071cc01c5d922773ac8112ea216"), looks := true }, kinds := [], alts := [], laidByText := true, laidKinds := [.data, .data, .data], laidTests := true, laidLooks := .later }
def PolyChecksUptoCardSaid : Prop := Claim7.holds Tryz.pinned (.plain (OpenSpec.upto polyChecksSpec)) polyChecksUptoCard
end Rows
end Go.Proofs.YtnjhplhbmapclaaGreatDoor
