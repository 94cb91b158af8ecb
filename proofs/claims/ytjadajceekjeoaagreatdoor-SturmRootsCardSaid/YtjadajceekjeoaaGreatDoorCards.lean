/-
  DERIVED. GIVEN WITH THE SEED: THE CARDS: each row of YtjadajceekjeoaaGreatDoorRows.lean that lists a variable, with what it lists TIED to the program's text (the seventh form; the later family's looks); each row that meets fmt, with fmt's text TOLD by the authors' own Lean function (tested against real Go, not proved from fmt's source: count such statements apart). THE CARD IS WHAT COUNTS. Prove the row's statement (the work); the ties are given (YtjadajceekjeoaaGreatDoorTie.lean); close each card by the builder's one call (the guide's Derived/Test/ToyasCard.lean, 'card_holds'). Laid BY PROGRAM, IN A SANDBOX (cutbox-door.mjs). By AI agents, Wed Nov 11 2026. No macro, syntax, notation, axiom, sorry.
-/
import Derived.Test.YtjadajceekjeoaaGreatDoorRows
import GoSem.ClaimSeven
namespace Go.Proofs.YtjadajceekjeoaaGreatDoor
namespace Rows

/-- THE TIED CARD OF 'linkworklaw06.SturmCounts'. -/
def sturmCountsCard : Claim7 := { stood := { row := sturmCountsRow, standIns := [], harness := (true, "2045a404f043e3e099314de844bf396df12d9c3a5681a5d5b1d485da56be2cea"), looks := true }, kinds := [], alts := [], laidByText := true, laidKinds := [.data, .data, .data], laidTests := true, laidLooks := .later }
def SturmCountsCardSaid : Prop := Claim7.holds Tryz.pinned (.plain (OpenSpec.ofChange sturmCountsSpec)) sturmCountsCard

/-- THE TIED CARD OF 'linkworklaw06.SturmRefines'. -/
def sturmRefinesCard : Claim7 := { stood := { row := sturmRefinesRow, standIns := [], harness := (true, "2045a404f043e3e099314de844bf396df12d9c3a5681a5d5b1d485da56be2cea"), looks := true }, kinds := [], alts := [], laidByText := true, laidKinds := [.data, .data, .data], laidTests := true, laidLooks := .later }
def SturmRefinesCardSaid : Prop := Claim7.holds Tryz.pinned (.plain (OpenSpec.ofChange sturmRefinesSpec)) sturmRefinesCard

/-- THE TIED CARD OF 'linkworklaw06.SturmAdds'. -/
def sturmAddsCard : Claim7 := { stood := { row := sturmAddsRow, standIns := [], harness := (true, "2045a404f043e3e099314de844bf396df12d9c3a5681a5d5b1d485da56be2cea"), looks := true }, kinds := [], alts := [], laidByText := true, laidKinds := [.data, .data, .data], laidTests := true, laidLooks := .later }
def SturmAddsCardSaid : Prop := Claim7.holds Tryz.pinned (.plain (OpenSpec.ofChange sturmAddsSpec)) sturmAddsCard

/-- THE TIED CARD OF 'linkworklaw06.SturmParity'. -/
def sturmParityCard : Claim7 := { stood := { row := sturmParityRow, standIns := [], harness := (true, "2045a404f043e3e099314de844bf396df12d9c3a5681a5d5b1d485da56be2cea"), looks := true }, kinds := [], alts := [], laidByText := true, laidKinds := [.data, .data, .data], laidTests := true, laidLooks := .later }
def SturmParityCardSaid : Prop := Claim7.holds Tryz.pinned (.plain (OpenSpec.ofChange sturmParitySpec)) sturmParityCard

/-- THE TIED CARD OF 'linkworklaw06.SturmIsolates'. -/
def sturmIsolatesCard : Claim7 := { stood := { row := sturmIsolatesRow, standIns := [], harness := (true, "2045a404f043e3e099314de844bf396df12d9c3a5681a5d5b1d485da56be2cea"), looks := true }, kinds := [], alts := [], laidByText := true, laidKinds := [.data, .data, .data], laidTests := true, laidLooks := .later }
def SturmIsolatesCardSaid : Prop := Claim7.holds Tryz.pinned (.plain (OpenSpec.ofChange sturmIsolatesSpec)) sturmIsolatesCard

/-- THE TIED CARD OF 'linkworklaw06.SturmApart'. -/
def sturmApartCard : Claim7 := { stood := { row := sturmApartRow, standIns := [], harness := (true, "2045a404f043e3e099314de844bf396df12d9c3a5681a5d5b1d485da56be2cea"), looks := true }, kinds := [], alts := [], laidByText := true, laidKinds := [.data, .data, .data], laidTests := true, laidLooks := .later }
def SturmApartCardSaid : Prop := Claim7.holds Tryz.pinned (.plain (OpenSpec.ofChange sturmApartSpec)) sturmApartCard

/-- THE TIED CARD OF 'linkworklaw06.SturmRoots'. -/
def sturmRootsCard : Claim7 := { stood := { row := sturmRootsRow, standIns := [], harness := (true, "2045a404f043e3e099314de844bf396df12d9c3a5681a5d5b1d485da56be2cea"), looks := true }, kinds := [], alts := [], laidByText := true, laidKinds := [.data, .data, .data], laidTests := true, laidLooks := .later }
def SturmRootsCardSaid : Prop := Claim7.holds Tryz.pinned (.plain (OpenSpec.ofChange sturmRootsSpec)) sturmRootsCard

/-- THE SECOND FORM's CARD OF 'linkworklaw06.SturmCounts'. -/
def sturmCountsUptoCard : Claim7 := { stood := { row := sturmCountsUptoRow, standIns := [], harness := (true, "2045a404f043e3e099314de844bf396df12d9c3a5681a5d5b1d485da56be2cea"), looks := true }, kinds := [], alts := [], laidByText := true, laidKinds := [.data, .data, .data], laidTests := true, laidLooks := .later }
def SturmCountsUptoCardSaid : Prop := Claim7.holds Tryz.pinned (.plain (OpenSpec.upto sturmCountsSpec)) sturmCountsUptoCard

/-- THE SECOND FORM's CARD OF 'linkworklaw06.SturmRefines'. -/
def sturmRefinesUptoCard : Claim7 := { stood := { row := sturmRefinesUptoRow, standIns := [], harness := (true, "2045a404f043e3e099314de844bf396df12d9c3a5681a5d5b1d485da56be2cea"), looks := true }, kinds := [], alts := [], laidByText := true, laidKinds := [.data, .data, .data], laidTests := true, laidLooks := .later }
def SturmRefinesUptoCardSaid : Prop := Claim7.holds Tryz.pinned (.plain (OpenSpec.upto sturmRefinesSpec)) sturmRefinesUptoCard

/-- THE SECOND FORM's CARD OF 'linkworklaw06.SturmAdds'. -/
def sturmAddsUptoCard : Claim7 := { stood := { row := sturmAddsUptoRow, standIns := [], harness := (true, "2045a404f043e3e099314de844bf396df12d9c3a5681a5d5b1d485da56be2cea"), looks := true }, kinds := [], alts := [], laidByText := true, laidKinds := [.data, .data, .data], laidTests := true, laidLooks := .later }
def SturmAddsUptoCardSaid : Prop := Claim7.holds Tryz.pinned (.plain (OpenSpec.upto sturmAddsSpec)) sturmAddsUptoCard

/-- THE SECOND FORM's CARD OF 'linkworklaw06.SturmParity'. -/
def sturmParityUptoCard : Claim7 := { stood := { row := sturmParityUptoRow, standIns := [], harness := (true, "2045a404f043e3e099314de844bf396df12d9c3a5681a5d5b1d485da56be2cea"), looks := true }, kinds := [], alts := [], laidByText := true, laidKinds := [.data, .data, .data], laidTests := true, laidLooks := .later }
def SturmParityUptoCardSaid : Prop := Claim7.holds Tryz.pinned (.plain (OpenSpec.upto sturmParitySpec)) sturmParityUptoCard

/-- THE SECOND FORM's CARD OF 'linkworklaw06.SturmIsolates'. -/
def sturmIsolatesUptoCard : Claim7 := { stood := { row := sturmIsolatesUptoRow, standIns := [], harness := (true, "2045a404f043e3e099314de844bf396df12d9c3a5681a5d5b1d485da56be2cea"), looks := true }, kinds := [], alts := [], laidByText := true, laidKinds := [.data, .data, .data], laidTests := true, laidLooks := .later }
def SturmIsolatesUptoCardSaid : Prop := Claim7.holds Tryz.pinned (.plain (OpenSpec.upto sturmIsolatesSpec)) sturmIsolatesUptoCard

/-- THE SECOND FORM's CARD OF 'linkworklaw06.SturmApart'. -/
def sturmApartUptoCard : Claim7 := { stood := { row := sturmApartUptoRow, standIns := [], harness := (true, "2045a404f043e3e099314de844bf396df12d9c3a5681a5d5b1d485da56be2cea"), looks := true }, kinds := [], alts := [], laidByText := true, laidKinds := [.data, .data, .data], laidTests := true, laidLooks := .later }
def SturmApartUptoCardSaid : Prop := Claim7.holds Tryz.pinned (.plain (OpenSpec.upto sturmApartSpec)) sturmApartUptoCard

/-- THE SECOND FORM's CARD OF 'linkworklaw06.SturmRoots'. -/
def sturmRootsUptoCard : Claim7 := { stood := { row := sturmRootsUptoRow, standIns := [], harness := (true, "2045a404f043e3e099314de844bf396df12d9c3a5681a5d5b1d485da56be2cea"), looks := true }, kinds := [], alts := [], laidByText := true, laidKinds := [.data, .data, .data], laidTests := true, laidLooks := .later }
def SturmRootsUptoCardSaid : Prop := Claim7.holds Tryz.pinned (.plain (OpenSpec.upto sturmRootsSpec)) sturmRootsUptoCard
end Rows
end Go.Proofs.YtjadajceekjeoaaGreatDoor
