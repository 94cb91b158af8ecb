/-
  No cell of these rows narrows 'for every input' (looked for: loops, veiled, ifaces, maps, wideKeys, modest, calm, conditions, laid).
  DERIVED. THE GIVEN ROWS OF THIS SEAT. 3 by the template 'for every input the law returns true; each argument reads behind the call as it read before'; 0 by the template 'total and deterministic' (their statements: YtegpfcmnjhmhjaaGreatTotals.lean).
  GIVEN WITH THE SEED: the statements are not yours to turn. If you find one false, say at which input.
  Laid BY PROGRAM, IN A SANDBOX (cutbox-rows.mjs): the forced cells as the released guide's own fill.sh prints them over the translation 16c843a0dbccef47… (all of the seat's roots in one cut). By AI agents, Wed Nov 11 2026. No macro, syntax, notation, axiom, sorry.
-/
import Derived.Test.YtegpfcmnjhmhjaaGreatChecked
import GoSem.Claim
import GoSem.ClaimJoined
import GoSem.ClaimMapViews
import Derived.JoinedTies
import Derived.KernelRfl
namespace Go.Proofs.YtegpfcmnjhmhjaaGreat
/- THE CELL 'sum', in the pinned program and in every row, IS THE sha256 OF THE DUMP (.gsa) THAT YtegpfcmnjhmhjaaGreatProg.lean LOADS. Nothing in Lean hashes anything: it is a label: what it is worth is what the hold of that sum in a sandbox is worth. -/
noncomputable def Tryz.pinned : Pinned := { name := "ytegpfcmnjhmhjaagreat", sum := "16c843a0dbccef47937156f2fd3e8f0e23419322059dfba25638ed8b7a4c60a7", checked := Tryz.checked }
namespace Rows
def none {H : Type} : Left H := { results := [], args := [] }

/-- 'linkworklaw52.LawShifts': WHATEVER THE INPUT: true; the input reads as it did. -/
def lawShiftsSpec : ChangeSpec := { name := "lawShifts", fn := fun _ => fun
  | [d1, d2] => { results := [.lit (.bool true)], args := [d1, d2] }
  | _ => none }
def lawShiftsRow : OpenClaim := { program := "ytegpfcmnjhmhjaagreat", sum := "16c843a0dbccef47937156f2fd3e8f0e23419322059dfba25638ed8b7a4c60a7", func := "linkwork/linkworklaw52.LawShifts", spec := "lawShifts", unfollowed := true, recurses := true, apart := false }
def LawShiftsSaid : Prop := lawShiftsRow.holds Tryz.pinned (OpenSpec.ofChange lawShiftsSpec)

/-- ITS FALSE NEIGHBOUR: 'it returns false'. Refute it at one input. -/
def lawShiftsWrong : ChangeSpec := { name := "lawShifts", fn := fun _ => fun
  | [d1, d2] => { results := [.lit (.bool false)], args := [d1, d2] }
  | _ => none }
def LawShiftsWrongFalsely : Prop := lawShiftsRow.holds Tryz.pinned (OpenSpec.ofChange lawShiftsWrong)

/-- 'linkworklaw52.LawMoves': WHATEVER THE INPUT: true; the input reads as it did. -/
def lawMovesSpec : ChangeSpec := { name := "lawMoves", fn := fun _ => fun
  | [d1, d2, d3] => { results := [.lit (.bool true)], args := [d1, d2, d3] }
  | _ => none }
def lawMovesRow : OpenClaim := { program := "ytegpfcmnjhmhjaagreat", sum := "16c843a0dbccef47937156f2fd3e8f0e23419322059dfba25638ed8b7a4c60a7", func := "linkwork/linkworklaw52.LawMoves", spec := "lawMoves", unfollowed := true, recurses := true, apart := false }
def LawMovesSaid : Prop := lawMovesRow.holds Tryz.pinned (OpenSpec.ofChange lawMovesSpec)

/-- ITS FALSE NEIGHBOUR: 'it returns false'. Refute it at one input. -/
def lawMovesWrong : ChangeSpec := { name := "lawMoves", fn := fun _ => fun
  | [d1, d2, d3] => { results := [.lit (.bool false)], args := [d1, d2, d3] }
  | _ => none }
def LawMovesWrongFalsely : Prop := lawMovesRow.holds Tryz.pinned (OpenSpec.ofChange lawMovesWrong)

/-- 'linkworklaw52.LawSmooths': WHATEVER THE INPUT: true; the input reads as it did. -/
def lawSmoothsSpec : ChangeSpec := { name := "lawSmooths", fn := fun _ => fun
  | [d1, d2, d3] => { results := [.lit (.bool true)], args := [d1, d2, d3] }
  | _ => none }
def lawSmoothsRow : OpenClaim := { program := "ytegpfcmnjhmhjaagreat", sum := "16c843a0dbccef47937156f2fd3e8f0e23419322059dfba25638ed8b7a4c60a7", func := "linkwork/linkworklaw52.LawSmooths", spec := "lawSmooths", unfollowed := true, recurses := true, apart := false }
def LawSmoothsSaid : Prop := lawSmoothsRow.holds Tryz.pinned (OpenSpec.ofChange lawSmoothsSpec)

/-- ITS FALSE NEIGHBOUR: 'it returns false'. Refute it at one input. -/
def lawSmoothsWrong : ChangeSpec := { name := "lawSmooths", fn := fun _ => fun
  | [d1, d2, d3] => { results := [.lit (.bool false)], args := [d1, d2, d3] }
  | _ => none }
def LawSmoothsWrongFalsely : Prop := lawSmoothsRow.holds Tryz.pinned (OpenSpec.ofChange lawSmoothsWrong)

/- THE SECOND FORM. 'bulk': how many values and letters a reading holds, each counted each time it is reached (what is shared counts as often as it is met; a slice's spare places count too). A statement '..UptoSaid' is the law's where the arguments, and the package variables that the reading takes, are together of bulk at most 1048576: NARROWER than '..Said'. Prove '..Said' where nothing that the law and all that it calls make is longer than what came in: it says more and counts as full. Else prove '..UptoSaid'. A law counts once. -/
mutual
def uptoBulk {H : Type} : DataW H → Nat
  | .lit (.string bytes) => bytes.length + 1
  | .lit _ => 1
  | .nil => 1
  | .ptr d => uptoBulk d + 1
  | .slice elems spare => uptoBulkAll elems + uptoBulkAll spare + 1
  | .agg parts => uptoBulkAll parts + 1
  | .iface _ d => uptoBulk d + 1
  | .map entries => uptoBulkEntries entries + 1
  | .held _ => 1
def uptoBulkAll {H : Type} : List (DataW H) → Nat
  | [] => 0
  | d :: r => uptoBulk d + uptoBulkAll r
def uptoBulkEntries {H : Type} : List (Lit × DataW H) → Nat
  | [] => 0
  | x :: r => uptoBulkEntry x + uptoBulkEntries r
def uptoBulkEntry {H : Type} : Lit × DataW H → Nat
  | (.string bytes, d) => bytes.length + uptoBulk d + 1
  | (_, d) => uptoBulk d + 1
 end
def uptoSmall : (H : Type) → List (DataW H) → Bool := fun _ ds => decide (uptoBulkAll ds ≤ 1048576)
def OpenSpec.upto (s : _root_.Go.ChangeSpec) : _root_.Go.OpenSpec := { _root_.Go.OpenSpec.ofChange s with cond := some uptoSmall }

/-- 'linkworklaw52.LawShifts', WHERE WHAT IT READS IS OF BULK AT MOST 1048576: true; the input reads as it did. -/
def lawShiftsUptoRow : OpenClaim := { program := "ytegpfcmnjhmhjaagreat", sum := "16c843a0dbccef47937156f2fd3e8f0e23419322059dfba25638ed8b7a4c60a7", func := "linkwork/linkworklaw52.LawShifts", spec := "lawShifts", unfollowed := true, recurses := true, apart := false, narrowed := true }
def LawShiftsUptoSaid : Prop := lawShiftsUptoRow.holds Tryz.pinned (OpenSpec.upto lawShiftsSpec)

/-- 'linkworklaw52.LawMoves', WHERE WHAT IT READS IS OF BULK AT MOST 1048576: true; the input reads as it did. -/
def lawMovesUptoRow : OpenClaim := { program := "ytegpfcmnjhmhjaagreat", sum := "16c843a0dbccef47937156f2fd3e8f0e23419322059dfba25638ed8b7a4c60a7", func := "linkwork/linkworklaw52.LawMoves", spec := "lawMoves", unfollowed := true, recurses := true, apart := false, narrowed := true }
def LawMovesUptoSaid : Prop := lawMovesUptoRow.holds Tryz.pinned (OpenSpec.upto lawMovesSpec)

/-- 'linkworklaw52.LawSmooths', WHERE WHAT IT READS IS OF BULK AT MOST 1048576: true; the input reads as it did. -/
def lawSmoothsUptoRow : OpenClaim := { program := "ytegpfcmnjhmhjaagreat", sum := "16c843a0dbccef47937156f2fd3e8f0e23419322059dfba25638ed8b7a4c60a7", func := "linkwork/linkworklaw52.LawSmooths", spec := "lawSmooths", unfollowed := true, recurses := true, apart := false, narrowed := true }
def LawSmoothsUptoSaid : Prop := lawSmoothsUptoRow.holds Tryz.pinned (OpenSpec.upto lawSmoothsSpec)

end Rows
end Go.Proofs.YtegpfcmnjhmhjaaGreat
