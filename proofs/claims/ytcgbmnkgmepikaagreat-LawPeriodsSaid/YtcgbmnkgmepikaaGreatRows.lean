/-
  No cell of these rows narrows 'for every input' (looked for: loops, veiled, ifaces, maps, wideKeys, modest, calm, conditions, laid).
  DERIVED. THE GIVEN ROWS OF THIS SEAT. 7 by the template 'for every input the law returns true; each argument reads behind the call as it read before'; 0 by the template 'total and deterministic' (their statements: YtcgbmnkgmepikaaGreatTotals.lean).
  GIVEN WITH THE SEED: the statements are not yours to turn. If you find one false, say at which input.
  Laid BY PROGRAM, IN A SANDBOX (cutbox-rows.mjs): the forced cells as the released guide's own fill.sh prints them over the translation 513575d5b932de26… (all of the seat's roots in one cut). By AI agents, Wed Nov 11 2026. No macro, syntax, notation, axiom, sorry.
-/
import Derived.Test.YtcgbmnkgmepikaaGreatChecked
import GoSem.Claim
import GoSem.ClaimJoined
import GoSem.ClaimMapViews
import Derived.JoinedTies
import Derived.KernelRfl
namespace Go.Proofs.YtcgbmnkgmepikaaGreat
/- THE CELL 'sum', in the pinned program and in every row, IS THE sha256 OF THE DUMP (.gsa) THAT YtcgbmnkgmepikaaGreatProg.lean LOADS. Nothing in Lean hashes anything: it is a label: what it is worth is what the hold of that sum in a sandbox is worth. -/
noncomputable def Tryz.pinned : Pinned := { name := "ytcgbmnkgmepikaagreat", sum := "513575d5b932de261846cb51c0c24e4b50c6ee5cf3371c462846188bbfb3b4ca", checked := Tryz.checked }
namespace Rows
def none {H : Type} : Left H := { results := [], args := [] }

/-- 'linkworklaw52.LawRises': WHATEVER THE INPUT: true; the input reads as it did. -/
def lawRisesSpec : ChangeSpec := { name := "lawRises", fn := fun _ => fun
  | [d] => { results := [.lit (.bool true)], args := [d] }
  | _ => none }
def lawRisesRow : OpenClaim := { program := "ytcgbmnkgmepikaagreat", sum := "513575d5b932de261846cb51c0c24e4b50c6ee5cf3371c462846188bbfb3b4ca", func := "linkwork/linkworklaw52.LawRises", spec := "lawRises", apart := false }
def LawRisesSaid : Prop := lawRisesRow.holds Tryz.pinned (OpenSpec.ofChange lawRisesSpec)

/-- ITS FALSE NEIGHBOUR: 'it returns false'. Refute it at one input. -/
def lawRisesWrong : ChangeSpec := { name := "lawRises", fn := fun _ => fun
  | [d] => { results := [.lit (.bool false)], args := [d] }
  | _ => none }
def LawRisesWrongFalsely : Prop := lawRisesRow.holds Tryz.pinned (OpenSpec.ofChange lawRisesWrong)

/-- 'linkworklaw52.LawReads': WHATEVER THE INPUT: true; the input reads as it did. -/
def lawReadsSpec : ChangeSpec := { name := "lawReads", fn := fun _ => fun
  | [d1, d2] => { results := [.lit (.bool true)], args := [d1, d2] }
  | _ => none }
def lawReadsRow : OpenClaim := { program := "ytcgbmnkgmepikaagreat", sum := "513575d5b932de261846cb51c0c24e4b50c6ee5cf3371c462846188bbfb3b4ca", func := "linkwork/linkworklaw52.LawReads", spec := "lawReads", apart := false }
def LawReadsSaid : Prop := lawReadsRow.holds Tryz.pinned (OpenSpec.ofChange lawReadsSpec)

/-- ITS FALSE NEIGHBOUR: 'it returns false'. Refute it at one input. -/
def lawReadsWrong : ChangeSpec := { name := "lawReads", fn := fun _ => fun
  | [d1, d2] => { results := [.lit (.bool false)], args := [d1, d2] }
  | _ => none }
def LawReadsWrongFalsely : Prop := lawReadsRow.holds Tryz.pinned (OpenSpec.ofChange lawReadsWrong)

/-- 'linkworklaw52.LawPeriods': WHATEVER THE INPUT: true; the input reads as it did. -/
def lawPeriodsSpec : ChangeSpec := { name := "lawPeriods", fn := fun _ => fun
  | [d1, d2] => { results := [.lit (.bool true)], args := [d1, d2] }
  | _ => none }
def lawPeriodsRow : OpenClaim := { program := "ytcgbmnkgmepikaagreat", sum := "513575d5b932de261846cb51c0c24e4b50c6ee5cf3371c462846188bbfb3b4ca", func := "linkwork/linkworklaw52.LawPeriods", spec := "lawPeriods", apart := false }
def LawPeriodsSaid : Prop := lawPeriodsRow.holds Tryz.pinned (OpenSpec.ofChange lawPeriodsSpec)

/-- ITS FALSE NEIGHBOUR: 'it returns false'. Refute it at one input. -/
def lawPeriodsWrong : ChangeSpec := { name := "lawPeriods", fn := fun _ => fun
  | [d1, d2] => { results := [.lit (.bool false)], args := [d1, d2] }
  | _ => none }
def LawPeriodsWrongFalsely : Prop := lawPeriodsRow.holds Tryz.pinned (OpenSpec.ofChange lawPeriodsWrong)

/-- 'linkworklaw52.LawParts': WHATEVER THE INPUT: true; the input reads as it did. -/
def lawPartsSpec : ChangeSpec := { name := "lawParts", fn := fun _ => fun
  | [d1, d2] => { results := [.lit (.bool true)], args := [d1, d2] }
  | _ => none }
def lawPartsRow : OpenClaim := { program := "ytcgbmnkgmepikaagreat", sum := "513575d5b932de261846cb51c0c24e4b50c6ee5cf3371c462846188bbfb3b4ca", func := "linkwork/linkworklaw52.LawParts", spec := "lawParts", apart := false }
def LawPartsSaid : Prop := lawPartsRow.holds Tryz.pinned (OpenSpec.ofChange lawPartsSpec)

/-- ITS FALSE NEIGHBOUR: 'it returns false'. Refute it at one input. -/
def lawPartsWrong : ChangeSpec := { name := "lawParts", fn := fun _ => fun
  | [d1, d2] => { results := [.lit (.bool false)], args := [d1, d2] }
  | _ => none }
def LawPartsWrongFalsely : Prop := lawPartsRow.holds Tryz.pinned (OpenSpec.ofChange lawPartsWrong)

/-- 'linkworklaw52.LawShifts': WHATEVER THE INPUT: true; the input reads as it did. -/
def lawShiftsSpec : ChangeSpec := { name := "lawShifts", fn := fun _ => fun
  | [d1, d2] => { results := [.lit (.bool true)], args := [d1, d2] }
  | _ => none }
def lawShiftsRow : OpenClaim := { program := "ytcgbmnkgmepikaagreat", sum := "513575d5b932de261846cb51c0c24e4b50c6ee5cf3371c462846188bbfb3b4ca", func := "linkwork/linkworklaw52.LawShifts", spec := "lawShifts", unfollowed := true, recurses := true, apart := false }
def LawShiftsSaid : Prop := lawShiftsRow.holds Tryz.pinned (OpenSpec.ofChange lawShiftsSpec)

/-- ITS FALSE NEIGHBOUR: 'it returns false'. Refute it at one input. -/
def lawShiftsWrong : ChangeSpec := { name := "lawShifts", fn := fun _ => fun
  | [d1, d2] => { results := [.lit (.bool false)], args := [d1, d2] }
  | _ => none }
def LawShiftsWrongFalsely : Prop := lawShiftsRow.holds Tryz.pinned (OpenSpec.ofChange lawShiftsWrong)

/-- 'linkworklaw52.LawMoves': WHATEVER THE INPUT: true; the input reads as it did. -/
def lawMovesSpec : ChangeSpec := { name := "lawMoves", fn := fun _ => fun
  | [d1, d2, d3] => { results := [.lit (.bool true)], args := [d1, d2, d3] }
  | _ => none }
def lawMovesRow : OpenClaim := { program := "ytcgbmnkgmepikaagreat", sum := "513575d5b932de261846cb51c0c24e4b50c6ee5cf3371c462846188bbfb3b4ca", func := "linkwork/linkworklaw52.LawMoves", spec := "lawMoves", unfollowed := true, recurses := true, apart := false }
def LawMovesSaid : Prop := lawMovesRow.holds Tryz.pinned (OpenSpec.ofChange lawMovesSpec)

/-- ITS FALSE NEIGHBOUR: 'it returns false'. Refute it at one input. -/
def lawMovesWrong : ChangeSpec := { name := "lawMoves", fn := fun _ => fun
  | [d1, d2, d3] => { results := [.lit (.bool false)], args := [d1, d2, d3] }
  | _ => none }
def LawMovesWrongFalsely : Prop := lawMovesRow.holds Tryz.pinned (OpenSpec.ofChange lawMovesWrong)

/-- 'linkworklaw52.LawSmooths': WHATEVER THE INPUT: true; the input reads as it did. -/
def lawSmoothsSpec : ChangeSpec := { name := "lawSmooths", fn := fun _ => fun
  | [d1, d2, d3] => { results := [.lit (.bool true)], args := [d1, d2, d3] }
  | _ => none }
def lawSmoothsRow : OpenClaim := { program := "ytcgbmnkgmepikaagreat", sum := "513575d5b932de261846cb51c0c24e4b50c6ee5cf3371c462846188bbfb3b4ca", func := "linkwork/linkworklaw52.LawSmooths", spec := "lawSmooths", unfollowed := true, recurses := true, apart := false }
def LawSmoothsSaid : Prop := lawSmoothsRow.holds Tryz.pinned (OpenSpec.ofChange lawSmoothsSpec)

/-- ITS FALSE NEIGHBOUR: 'it returns false'. Refute it at one input. -/
def lawSmoothsWrong : ChangeSpec := { name := "lawSmooths", fn := fun _ => fun
  | [d1, d2, d3] => { results := [.lit (.bool false)], args := [d1, d2, d3] }
  | _ => none }
def LawSmoothsWrongFalsely : Prop := lawSmoothsRow.holds Tryz.pinned (OpenSpec.ofChange lawSmoothsWrong)

/- THE SECOND FORM. 'bulk': how many values and letters a reading holds, each counted each time it is reached (what is shared counts as often as it is met; a slice's spare places count too). A statement '..UptoSaid' is the law's where the arguments, and the package variables that the reading takes, are together of bulk at most 1048576: NARROWER than '..Said'. Prove '..Said' where nothing that the law and all that it calls make is longer than what came in: it says more and counts as full. Else prove '..UptoSaid'. A law counts once. -/
mutual
def uptoBulk {H : Type} : DataW H → Nat
  | .lit (.string bytes) => bytes.length + 1
  | .lit _ => 1
  | .nil => 1
  | .ptr d => uptoBulk d + 1
  | .slice elems spare => uptoBulkAll elems + uptoBulkAll spare + 1
  | .agg parts => uptoBulkAll parts + 1
  | .iface _ d => uptoBulk d + 1
  | .map entries => uptoBulkEntries entries + 1
  | .held _ => 1
def uptoBulkAll {H : Type} : List (DataW H) → Nat
  | [] => 0
  | d :: r => uptoBulk d + uptoBulkAll r
def uptoBulkEntries {H : Type} : List (Lit × DataW H) → Nat
  | [] => 0
  | x :: r => uptoBulkEntry x + uptoBulkEntries r
def uptoBulkEntry {H : Type} : Lit × DataW H → Nat
  | (.string bytes, d) => bytes.length + uptoBulk d + 1
  | (_, d) => uptoBulk d + 1
 end
def uptoSmall : (H : Type) → List (DataW H) → Bool := fun _ ds => decide (uptoBulkAll ds ≤ 1048576)
def OpenSpec.upto (s : _root_.Go.ChangeSpec) : _root_.Go.OpenSpec := { _root_.Go.OpenSpec.ofChange s with cond := some uptoSmall }

/-- 'linkworklaw52.LawRises', WHERE WHAT IT READS IS OF BULK AT MOST 1048576: true; the input reads as it did. -/
def lawRisesUptoRow : OpenClaim := { program := "ytcgbmnkgmepikaagreat", sum := "513575d5b932de261846cb51c0c24e4b50c6ee5cf3371c462846188bbfb3b4ca", func := "linkwork/linkworklaw52.LawRises", spec := "lawRises", apart := false, narrowed := true }
def LawRisesUptoSaid : Prop := lawRisesUptoRow.holds Tryz.pinned (OpenSpec.upto lawRisesSpec)

/-- 'linkworklaw52.LawReads', WHERE WHAT IT READS IS OF BULK AT MOST 1048576: true; the input reads as it did. -/
def lawReadsUptoRow : OpenClaim := { program := "ytcgbmnkgmepikaagreat", sum := "513575d5b932de261846cb51c0c24e4b50c6ee5cf3371c462846188bbfb3b4ca", func := "linkwork/linkworklaw52.LawReads", spec := "lawReads", apart := false, narrowed := true }
def LawReadsUptoSaid : Prop := lawReadsUptoRow.holds Tryz.pinned (OpenSpec.upto lawReadsSpec)

/-- 'linkworklaw52.LawPeriods', WHERE WHAT IT READS IS OF BULK AT MOST 1048576: true; the input reads as it did. -/
def lawPeriodsUptoRow : OpenClaim := { program := "ytcgbmnkgmepikaagreat", sum := "513575d5b932de261846cb51c0c24e4b50c6ee5cf3371c462846188bbfb3b4ca", func := "linkwork/linkworklaw52.LawPeriods", spec := "lawPeriods", apart := false, narrowed := true }
def LawPeriodsUptoSaid : Prop := lawPeriodsUptoRow.holds Tryz.pinned (OpenSpec.upto lawPeriodsSpec)

/-- 'linkworklaw52.LawParts', WHERE WHAT IT READS IS OF BULK AT MOST 1048576: true; the input reads as it did. -/
def lawPartsUptoRow : OpenClaim := { program := "ytcgbmnkgmepikaagreat", sum := "513575d5b932de261846cb51c0c24e4b50c6ee5cf3371c462846188bbfb3b4ca", func := "linkwork/linkworklaw52.LawParts", spec := "lawParts", apart := false, narrowed := true }
def LawPartsUptoSaid : Prop := lawPartsUptoRow.holds Tryz.pinned (OpenSpec.upto lawPartsSpec)

/-- 'linkworklaw52.LawShifts', WHERE WHAT IT READS IS OF BULK AT MOST 1048576: true; the input reads as it did. -/
def lawShiftsUptoRow : OpenClaim := { program := "ytcgbmnkgmepikaagreat", sum := "513575d5b932de261846cb51c0c24e4b50c6ee5cf3371c462846188bbfb3b4ca", func := "linkwork/linkworklaw52.LawShifts", spec := "lawShifts", unfollowed := true, recurses := true, apart := false, narrowed := true }
def LawShiftsUptoSaid : Prop := lawShiftsUptoRow.holds Tryz.pinned (OpenSpec.upto lawShiftsSpec)

/-- 'linkworklaw52.LawMoves', WHERE WHAT IT READS IS OF BULK AT MOST 1048576: true; the input reads as it did. -/
def lawMovesUptoRow : OpenClaim := { program := "ytcgbmnkgmepikaagreat", sum := "513575d5b932de261846cb51c0c24e4b50c6ee5cf3371c462846188bbfb3b4ca", func := "linkwork/linkworklaw52.LawMoves", spec := "lawMoves", unfollowed := true, recurses := true, apart := false, narrowed := true }
def LawMovesUptoSaid : Prop := lawMovesUptoRow.holds Tryz.pinned (OpenSpec.upto lawMovesSpec)

/-- 'linkworklaw52.LawSmooths', WHERE WHAT IT READS IS OF BULK AT MOST 1048576: true; the input reads as it did. -/
def lawSmoothsUptoRow : OpenClaim := { program := "ytcgbmnkgmepikaagreat", sum := "513575d5b932de261846cb51c0c24e4b50c6ee5cf3371c462846188bbfb3b4ca", func := "linkwork/linkworklaw52.LawSmooths", spec := "lawSmooths", unfollowed := true, recurses := true, apart := false, narrowed := true }
def LawSmoothsUptoSaid : Prop := lawSmoothsUptoRow.holds Tryz.pinned (OpenSpec.upto lawSmoothsSpec)

end Rows
end Go.Proofs.YtcgbmnkgmepikaaGreat
