/-
  No cell of these rows narrows 'for every input' (looked for: loops, veiled, ifaces, maps, wideKeys, modest, calm, conditions, laid).
  DERIVED. THE GIVEN ROWS OF THIS SEAT. 12 by the template 'for every input the law returns true; each argument reads behind the call as it read before'; 0 by the template 'total and deterministic' (their statements: YtbgkjomonebfcaaGreatTotals.lean).
  GIVEN WITH THE SEED: the statements are not yours to turn. If you find one false, say at which input.
  Laid BY PROGRAM, IN A SANDBOX (cutbox-rows.mjs): the forced cells as the released guide's own fill.sh prints them over the translation 9237c2278ce31de3… (all of the seat's roots in one cut). By AI agents, Wed Nov 11 2026. No macro, syntax, notation, axiom, sorry.
-/
import Derived.Test.YtbgkjomonebfcaaGreatChecked
import GoSem.Claim
import GoSem.ClaimJoined
import GoSem.ClaimMapViews
import Derived.JoinedTies
import Derived.KernelRfl
namespace Go.Proofs.YtbgkjomonebfcaaGreat
/- THE CELL 'sum', in the pinned program and in every row, IS THE sha256 OF THE DUMP (.gsa) THAT YtbgkjomonebfcaaGreatProg.lean LOADS. Nothing in Lean hashes anything: it is a label: what it is worth is what the hold of that sum in a sandbox is worth. -/
noncomputable def Tryz.pinned : Pinned := { name := "ytbgkjomonebfcaagreat", sum := "9237c2278ce31de363959960a669dbe9b60d887328529bffc50fd52d9e2a2e79", checked := Tryz.checked }
namespace Rows
def none {H : Type} : Left H := { results := [], args := [] }

/-- 'linkworklaw31.PositiveCoefficients': WHATEVER THE INPUT: true; the input reads as it did. -/
def positiveCoefficientsSpec : ChangeSpec := { name := "positiveCoefficients", fn := fun _ => fun
  | [d1, d2] => { results := [.lit (.bool true)], args := [d1, d2] }
  | _ => none }
def positiveCoefficientsRow : OpenClaim := { program := "ytbgkjomonebfcaagreat", sum := "9237c2278ce31de363959960a669dbe9b60d887328529bffc50fd52d9e2a2e79", func := "linkwork/linkworklaw31.PositiveCoefficients", spec := "positiveCoefficients", recurses := true, apart := false }
def PositiveCoefficientsSaid : Prop := positiveCoefficientsRow.holds Tryz.pinned (OpenSpec.ofChange positiveCoefficientsSpec)

/-- ITS FALSE NEIGHBOUR: 'it returns false'. Refute it at one input. -/
def positiveCoefficientsWrong : ChangeSpec := { name := "positiveCoefficients", fn := fun _ => fun
  | [d1, d2] => { results := [.lit (.bool false)], args := [d1, d2] }
  | _ => none }
def PositiveCoefficientsWrongFalsely : Prop := positiveCoefficientsRow.holds Tryz.pinned (OpenSpec.ofChange positiveCoefficientsWrong)

/-- 'linkworklaw31.PositiveBetween': WHATEVER THE INPUT: true; the input reads as it did. -/
def positiveBetweenSpec : ChangeSpec := { name := "positiveBetween", fn := fun _ => fun
  | [d1, d2, d3] => { results := [.lit (.bool true)], args := [d1, d2, d3] }
  | _ => none }
def positiveBetweenRow : OpenClaim := { program := "ytbgkjomonebfcaagreat", sum := "9237c2278ce31de363959960a669dbe9b60d887328529bffc50fd52d9e2a2e79", func := "linkwork/linkworklaw31.PositiveBetween", spec := "positiveBetween", recurses := true, apart := false }
def PositiveBetweenSaid : Prop := positiveBetweenRow.holds Tryz.pinned (OpenSpec.ofChange positiveBetweenSpec)

/-- ITS FALSE NEIGHBOUR: 'it returns false'. Refute it at one input. -/
def positiveBetweenWrong : ChangeSpec := { name := "positiveBetween", fn := fun _ => fun
  | [d1, d2, d3] => { results := [.lit (.bool false)], args := [d1, d2, d3] }
  | _ => none }
def PositiveBetweenWrongFalsely : Prop := positiveBetweenRow.holds Tryz.pinned (OpenSpec.ofChange positiveBetweenWrong)

/-- 'linkworklaw31.PositiveJoins': WHATEVER THE INPUT: true; the input reads as it did. -/
def positiveJoinsSpec : ChangeSpec := { name := "positiveJoins", fn := fun _ => fun
  | [d1, d2, d3] => { results := [.lit (.bool true)], args := [d1, d2, d3] }
  | _ => none }
def positiveJoinsRow : OpenClaim := { program := "ytbgkjomonebfcaagreat", sum := "9237c2278ce31de363959960a669dbe9b60d887328529bffc50fd52d9e2a2e79", func := "linkwork/linkworklaw31.PositiveJoins", spec := "positiveJoins", recurses := true, apart := false }
def PositiveJoinsSaid : Prop := positiveJoinsRow.holds Tryz.pinned (OpenSpec.ofChange positiveJoinsSpec)

/-- ITS FALSE NEIGHBOUR: 'it returns false'. Refute it at one input. -/
def positiveJoinsWrong : ChangeSpec := { name := "positiveJoins", fn := fun _ => fun
  | [d1, d2, d3] => { results := [.lit (.bool false)], args := [d1, d2, d3] }
  | _ => none }
def PositiveJoinsWrongFalsely : Prop := positiveJoinsRow.holds Tryz.pinned (OpenSpec.ofChange positiveJoinsWrong)

/-- 'linkworklaw31.PositiveVerifies': WHATEVER THE INPUT: true; the input reads as it did. -/
def positiveVerifiesSpec : ChangeSpec := { name := "positiveVerifies", fn := fun _ => fun
  | [d1, d2, d3] => { results := [.lit (.bool true)], args := [d1, d2, d3] }
  | _ => none }
def positiveVerifiesRow : OpenClaim := { program := "ytbgkjomonebfcaagreat", sum := "9237c2278ce31de363959960a669dbe9b60d887328529bffc50fd52d9e2a2e79", func := "linkwork/linkworklaw31.PositiveVerifies", spec := "positiveVerifies", recurses := true, apart := false }
def PositiveVerifiesSaid : Prop := positiveVerifiesRow.holds Tryz.pinned (OpenSpec.ofChange positiveVerifiesSpec)

/-- ITS FALSE NEIGHBOUR: 'it returns false'. Refute it at one input. -/
def positiveVerifiesWrong : ChangeSpec := { name := "positiveVerifies", fn := fun _ => fun
  | [d1, d2, d3] => { results := [.lit (.bool false)], args := [d1, d2, d3] }
  | _ => none }
def PositiveVerifiesWrongFalsely : Prop := positiveVerifiesRow.holds Tryz.pinned (OpenSpec.ofChange positiveVerifiesWrong)

/-- 'linkworklaw31.PositiveMakes': WHATEVER THE INPUT: true; the input reads as it did. -/
def positiveMakesSpec : ChangeSpec := { name := "positiveMakes", fn := fun _ => fun
  | [d1, d2, d3] => { results := [.lit (.bool true)], args := [d1, d2, d3] }
  | _ => none }
def positiveMakesRow : OpenClaim := { program := "ytbgkjomonebfcaagreat", sum := "9237c2278ce31de363959960a669dbe9b60d887328529bffc50fd52d9e2a2e79", func := "linkwork/linkworklaw31.PositiveMakes", spec := "positiveMakes", recurses := true, apart := false }
def PositiveMakesSaid : Prop := positiveMakesRow.holds Tryz.pinned (OpenSpec.ofChange positiveMakesSpec)

/-- ITS FALSE NEIGHBOUR: 'it returns false'. Refute it at one input. -/
def positiveMakesWrong : ChangeSpec := { name := "positiveMakes", fn := fun _ => fun
  | [d1, d2, d3] => { results := [.lit (.bool false)], args := [d1, d2, d3] }
  | _ => none }
def PositiveMakesWrongFalsely : Prop := positiveMakesRow.holds Tryz.pinned (OpenSpec.ofChange positiveMakesWrong)

/-- 'linkworklaw31.PositiveRight': WHATEVER THE INPUT: true; the input reads as it did. -/
def positiveRightSpec : ChangeSpec := { name := "positiveRight", fn := fun _ => fun
  | [d1, d2, d3] => { results := [.lit (.bool true)], args := [d1, d2, d3] }
  | _ => none }
def positiveRightRow : OpenClaim := { program := "ytbgkjomonebfcaagreat", sum := "9237c2278ce31de363959960a669dbe9b60d887328529bffc50fd52d9e2a2e79", func := "linkwork/linkworklaw31.PositiveRight", spec := "positiveRight", recurses := true, apart := false }
def PositiveRightSaid : Prop := positiveRightRow.holds Tryz.pinned (OpenSpec.ofChange positiveRightSpec)

/-- ITS FALSE NEIGHBOUR: 'it returns false'. Refute it at one input. -/
def positiveRightWrong : ChangeSpec := { name := "positiveRight", fn := fun _ => fun
  | [d1, d2, d3] => { results := [.lit (.bool false)], args := [d1, d2, d3] }
  | _ => none }
def PositiveRightWrongFalsely : Prop := positiveRightRow.holds Tryz.pinned (OpenSpec.ofChange positiveRightWrong)

/-- 'linkworklaw53.CamReads': WHATEVER THE INPUT: true; the input reads as it did. -/
def camReadsSpec : ChangeSpec := { name := "camReads", fn := fun _ => fun
  | [d1, d2] => { results := [.lit (.bool true)], args := [d1, d2] }
  | _ => none }
def camReadsRow : OpenClaim := { program := "ytbgkjomonebfcaagreat", sum := "9237c2278ce31de363959960a669dbe9b60d887328529bffc50fd52d9e2a2e79", func := "linkwork/linkworklaw53.CamReads", spec := "camReads", apart := false }
def CamReadsSaid : Prop := camReadsRow.holds Tryz.pinned (OpenSpec.ofChange camReadsSpec)

/-- ITS FALSE NEIGHBOUR: 'it returns false'. Refute it at one input. -/
def camReadsWrong : ChangeSpec := { name := "camReads", fn := fun _ => fun
  | [d1, d2] => { results := [.lit (.bool false)], args := [d1, d2] }
  | _ => none }
def CamReadsWrongFalsely : Prop := camReadsRow.holds Tryz.pinned (OpenSpec.ofChange camReadsWrong)

/-- 'linkworklaw53.CamDecides': WHATEVER THE INPUT: true; the input reads as it did. -/
def camDecidesSpec : ChangeSpec := { name := "camDecides", fn := fun _ => fun
  | [d1, d2] => { results := [.lit (.bool true)], args := [d1, d2] }
  | _ => none }
def camDecidesRow : OpenClaim := { program := "ytbgkjomonebfcaagreat", sum := "9237c2278ce31de363959960a669dbe9b60d887328529bffc50fd52d9e2a2e79", func := "linkwork/linkworklaw53.CamDecides", spec := "camDecides", apart := false }
def CamDecidesSaid : Prop := camDecidesRow.holds Tryz.pinned (OpenSpec.ofChange camDecidesSpec)

/-- ITS FALSE NEIGHBOUR: 'it returns false'. Refute it at one input. -/
def camDecidesWrong : ChangeSpec := { name := "camDecides", fn := fun _ => fun
  | [d1, d2] => { results := [.lit (.bool false)], args := [d1, d2] }
  | _ => none }
def CamDecidesWrongFalsely : Prop := camDecidesRow.holds Tryz.pinned (OpenSpec.ofChange camDecidesWrong)

/-- 'linkworklaw53.CamGrows': WHATEVER THE INPUT: true; the input reads as it did. -/
def camGrowsSpec : ChangeSpec := { name := "camGrows", fn := fun _ => fun
  | [d1, d2, d3] => { results := [.lit (.bool true)], args := [d1, d2, d3] }
  | _ => none }
def camGrowsRow : OpenClaim := { program := "ytbgkjomonebfcaagreat", sum := "9237c2278ce31de363959960a669dbe9b60d887328529bffc50fd52d9e2a2e79", func := "linkwork/linkworklaw53.CamGrows", spec := "camGrows", apart := false }
def CamGrowsSaid : Prop := camGrowsRow.holds Tryz.pinned (OpenSpec.ofChange camGrowsSpec)

/-- ITS FALSE NEIGHBOUR: 'it returns false'. Refute it at one input. -/
def camGrowsWrong : ChangeSpec := { name := "camGrows", fn := fun _ => fun
  | [d1, d2, d3] => { results := [.lit (.bool false)], args := [d1, d2, d3] }
  | _ => none }
def CamGrowsWrongFalsely : Prop := camGrowsRow.holds Tryz.pinned (OpenSpec.ofChange camGrowsWrong)

/-- 'linkworklaw53.CamProves': WHATEVER THE INPUT: true; the input reads as it did. -/
def camProvesSpec : ChangeSpec := { name := "camProves", fn := fun _ => fun
  | [d1, d2, d3] => { results := [.lit (.bool true)], args := [d1, d2, d3] }
  | _ => none }
def camProvesRow : OpenClaim := { program := "ytbgkjomonebfcaagreat", sum := "9237c2278ce31de363959960a669dbe9b60d887328529bffc50fd52d9e2a2e79", func := "linkwork/linkworklaw53.CamProves", spec := "camProves", apart := false }
def CamProvesSaid : Prop := camProvesRow.holds Tryz.pinned (OpenSpec.ofChange camProvesSpec)

/-- ITS FALSE NEIGHBOUR: 'it returns false'. Refute it at one input. -/
def camProvesWrong : ChangeSpec := { name := "camProves", fn := fun _ => fun
  | [d1, d2, d3] => { results := [.lit (.bool false)], args := [d1, d2, d3] }
  | _ => none }
def CamProvesWrongFalsely : Prop := camProvesRow.holds Tryz.pinned (OpenSpec.ofChange camProvesWrong)

/-- 'linkworklaw53.CamDwells': WHATEVER THE INPUT: true; the input reads as it did. -/
def camDwellsSpec : ChangeSpec := { name := "camDwells", fn := fun _ => fun
  | [d1, d2] => { results := [.lit (.bool true)], args := [d1, d2] }
  | _ => none }
def camDwellsRow : OpenClaim := { program := "ytbgkjomonebfcaagreat", sum := "9237c2278ce31de363959960a669dbe9b60d887328529bffc50fd52d9e2a2e79", func := "linkwork/linkworklaw53.CamDwells", spec := "camDwells", apart := false }
def CamDwellsSaid : Prop := camDwellsRow.holds Tryz.pinned (OpenSpec.ofChange camDwellsSpec)

/-- ITS FALSE NEIGHBOUR: 'it returns false'. Refute it at one input. -/
def camDwellsWrong : ChangeSpec := { name := "camDwells", fn := fun _ => fun
  | [d1, d2] => { results := [.lit (.bool false)], args := [d1, d2] }
  | _ => none }
def CamDwellsWrongFalsely : Prop := camDwellsRow.holds Tryz.pinned (OpenSpec.ofChange camDwellsWrong)

/-- 'linkworklaw53.CamShifts': WHATEVER THE INPUT: true; the input reads as it did. -/
def camShiftsSpec : ChangeSpec := { name := "camShifts", fn := fun _ => fun
  | [d1, d2, d3] => { results := [.lit (.bool true)], args := [d1, d2, d3] }
  | _ => none }
def camShiftsRow : OpenClaim := { program := "ytbgkjomonebfcaagreat", sum := "9237c2278ce31de363959960a669dbe9b60d887328529bffc50fd52d9e2a2e79", func := "linkwork/linkworklaw53.CamShifts", spec := "camShifts", unfollowed := true, recurses := true, apart := false }
def CamShiftsSaid : Prop := camShiftsRow.holds Tryz.pinned (OpenSpec.ofChange camShiftsSpec)

/-- ITS FALSE NEIGHBOUR: 'it returns false'. Refute it at one input. -/
def camShiftsWrong : ChangeSpec := { name := "camShifts", fn := fun _ => fun
  | [d1, d2, d3] => { results := [.lit (.bool false)], args := [d1, d2, d3] }
  | _ => none }
def CamShiftsWrongFalsely : Prop := camShiftsRow.holds Tryz.pinned (OpenSpec.ofChange camShiftsWrong)

/- THE SECOND FORM. 'bulk': how many values and letters a reading holds, each counted each time it is reached (what is shared counts as often as it is met; a slice's spare places count too). A statement '..UptoSaid' is the law's where the arguments, and the package variables that the reading takes, are together of bulk at most 1048576: NARROWER than '..Said'. Prove '..Said' where nothing that the law and all that it calls make is longer than what came in: it says more and counts as full. Else prove '..UptoSaid'. A law counts once. -/
mutual
def uptoBulk {H : Type} : DataW H → Nat
  | .lit (.string bytes) => bytes.length + 1
  | .lit _ => 1
  | .nil => 1
  | .ptr d => uptoBulk d + 1
  | .slice elems spare => uptoBulkAll elems + uptoBulkAll spare + 1
  | .agg parts => uptoBulkAll parts + 1
  | .iface _ d => uptoBulk d + 1
  | .map entries => uptoBulkEntries entries + 1
  | .held _ => 1
def uptoBulkAll {H : Type} : List (DataW H) → Nat
  | [] => 0
  | d :: r => uptoBulk d + uptoBulkAll r
def uptoBulkEntries {H : Type} : List (Lit × DataW H) → Nat
  | [] => 0
  | x :: r => uptoBulkEntry x + uptoBulkEntries r
def uptoBulkEntry {H : Type} : Lit × DataW H → Nat
  | (.string bytes, d) => bytes.length + uptoBulk d + 1
  | (_, d) => uptoBulk d + 1
 end
def uptoSmall : (H : Type) → List (DataW H) → Bool := fun _ ds => decide (uptoBulkAll ds ≤ 1048576)
def OpenSpec.upto (s : _root_.Go.ChangeSpec) : _root_.Go.OpenSpec := { _root_.Go.OpenSpec.ofChange s with cond := some uptoSmall }

/-- 'linkworklaw31.PositiveCoefficients', WHERE WHAT IT READS IS OF BULK AT MOST 1048576: true; the input reads as it did. -/
def positiveCoefficientsUptoRow : OpenClaim := { program := "ytbgkjomonebfcaagreat", sum := "9237c2278ce31de363959960a669dbe9b60d887328529bffc50fd52d9e2a2e79", func := "linkwork/linkworklaw31.PositiveCoefficients", spec := "positiveCoefficients", recurses := true, apart := false, narrowed := true }
def PositiveCoefficientsUptoSaid : Prop := positiveCoefficientsUptoRow.holds Tryz.pinned (OpenSpec.upto positiveCoefficientsSpec)

/-- 'linkworklaw31.PositiveBetween', WHERE WHAT IT READS IS OF BULK AT MOST 1048576: true; the input reads as it did. -/
def positiveBetweenUptoRow : OpenClaim := { program := "ytbgkjomonebfcaagreat", sum := "9237c2278ce31de363959960a669dbe9b60d887328529bffc50fd52d9e2a2e79", func := "linkwork/linkworklaw31.PositiveBetween", spec := "positiveBetween", recurses := true, apart := false, narrowed := true }
def PositiveBetweenUptoSaid : Prop := positiveBetweenUptoRow.holds Tryz.pinned (OpenSpec.upto positiveBetweenSpec)

/-- 'linkworklaw31.PositiveJoins', WHERE WHAT IT READS IS OF BULK AT MOST 1048576: true; the input reads as it did. -/
def positiveJoinsUptoRow : OpenClaim := { program := "ytbgkjomonebfcaagreat", sum := "9237c2278ce31de363959960a669dbe9b60d887328529bffc50fd52d9e2a2e79", func := "linkwork/linkworklaw31.PositiveJoins", spec := "positiveJoins", recurses := true, apart := false, narrowed := true }
def PositiveJoinsUptoSaid : Prop := positiveJoinsUptoRow.holds Tryz.pinned (OpenSpec.upto positiveJoinsSpec)

/-- 'linkworklaw31.PositiveVerifies', WHERE WHAT IT READS IS OF BULK AT MOST 1048576: true; the input reads as it did. -/
def positiveVerifiesUptoRow : OpenClaim := { program := "ytbgkjomonebfcaagreat", sum := "9237c2278ce31de363959960a669dbe9b60d887328529bffc50fd52d9e2a2e79", func := "linkwork/linkworklaw31.PositiveVerifies", spec := "positiveVerifies", recurses := true, apart := false, narrowed := true }
def PositiveVerifiesUptoSaid : Prop := positiveVerifiesUptoRow.holds Tryz.pinned (OpenSpec.upto positiveVerifiesSpec)

/-- 'linkworklaw31.PositiveMakes', WHERE WHAT IT READS IS OF BULK AT MOST 1048576: true; the input reads as it did. -/
def positiveMakesUptoRow : OpenClaim := { program := "ytbgkjomonebfcaagreat", sum := "9237c2278ce31de363959960a669dbe9b60d887328529bffc50fd52d9e2a2e79", func := "linkwork/linkworklaw31.PositiveMakes", spec := "positiveMakes", recurses := true, apart := false, narrowed := true }
def PositiveMakesUptoSaid : Prop := positiveMakesUptoRow.holds Tryz.pinned (OpenSpec.upto positiveMakesSpec)

/-- 'linkworklaw31.PositiveRight', WHERE WHAT IT READS IS OF BULK AT MOST 1048576: true; the input reads as it did. -/
def positiveRightUptoRow : OpenClaim := { program := "ytbgkjomonebfcaagreat", sum := "9237c2278ce31de363959960a669dbe9b60d887328529bffc50fd52d9e2a2e79", func := "linkwork/linkworklaw31.PositiveRight", spec := "positiveRight", recurses := true, apart := false, narrowed := true }
def PositiveRightUptoSaid : Prop := positiveRightUptoRow.holds Tryz.pinned (OpenSpec.upto positiveRightSpec)

/-- 'linkworklaw53.CamReads', WHERE WHAT IT READS IS OF BULK AT MOST 1048576: true; the input reads as it did. -/
def camReadsUptoRow : OpenClaim := { program := "ytbgkjomonebfcaagreat", sum := "9237c2278ce31de363959960a669dbe9b60d887328529bffc50fd52d9e2a2e79", func := "linkwork/linkworklaw53.CamReads", spec := "camReads", apart := false, narrowed := true }
def CamReadsUptoSaid : Prop := camReadsUptoRow.holds Tryz.pinned (OpenSpec.upto camReadsSpec)

/-- 'linkworklaw53.CamDecides', WHERE WHAT IT READS IS OF BULK AT MOST 1048576: true; the input reads as it did. -/
def camDecidesUptoRow : OpenClaim := { program := "ytbgkjomonebfcaagreat", sum := "9237c2278ce31de363959960a669dbe9b60d887328529bffc50fd52d9e2a2e79", func := "linkwork/linkworklaw53.CamDecides", spec := "camDecides", apart := false, narrowed := true }
def CamDecidesUptoSaid : Prop := camDecidesUptoRow.holds Tryz.pinned (OpenSpec.upto camDecidesSpec)

/-- 'linkworklaw53.CamGrows', WHERE WHAT IT READS IS OF BULK AT MOST 1048576: true; the input reads as it did. -/
def camGrowsUptoRow : OpenClaim := { program := "ytbgkjomonebfcaagreat", sum := "9237c2278ce31de363959960a669dbe9b60d887328529bffc50fd52d9e2a2e79", func := "linkwork/linkworklaw53.CamGrows", spec := "camGrows", apart := false, narrowed := true }
def CamGrowsUptoSaid : Prop := camGrowsUptoRow.holds Tryz.pinned (OpenSpec.upto camGrowsSpec)

/-- 'linkworklaw53.CamProves', WHERE WHAT IT READS IS OF BULK AT MOST 1048576: true; the input reads as it did. -/
def camProvesUptoRow : OpenClaim := { program := "ytbgkjomonebfcaagreat", sum := "9237c2278ce31de363959960a669dbe9b60d887328529bffc50fd52d9e2a2e79", func := "linkwork/linkworklaw53.CamProves", spec := "camProves", apart := false, narrowed := true }
def CamProvesUptoSaid : Prop := camProvesUptoRow.holds Tryz.pinned (OpenSpec.upto camProvesSpec)

/-- 'linkworklaw53.CamDwells', WHERE WHAT IT READS IS OF BULK AT MOST 1048576: true; the input reads as it did. -/
def camDwellsUptoRow : OpenClaim := { program := "ytbgkjomonebfcaagreat", sum := "9237c2278ce31de363959960a669dbe9b60d887328529bffc50fd52d9e2a2e79", func := "linkwork/linkworklaw53.CamDwells", spec := "camDwells", apart := false, narrowed := true }
def CamDwellsUptoSaid : Prop := camDwellsUptoRow.holds Tryz.pinned (OpenSpec.upto camDwellsSpec)

/-- 'linkworklaw53.CamShifts', WHERE WHAT IT READS IS OF BULK AT MOST 1048576: true; the input reads as it did. -/
def camShiftsUptoRow : OpenClaim := { program := "ytbgkjomonebfcaagreat", sum := "9237c2278ce31de363959960a669dbe9b60d887328529bffc50fd52d9e2a2e79", func := "linkwork/linkworklaw53.CamShifts", spec := "camShifts", unfollowed := true, recurses := true, apart := false, narrowed := true }
def CamShiftsUptoSaid : Prop := camShiftsUptoRow.holds Tryz.pinned (OpenSpec.upto camShiftsSpec)

end Rows
end Go.Proofs.YtbgkjomonebfcaaGreat
