/-
  No cell of these rows narrows 'for every input' (looked for: loops, veiled, ifaces, maps, wideKeys, modest, calm, conditions, laid).
  DERIVED. THE GIVEN ROWS OF THIS SEAT. 7 by the template 'for every input the law returns true; each argument reads behind the call as it read before'; 0 by the template 'total and deterministic' (their statements: YtfjfekodeplcoaaGreatTotals.lean).
  GIVEN WITH THE SEED: the statements are not yours to turn. If you find one false, say at which input.
  Laid BY PROGRAM, IN A SANDBOX (cutbox-rows.mjs): the forced cells as the released guide's own fill.sh prints them over the translation b978d4b6fb30c34b… (all of the seat's roots in one cut). By AI agents, Wed Nov 11 2026. No macro, syntax, notation, axiom, sorry.
-/
import Derived.Test.YtfjfekodeplcoaaGreatChecked
import GoSem.Claim
import GoSem.ClaimJoined
import GoSem.ClaimMapViews
import Derived.JoinedTies
import Derived.KernelRfl
namespace Go.Proofs.YtfjfekodeplcoaaGreat
/- THE CELL 'sum', in the pinned program and in every row, IS THE sha256 OF THE DUMP (.gsa) THAT YtfjfekodeplcoaaGreatProg.lean LOADS. Nothing in Lean hashes anything: it is a label: what it is worth is what the hold of that sum in a sandbox is worth. -/
noncomputable def Tryz.pinned : Pinned := { name := "ytfjfekodeplcoaagreat", sum := "b978d4b6fb30c34b1302bdaf817a1023c4302e83efd794872cd29f27a93df24d", checked := Tryz.checked }
namespace Rows
def none {H : Type} : Left H := { results := [], args := [] }

/-- 'linkworklaw22.NormalScales': WHATEVER THE INPUT: true; the input reads as it did. -/
def normalScalesSpec : ChangeSpec := { name := "normalScales", fn := fun _ => fun
  | [d1, d2, d3] => { results := [.lit (.bool true)], args := [d1, d2, d3] }
  | _ => none }
def normalScalesRow : OpenClaim := { program := "ytfjfekodeplcoaagreat", sum := "b978d4b6fb30c34b1302bdaf817a1023c4302e83efd794872cd29f27a93df24d", func := "linkwork/linkworklaw22.NormalScales", spec := "normalScales", inPlace := ["internal/bytealg.abigen_runtime_cmpstring"], unfollowed := true, recurses := true, apart := false }
def NormalScalesSaid : Prop := normalScalesRow.holds Tryz.pinned (OpenSpec.ofChange normalScalesSpec)

/-- ITS FALSE NEIGHBOUR: 'it returns false'. Refute it at one input. -/
def normalScalesWrong : ChangeSpec := { name := "normalScales", fn := fun _ => fun
  | [d1, d2, d3] => { results := [.lit (.bool false)], args := [d1, d2, d3] }
  | _ => none }
def NormalScalesWrongFalsely : Prop := normalScalesRow.holds Tryz.pinned (OpenSpec.ofChange normalScalesWrong)

/-- 'linkworklaw22.NormalProducts': WHATEVER THE INPUT: true; the input reads as it did. -/
def normalProductsSpec : ChangeSpec := { name := "normalProducts", fn := fun _ => fun
  | [d1, d2, d3] => { results := [.lit (.bool true)], args := [d1, d2, d3] }
  | _ => none }
def normalProductsRow : OpenClaim := { program := "ytfjfekodeplcoaagreat", sum := "b978d4b6fb30c34b1302bdaf817a1023c4302e83efd794872cd29f27a93df24d", func := "linkwork/linkworklaw22.NormalProducts", spec := "normalProducts", inPlace := ["internal/bytealg.abigen_runtime_cmpstring"], unfollowed := true, recurses := true, apart := false }
def NormalProductsSaid : Prop := normalProductsRow.holds Tryz.pinned (OpenSpec.ofChange normalProductsSpec)

/-- ITS FALSE NEIGHBOUR: 'it returns false'. Refute it at one input. -/
def normalProductsWrong : ChangeSpec := { name := "normalProducts", fn := fun _ => fun
  | [d1, d2, d3] => { results := [.lit (.bool false)], args := [d1, d2, d3] }
  | _ => none }
def NormalProductsWrongFalsely : Prop := normalProductsRow.holds Tryz.pinned (OpenSpec.ofChange normalProductsWrong)

/-- 'linkworklaw22.NormalRenames': WHATEVER THE INPUT: true; the input reads as it did. -/
def normalRenamesSpec : ChangeSpec := { name := "normalRenames", fn := fun _ => fun
  | [d1, d2, d3] => { results := [.lit (.bool true)], args := [d1, d2, d3] }
  | _ => none }
def normalRenamesRow : OpenClaim := { program := "ytfjfekodeplcoaagreat", sum := "b978d4b6fb30c34b1302bdaf817a1023c4302e83efd794872cd29f27a93df24d", func := "linkwork/linkworklaw22.NormalRenames", spec := "normalRenames", inPlace := ["internal/bytealg.abigen_runtime_cmpstring"], unfollowed := true, recurses := true, apart := false }
def NormalRenamesSaid : Prop := normalRenamesRow.holds Tryz.pinned (OpenSpec.ofChange normalRenamesSpec)

/-- ITS FALSE NEIGHBOUR: 'it returns false'. Refute it at one input. -/
def normalRenamesWrong : ChangeSpec := { name := "normalRenames", fn := fun _ => fun
  | [d1, d2, d3] => { results := [.lit (.bool false)], args := [d1, d2, d3] }
  | _ => none }
def NormalRenamesWrongFalsely : Prop := normalRenamesRow.holds Tryz.pinned (OpenSpec.ofChange normalRenamesWrong)

/-- 'linkworklaw22.NormalNorms': WHATEVER THE INPUT: true; the input reads as it did. -/
def normalNormsSpec : ChangeSpec := { name := "normalNorms", fn := fun _ => fun
  | [d1, d2] => { results := [.lit (.bool true)], args := [d1, d2] }
  | _ => none }
def normalNormsRow : OpenClaim := { program := "ytfjfekodeplcoaagreat", sum := "b978d4b6fb30c34b1302bdaf817a1023c4302e83efd794872cd29f27a93df24d", func := "linkwork/linkworklaw22.NormalNorms", spec := "normalNorms", inPlace := ["internal/bytealg.abigen_runtime_cmpstring"], unfollowed := true, recurses := true, apart := false }
def NormalNormsSaid : Prop := normalNormsRow.holds Tryz.pinned (OpenSpec.ofChange normalNormsSpec)

/-- ITS FALSE NEIGHBOUR: 'it returns false'. Refute it at one input. -/
def normalNormsWrong : ChangeSpec := { name := "normalNorms", fn := fun _ => fun
  | [d1, d2] => { results := [.lit (.bool false)], args := [d1, d2] }
  | _ => none }
def NormalNormsWrongFalsely : Prop := normalNormsRow.holds Tryz.pinned (OpenSpec.ofChange normalNormsWrong)

/-- 'linkworklaw22.NormalTwice': WHATEVER THE INPUT: true; the input reads as it did. -/
def normalTwiceSpec : ChangeSpec := { name := "normalTwice", fn := fun _ => fun
  | [d] => { results := [.lit (.bool true)], args := [d] }
  | _ => none }
def normalTwiceRow : OpenClaim := { program := "ytfjfekodeplcoaagreat", sum := "b978d4b6fb30c34b1302bdaf817a1023c4302e83efd794872cd29f27a93df24d", func := "linkwork/linkworklaw22.NormalTwice", spec := "normalTwice", inPlace := ["internal/bytealg.abigen_runtime_cmpstring"], unfollowed := true, recurses := true, apart := false }
def NormalTwiceSaid : Prop := normalTwiceRow.holds Tryz.pinned (OpenSpec.ofChange normalTwiceSpec)

/-- ITS FALSE NEIGHBOUR: 'it returns false'. Refute it at one input. -/
def normalTwiceWrong : ChangeSpec := { name := "normalTwice", fn := fun _ => fun
  | [d] => { results := [.lit (.bool false)], args := [d] }
  | _ => none }
def NormalTwiceWrongFalsely : Prop := normalTwiceRow.holds Tryz.pinned (OpenSpec.ofChange normalTwiceWrong)

/-- 'linkworklaw22.NormalOrders': WHATEVER THE INPUT: true; the input reads as it did. -/
def normalOrdersSpec : ChangeSpec := { name := "normalOrders", fn := fun _ => fun
  | [d1, d2] => { results := [.lit (.bool true)], args := [d1, d2] }
  | _ => none }
def normalOrdersRow : OpenClaim := { program := "ytfjfekodeplcoaagreat", sum := "b978d4b6fb30c34b1302bdaf817a1023c4302e83efd794872cd29f27a93df24d", func := "linkwork/linkworklaw22.NormalOrders", spec := "normalOrders", inPlace := ["internal/bytealg.abigen_runtime_cmpstring"], unfollowed := true, recurses := true, apart := false }
def NormalOrdersSaid : Prop := normalOrdersRow.holds Tryz.pinned (OpenSpec.ofChange normalOrdersSpec)

/-- ITS FALSE NEIGHBOUR: 'it returns false'. Refute it at one input. -/
def normalOrdersWrong : ChangeSpec := { name := "normalOrders", fn := fun _ => fun
  | [d1, d2] => { results := [.lit (.bool false)], args := [d1, d2] }
  | _ => none }
def NormalOrdersWrongFalsely : Prop := normalOrdersRow.holds Tryz.pinned (OpenSpec.ofChange normalOrdersWrong)

/-- 'linkworklaw22.NormalBack': WHATEVER THE INPUT: true; the input reads as it did. -/
def normalBackSpec : ChangeSpec := { name := "normalBack", fn := fun _ => fun
  | [d1, d2, d3] => { results := [.lit (.bool true)], args := [d1, d2, d3] }
  | _ => none }
def normalBackRow : OpenClaim := { program := "ytfjfekodeplcoaagreat", sum := "b978d4b6fb30c34b1302bdaf817a1023c4302e83efd794872cd29f27a93df24d", func := "linkwork/linkworklaw22.NormalBack", spec := "normalBack", inPlace := ["internal/bytealg.abigen_runtime_cmpstring"], unfollowed := true, recurses := true, apart := false }
def NormalBackSaid : Prop := normalBackRow.holds Tryz.pinned (OpenSpec.ofChange normalBackSpec)

/-- ITS FALSE NEIGHBOUR: 'it returns false'. Refute it at one input. -/
def normalBackWrong : ChangeSpec := { name := "normalBack", fn := fun _ => fun
  | [d1, d2, d3] => { results := [.lit (.bool false)], args := [d1, d2, d3] }
  | _ => none }
def NormalBackWrongFalsely : Prop := normalBackRow.holds Tryz.pinned (OpenSpec.ofChange normalBackWrong)

/- THE SECOND FORM. 'bulk': how many values and letters a reading holds, each counted each time it is reached (what is shared counts as often as it is met; a slice's spare places count too). A statement '..UptoSaid' is the law's where the arguments, and the package variables that the reading takes, are together of bulk at most 1048576: NARROWER than '..Said'. Prove '..Said' where nothing that the law and all that it calls make is longer than what came in: it says more and counts as full. Else prove '..UptoSaid'. A law counts once. -/
mutual
def uptoBulk {H : Type} : DataW H → Nat
  | .lit (.string bytes) => bytes.length + 1
  | .lit _ => 1
  | .nil => 1
  | .ptr d => uptoBulk d + 1
  | .slice elems spare => uptoBulkAll elems + uptoBulkAll spare + 1
  | .agg parts => uptoBulkAll parts + 1
  | .iface _ d => uptoBulk d + 1
  | .map entries => uptoBulkEntries entries + 1
  | .held _ => 1
def uptoBulkAll {H : Type} : List (DataW H) → Nat
  | [] => 0
  | d :: r => uptoBulk d + uptoBulkAll r
def uptoBulkEntries {H : Type} : List (Lit × DataW H) → Nat
  | [] => 0
  | x :: r => uptoBulkEntry x + uptoBulkEntries r
def uptoBulkEntry {H : Type} : Lit × DataW H → Nat
  | (.string bytes, d) => bytes.length + uptoBulk d + 1
  | (_, d) => uptoBulk d + 1
 end
def uptoSmall : (H : Type) → List (DataW H) → Bool := fun _ ds => decide (uptoBulkAll ds ≤ 1048576)
def OpenSpec.upto (s : _root_.Go.ChangeSpec) : _root_.Go.OpenSpec := { _root_.Go.OpenSpec.ofChange s with cond := some uptoSmall }

/-- 'linkworklaw22.NormalScales', WHERE WHAT IT READS IS OF BULK AT MOST 1048576: true; the input reads as it did. -/
def normalScalesUptoRow : OpenClaim := { program := "ytfjfekodeplcoaagreat", sum := "b978d4b6fb30c34b1302bdaf817a1023c4302e83efd794872cd29f27a93df24d", func := "linkwork/linkworklaw22.NormalScales", spec := "normalScales", inPlace := ["internal/bytealg.abigen_runtime_cmpstring"], unfollowed := true, recurses := true, apart := false, narrowed := true }
def NormalScalesUptoSaid : Prop := normalScalesUptoRow.holds Tryz.pinned (OpenSpec.upto normalScalesSpec)

/-- 'linkworklaw22.NormalProducts', WHERE WHAT IT READS IS OF BULK AT MOST 1048576: true; the input reads as it did. -/
def normalProductsUptoRow : OpenClaim := { program := "ytfjfekodeplcoaagreat", sum := "b978d4b6fb30c34b1302bdaf817a1023c4302e83efd794872cd29f27a93df24d", func := "linkwork/linkworklaw22.NormalProducts", spec := "normalProducts", inPlace := ["internal/bytealg.abigen_runtime_cmpstring"], unfollowed := true, recurses := true, apart := false, narrowed := true }
def NormalProductsUptoSaid : Prop := normalProductsUptoRow.holds Tryz.pinned (OpenSpec.upto normalProductsSpec)

/-- 'linkworklaw22.NormalRenames', WHERE WHAT IT READS IS OF BULK AT MOST 1048576: true; the input reads as it did. -/
def normalRenamesUptoRow : OpenClaim := { program := "ytfjfekodeplcoaagreat", sum := "b978d4b6fb30c34b1302bdaf817a1023c4302e83efd794872cd29f27a93df24d", func := "linkwork/linkworklaw22.NormalRenames", spec := "normalRenames", inPlace := ["internal/bytealg.abigen_runtime_cmpstring"], unfollowed := true, recurses := true, apart := false, narrowed := true }
def NormalRenamesUptoSaid : Prop := normalRenamesUptoRow.holds Tryz.pinned (OpenSpec.upto normalRenamesSpec)

/-- 'linkworklaw22.NormalNorms', WHERE WHAT IT READS IS OF BULK AT MOST 1048576: true; the input reads as it did. -/
def normalNormsUptoRow : OpenClaim := { program := "ytfjfekodeplcoaagreat", sum := "b978d4b6fb30c34b1302bdaf817a1023c4302e83efd794872cd29f27a93df24d", func := "linkwork/linkworklaw22.NormalNorms", spec := "normalNorms", inPlace := ["internal/bytealg.abigen_runtime_cmpstring"], unfollowed := true, recurses := true, apart := false, narrowed := true }
def NormalNormsUptoSaid : Prop := normalNormsUptoRow.holds Tryz.pinned (OpenSpec.upto normalNormsSpec)

/-- 'linkworklaw22.NormalTwice', WHERE WHAT IT READS IS OF BULK AT MOST 1048576: true; the input reads as it did. -/
def normalTwiceUptoRow : OpenClaim := { program := "ytfjfekodeplcoaagreat", sum := "b978d4b6fb30c34b1302bdaf817a1023c4302e83efd794872cd29f27a93df24d", func := "linkwork/linkworklaw22.NormalTwice", spec := "normalTwice", inPlace := ["internal/bytealg.abigen_runtime_cmpstring"], unfollowed := true, recurses := true, apart := false, narrowed := true }
def NormalTwiceUptoSaid : Prop := normalTwiceUptoRow.holds Tryz.pinned (OpenSpec.upto normalTwiceSpec)

/-- 'linkworklaw22.NormalOrders', WHERE WHAT IT READS IS OF BULK AT MOST 1048576: true; the input reads as it did. -/
def normalOrdersUptoRow : OpenClaim := { program := "ytfjfekodeplcoaagreat", sum := "b978d4b6fb30c34b1302bdaf817a1023c4302e83efd794872cd29f27a93df24d", func := "linkwork/linkworklaw22.NormalOrders", spec := "normalOrders", inPlace := ["internal/bytealg.abigen_runtime_cmpstring"], unfollowed := true, recurses := true, apart := false, narrowed := true }
def NormalOrdersUptoSaid : Prop := normalOrdersUptoRow.holds Tryz.pinned (OpenSpec.upto normalOrdersSpec)

/-- 'linkworklaw22.NormalBack', WHERE WHAT IT READS IS OF BULK AT MOST 1048576: true; the input reads as it did. -/
def normalBackUptoRow : OpenClaim := { program := "ytfjfekodeplcoaagreat", sum := "b978d4b6fb30c34b1302bdaf817a1023c4302e83efd794872cd29f27a93df24d", func := "linkwork/linkworklaw22.NormalBack", spec := "normalBack", inPlace := ["internal/bytealg.abigen_runtime_cmpstring"], unfollowed := true, recurses := true, apart := false, narrowed := true }
def NormalBackUptoSaid : Prop := normalBackUptoRow.holds Tryz.pinned (OpenSpec.upto normalBackSpec)

end Rows
end Go.Proofs.YtfjfekodeplcoaaGreat
