/-
  NARROWER THAN 'FOR EVERY INPUT', by the rows' own cells (each row's printed sentence says how): SturmCounts: laid · SturmRefines: laid · SturmAdds: laid · SturmParity: laid · SturmIsolates: laid · SturmApart: laid · SturmRoots: laid.
  DERIVED. THE GIVEN ROWS OF THIS SEAT. 7 by the template 'for every input the law returns true; each argument reads behind the call as it read before'; 0 by the template 'total and deterministic' (their statements: YtjadajceekjeoaaGreatDoorTotals.lean).
  GIVEN WITH THE SEED: the statements are not yours to turn. If you find one false, say at which input.
  Laid BY PROGRAM, IN A SANDBOX (cutbox-rows.mjs): the forced cells as the released guide's own fill.sh prints them over the translation 28c466a63e351291… (all of the seat's roots in one cut). By AI agents, Wed Nov 11 2026. No macro, syntax, notation, axiom, sorry.
-/
import Derived.Test.YtjadajceekjeoaaGreatDoorChecked
import GoSem.Claim
import GoSem.ClaimJoined
import GoSem.ClaimMapViews
import Derived.JoinedTies
import Derived.KernelRfl
namespace Go.Proofs.YtjadajceekjeoaaGreatDoor
/- THE CELL 'sum', in the pinned program and in every row, IS THE sha256 OF THE DUMP (.gsa) THAT YtjadajceekjeoaaGreatDoorProg.lean LOADS. Nothing in Lean hashes anything: it is a label: what it is worth is what the hold of that sum in a sandbox is worth. -/
noncomputable def Tryz.pinned : Pinned := { name := "ytjadajceekjeoaagreatdoor", sum := "28c466a63e351291b36417c0c906e901b3f229ae441f45d5e37ba651ee81bf89", checked := Tryz.checked }
namespace Rows
def none {H : Type} : Left H := { results := [], args := [] }

/- WHAT THE LISTED PACKAGE-LEVEL VARIABLES READ AS WHEN THE CALL BEGINS. Each datum BY PROGRAM (the guide's laid-datum.mjs) off the statement by which the dump's own 'gosem.cut.vars' lays the variable. In a bare row this is a premise. The card (YtjadajceekjeoaaGreatDoorCards.lean) ties it to the program's text. -/
def laid_math_bits_deBruijn32tab {H : Type} : DataW H := .agg [.lit (.int .u8 0), .lit (.int .u8 1), .lit (.int .u8 28), .lit (.int .u8 2), .lit (.int .u8 29), .lit (.int .u8 14), .lit (.int .u8 24), .lit (.int .u8 3), .lit (.int .u8 30), .lit (.int .u8 22), .lit (.int .u8 20), .lit (.int .u8 15), .lit (.int .u8 25), .lit (.int .u8 17), .lit (.int .u8 4), .lit (.int .u8 8), .lit (.int .u8 31), .lit (.int .u8 27), .lit (.int .u8 13), .lit (.int .u8 23), .lit (.int .u8 21), .lit (.int .u8 19), .lit (.int .u8 16), .lit (.int .u8 7), .lit (.int .u8 26), .lit (.int .u8 12), .lit (.int .u8 18), .lit (.int .u8 6), .lit (.int .u8 11), .lit (.int .u8 5), .lit (.int .u8 10), .lit (.int .u8 9)]
def laid_math_bits_deBruijn64tab {H : Type} : DataW H := .agg [.lit (.int .u8 0), .lit (.int .u8 1), .lit (.int .u8 56), .lit (.int .u8 2), .lit (.int .u8 57), .lit (.int .u8 49), .lit (.int .u8 28), .lit (.int .u8 3), .lit (.int .u8 61), .lit (.int .u8 58), .lit (.int .u8 42), .lit (.int .u8 50), .lit (.int .u8 38), .lit (.int .u8 29), .lit (.int .u8 17), .lit (.int .u8 4), .lit (.int .u8 62), .lit (.int .u8 47), .lit (.int .u8 59), .lit (.int .u8 36), .lit (.int .u8 45), .lit (.int .u8 43), .lit (.int .u8 51), .lit (.int .u8 22), .lit (.int .u8 53), .lit (.int .u8 39), .lit (.int .u8 33), .lit (.int .u8 30), .lit (.int .u8 24), .lit (.int .u8 18), .lit (.int .u8 12), .lit (.int .u8 5), .lit (.int .u8 63), .lit (.int .u8 55), .lit (.int .u8 48), .lit (.int .u8 27), .lit (.int .u8 60), .lit (.int .u8 41), .lit (.int .u8 37), .lit (.int .u8 16), .lit (.int .u8 46), .lit (.int .u8 35), .lit (.int .u8 44), .lit (.int .u8 21), .lit (.int .u8 52), .lit (.int .u8 32), .lit (.int .u8 23), .lit (.int .u8 11), .lit (.int .u8 54), .lit (.int .u8 26), .lit (.int .u8 40), .lit (.int .u8 15), .lit (.int .u8 34), .lit (.int .u8 20), .lit (.int .u8 31), .lit (.int .u8 10), .lit (.int .u8 25), .lit (.int .u8 14), .lit (.int .u8 19), .lit (.int .u8 9), .lit (.int .u8 13), .lit (.int .u8 8), .lit (.int .u8 7), .lit (.int .u8 6)]
def laid_internal_strconv_uint64pow10 {H : Type} : DataW H := .agg [.lit (.int .u64 1), .lit (.int .u64 10), .lit (.int .u64 100), .lit (.int .u64 1000), .lit (.int .u64 10000), .lit (.int .u64 100000), .lit (.int .u64 1000000), .lit (.int .u64 10000000), .lit (.int .u64 100000000), .lit (.int .u64 1000000000), .lit (.int .u64 10000000000), .lit (.int .u64 100000000000), .lit (.int .u64 1000000000000), .lit (.int .u64 10000000000000), .lit (.int .u64 100000000000000), .lit (.int .u64 1000000000000000), .lit (.int .u64 10000000000000000), .lit (.int .u64 100000000000000000), .lit (.int .u64 1000000000000000000), .lit (.int .u64 10000000000000000000)]

/-- 'linkworklaw06.SturmCounts': WHATEVER THE INPUT: true; the input reads as it did. -/
def sturmCountsSpec : ChangeSpec := { name := "sturmCounts", fn := fun _ => fun
  | [d1, d2, d3] => { results := [.lit (.bool true)], args := [d1, d2, d3] }
  | _ => none }
def sturmCountsRow : OpenClaim := { program := "ytjadajceekjeoaagreatdoor", sum := "28c466a63e351291b36417c0c906e901b3f229ae441f45d5e37ba651ee81bf89", func := "linkwork/linkworklaw06.SturmCounts", spec := "sturmCounts", inPlace := ["internal/abi.NoEscape", "internal/bytealg.MakeNoZero"], recurses := true, named := ["internal/strconv.uint64pow10", "math/bits.deBruijn32tab", "math/bits.deBruijn64tab"], apart := false, laid := [("math/bits.deBruijn32tab", laid_math_bits_deBruijn32tab), ("math/bits.deBruijn64tab", laid_math_bits_deBruijn64tab), ("internal/strconv.uint64pow10", laid_internal_strconv_uint64pow10)] }
def SturmCountsSaid : Prop := sturmCountsRow.holds Tryz.pinned (OpenSpec.ofChange sturmCountsSpec)

/-- ITS FALSE NEIGHBOUR: 'it returns false'. Refute it at one input. -/
def sturmCountsWrong : ChangeSpec := { name := "sturmCounts", fn := fun _ => fun
  | [d1, d2, d3] => { results := [.lit (.bool false)], args := [d1, d2, d3] }
  | _ => none }
def SturmCountsWrongFalsely : Prop := sturmCountsRow.holds Tryz.pinned (OpenSpec.ofChange sturmCountsWrong)

/-- 'linkworklaw06.SturmRefines': WHATEVER THE INPUT: true; the input reads as it did. -/
def sturmRefinesSpec : ChangeSpec := { name := "sturmRefines", fn := fun _ => fun
  | [d1, d2, d3] => { results := [.lit (.bool true)], args := [d1, d2, d3] }
  | _ => none }
def sturmRefinesRow : OpenClaim := { program := "ytjadajceekjeoaagreatdoor", sum := "28c466a63e351291b36417c0c906e901b3f229ae441f45d5e37ba651ee81bf89", func := "linkwork/linkworklaw06.SturmRefines", spec := "sturmRefines", inPlace := ["internal/abi.NoEscape", "internal/bytealg.MakeNoZero"], recurses := true, named := ["internal/strconv.uint64pow10", "math/bits.deBruijn32tab", "math/bits.deBruijn64tab"], apart := false, laid := [("math/bits.deBruijn32tab", laid_math_bits_deBruijn32tab), ("math/bits.deBruijn64tab", laid_math_bits_deBruijn64tab), ("internal/strconv.uint64pow10", laid_internal_strconv_uint64pow10)] }
def SturmRefinesSaid : Prop := sturmRefinesRow.holds Tryz.pinned (OpenSpec.ofChange sturmRefinesSpec)

/-- ITS FALSE NEIGHBOUR: 'it returns false'. Refute it at one input. -/
def sturmRefinesWrong : ChangeSpec := { name := "sturmRefines", fn := fun _ => fun
  | [d1, d2, d3] => { results := [.lit (.bool false)], args := [d1, d2, d3] }
  | _ => none }
def SturmRefinesWrongFalsely : Prop := sturmRefinesRow.holds Tryz.pinned (OpenSpec.ofChange sturmRefinesWrong)

/-- 'linkworklaw06.SturmAdds': WHATEVER THE INPUT: true; the input reads as it did. -/
def sturmAddsSpec : ChangeSpec := { name := "sturmAdds", fn := fun _ => fun
  | [d1, d2] => { results := [.lit (.bool true)], args := [d1, d2] }
  | _ => none }
def sturmAddsRow : OpenClaim := { program := "ytjadajceekjeoaagreatdoor", sum := "28c466a63e351291b36417c0c906e901b3f229ae441f45d5e37ba651ee81bf89", func := "linkwork/linkworklaw06.SturmAdds", spec := "sturmAdds", inPlace := ["internal/abi.NoEscape", "internal/bytealg.MakeNoZero"], recurses := true, named := ["internal/strconv.uint64pow10", "math/bits.deBruijn32tab", "math/bits.deBruijn64tab"], apart := false, laid := [("math/bits.deBruijn32tab", laid_math_bits_deBruijn32tab), ("math/bits.deBruijn64tab", laid_math_bits_deBruijn64tab), ("internal/strconv.uint64pow10", laid_internal_strconv_uint64pow10)] }
def SturmAddsSaid : Prop := sturmAddsRow.holds Tryz.pinned (OpenSpec.ofChange sturmAddsSpec)

/-- ITS FALSE NEIGHBOUR: 'it returns false'. Refute it at one input. -/
def sturmAddsWrong : ChangeSpec := { name := "sturmAdds", fn := fun _ => fun
  | [d1, d2] => { results := [.lit (.bool false)], args := [d1, d2] }
  | _ => none }
def SturmAddsWrongFalsely : Prop := sturmAddsRow.holds Tryz.pinned (OpenSpec.ofChange sturmAddsWrong)

/-- 'linkworklaw06.SturmParity': WHATEVER THE INPUT: true; the input reads as it did. -/
def sturmParitySpec : ChangeSpec := { name := "sturmParity", fn := fun _ => fun
  | [d] => { results := [.lit (.bool true)], args := [d] }
  | _ => none }
def sturmParityRow : OpenClaim := { program := "ytjadajceekjeoaagreatdoor", sum := "28c466a63e351291b36417c0c906e901b3f229ae441f45d5e37ba651ee81bf89", func := "linkwork/linkworklaw06.SturmParity", spec := "sturmParity", inPlace := ["internal/abi.NoEscape", "internal/bytealg.MakeNoZero"], recurses := true, named := ["internal/strconv.uint64pow10", "math/bits.deBruijn32tab", "math/bits.deBruijn64tab"], apart := false, laid := [("math/bits.deBruijn32tab", laid_math_bits_deBruijn32tab), ("math/bits.deBruijn64tab", laid_math_bits_deBruijn64tab), ("internal/strconv.uint64pow10", laid_internal_strconv_uint64pow10)] }
def SturmParitySaid : Prop := sturmParityRow.holds Tryz.pinned (OpenSpec.ofChange sturmParitySpec)

/-- ITS FALSE NEIGHBOUR: 'it returns false'. Refute it at one input. -/
def sturmParityWrong : ChangeSpec := { name := "sturmParity", fn := fun _ => fun
  | [d] => { results := [.lit (.bool false)], args := [d] }
  | _ => none }
def SturmParityWrongFalsely : Prop := sturmParityRow.holds Tryz.pinned (OpenSpec.ofChange sturmParityWrong)

/-- 'linkworklaw06.SturmIsolates': WHATEVER THE INPUT: true; the input reads as it did. -/
def sturmIsolatesSpec : ChangeSpec := { name := "sturmIsolates", fn := fun _ => fun
  | [d1, d2] => { results := [.lit (.bool true)], args := [d1, d2] }
  | _ => none }
def sturmIsolatesRow : OpenClaim := { program := "ytjadajceekjeoaagreatdoor", sum := "28c466a63e351291b36417c0c906e901b3f229ae441f45d5e37ba651ee81bf89", func := "linkwork/linkworklaw06.SturmIsolates", spec := "sturmIsolates", inPlace := ["internal/abi.NoEscape", "internal/bytealg.MakeNoZero"], recurses := true, named := ["internal/strconv.uint64pow10", "math/bits.deBruijn32tab", "math/bits.deBruijn64tab"], apart := false, laid := [("math/bits.deBruijn32tab", laid_math_bits_deBruijn32tab), ("math/bits.deBruijn64tab", laid_math_bits_deBruijn64tab), ("internal/strconv.uint64pow10", laid_internal_strconv_uint64pow10)] }
def SturmIsolatesSaid : Prop := sturmIsolatesRow.holds Tryz.pinned (OpenSpec.ofChange sturmIsolatesSpec)

/-- ITS FALSE NEIGHBOUR: 'it returns false'. Refute it at one input. -/
def sturmIsolatesWrong : ChangeSpec := { name := "sturmIsolates", fn := fun _ => fun
  | [d1, d2] => { results := [.lit (.bool false)], args := [d1, d2] }
  | _ => none }
def SturmIsolatesWrongFalsely : Prop := sturmIsolatesRow.holds Tryz.pinned (OpenSpec.ofChange sturmIsolatesWrong)

/-- 'linkworklaw06.SturmApart': WHATEVER THE INPUT: true; the input reads as it did. -/
def sturmApartSpec : ChangeSpec := { name := "sturmApart", fn := fun _ => fun
  | [d1, d2] => { results := [.lit (.bool true)], args := [d1, d2] }
  | _ => none }
def sturmApartRow : OpenClaim := { program := "ytjadajceekjeoaagreatdoor", sum := "28c466a63e351291b36417c0c906e901b3f229ae441f45d5e37ba651ee81bf89", func := "linkwork/linkworklaw06.SturmApart", spec := "sturmApart", inPlace := ["internal/abi.NoEscape", "internal/bytealg.MakeNoZero"], recurses := true, named := ["internal/strconv.uint64pow10", "math/bits.deBruijn32tab", "math/bits.deBruijn64tab"], apart := false, laid := [("math/bits.deBruijn32tab", laid_math_bits_deBruijn32tab), ("math/bits.deBruijn64tab", laid_math_bits_deBruijn64tab), ("internal/strconv.uint64pow10", laid_internal_strconv_uint64pow10)] }
def SturmApartSaid : Prop := sturmApartRow.holds Tryz.pinned (OpenSpec.ofChange sturmApartSpec)

/-- ITS FALSE NEIGHBOUR: 'it returns false'. Refute it at one input. -/
def sturmApartWrong : ChangeSpec := { name := "sturmApart", fn := fun _ => fun
  | [d1, d2] => { results := [.lit (.bool false)], args := [d1, d2] }
  | _ => none }
def SturmApartWrongFalsely : Prop := sturmApartRow.holds Tryz.pinned (OpenSpec.ofChange sturmApartWrong)

/-- 'linkworklaw06.SturmRoots': WHATEVER THE INPUT: true; the input reads as it did. -/
def sturmRootsSpec : ChangeSpec := { name := "sturmRoots", fn := fun _ => fun
  | [d1, d2] => { results := [.lit (.bool true)], args := [d1, d2] }
  | _ => none }
def sturmRootsRow : OpenClaim := { program := "ytjadajceekjeoaagreatdoor", sum := "28c466a63e351291b36417c0c906e901b3f229ae441f45d5e37ba651ee81bf89", func := "linkwork/linkworklaw06.SturmRoots", spec := "sturmRoots", inPlace := ["internal/abi.NoEscape", "internal/bytealg.MakeNoZero"], recurses := true, named := ["internal/strconv.uint64pow10", "math/bits.deBruijn32tab", "math/bits.deBruijn64tab"], apart := false, laid := [("math/bits.deBruijn32tab", laid_math_bits_deBruijn32tab), ("math/bits.deBruijn64tab", laid_math_bits_deBruijn64tab), ("internal/strconv.uint64pow10", laid_internal_strconv_uint64pow10)] }
def SturmRootsSaid : Prop := sturmRootsRow.holds Tryz.pinned (OpenSpec.ofChange sturmRootsSpec)

/-- ITS FALSE NEIGHBOUR: 'it returns false'. Refute it at one input. -/
def sturmRootsWrong : ChangeSpec := { name := "sturmRoots", fn := fun _ => fun
  | [d1, d2] => { results := [.lit (.bool false)], args := [d1, d2] }
  | _ => none }
def SturmRootsWrongFalsely : Prop := sturmRootsRow.holds Tryz.pinned (OpenSpec.ofChange sturmRootsWrong)

/- THE SECOND FORM. 'bulk': how many values and letters a reading holds, each counted each time it is reached (what is shared counts as often as it is met; a slice's spare places count too). A statement '..UptoSaid' is the law's where the arguments, and the package variables that the reading takes, are together of bulk at most 1048576: NARROWER than '..Said'. Prove '..Said' where nothing that the law and all that it calls make is longer than what came in: it says more and counts as full. Else prove '..UptoSaid'. A law counts once. -/
mutual
def uptoBulk {H : Type} : DataW H → Nat
  | .lit (.string bytes) => bytes.length + 1
  | .lit _ => 1
  | .nil => 1
  | .ptr d => uptoBulk d + 1
  | .slice elems spare => uptoBulkAll elems + uptoBulkAll spare + 1
  | .agg parts => uptoBulkAll parts + 1
  | .iface _ d => uptoBulk d + 1
  | .map entries => uptoBulkEntries entries + 1
  | .held _ => 1
def uptoBulkAll {H : Type} : List (DataW H) → Nat
  | [] => 0
  | d :: r => uptoBulk d + uptoBulkAll r
def uptoBulkEntries {H : Type} : List (Lit × DataW H) → Nat
  | [] => 0
  | x :: r => uptoBulkEntry x + uptoBulkEntries r
def uptoBulkEntry {H : Type} : Lit × DataW H → Nat
  | (.string bytes, d) => bytes.length + uptoBulk d + 1
  | (_, d) => uptoBulk d + 1
 end
def uptoSmall : (H : Type) → List (DataW H) → Bool := fun _ ds => decide (uptoBulkAll ds ≤ 1048576)
def OpenSpec.upto (s : _root_.Go.ChangeSpec) : _root_.Go.OpenSpec := { _root_.Go.OpenSpec.ofChange s with cond := some uptoSmall }

/-- 'linkworklaw06.SturmCounts', WHERE WHAT IT READS IS OF BULK AT MOST 1048576: true; the input reads as it did. -/
def sturmCountsUptoRow : OpenClaim := { program := "ytjadajceekjeoaagreatdoor", sum := "28c466a63e351291b36417c0c906e901b3f229ae441f45d5e37ba651ee81bf89", func := "linkwork/linkworklaw06.SturmCounts", spec := "sturmCounts", inPlace := ["internal/abi.NoEscape", "internal/bytealg.MakeNoZero"], recurses := true, named := ["internal/strconv.uint64pow10", "math/bits.deBruijn32tab", "math/bits.deBruijn64tab"], apart := false, laid := [("math/bits.deBruijn32tab", laid_math_bits_deBruijn32tab), ("math/bits.deBruijn64tab", laid_math_bits_deBruijn64tab), ("internal/strconv.uint64pow10", laid_internal_strconv_uint64pow10)], narrowed := true }
def SturmCountsUptoSaid : Prop := sturmCountsUptoRow.holds Tryz.pinned (OpenSpec.upto sturmCountsSpec)

/-- 'linkworklaw06.SturmRefines', WHERE WHAT IT READS IS OF BULK AT MOST 1048576: true; the input reads as it did. -/
def sturmRefinesUptoRow : OpenClaim := { program := "ytjadajceekjeoaagreatdoor", sum := "28c466a63e351291b36417c0c906e901b3f229ae441f45d5e37ba651ee81bf89", func := "linkwork/linkworklaw06.SturmRefines", spec := "sturmRefines", inPlace := ["internal/abi.NoEscape", "internal/bytealg.MakeNoZero"], recurses := true, named := ["internal/strconv.uint64pow10", "math/bits.deBruijn32tab", "math/bits.deBruijn64tab"], apart := false, laid := [("math/bits.deBruijn32tab", laid_math_bits_deBruijn32tab), ("math/bits.deBruijn64tab", laid_math_bits_deBruijn64tab), ("internal/strconv.uint64pow10", laid_internal_strconv_uint64pow10)], narrowed := true }
def SturmRefinesUptoSaid : Prop := sturmRefinesUptoRow.holds Tryz.pinned (OpenSpec.upto sturmRefinesSpec)

/-- 'linkworklaw06.SturmAdds', WHERE WHAT IT READS IS OF BULK AT MOST 1048576: true; the input reads as it did. -/
def sturmAddsUptoRow : OpenClaim := { program := "ytjadajceekjeoaagreatdoor", sum := "28c466a63e351291b36417c0c906e901b3f229ae441f45d5e37ba651ee81bf89", func := "linkwork/linkworklaw06.SturmAdds", spec := "sturmAdds", inPlace := ["internal/abi.NoEscape", "internal/bytealg.MakeNoZero"], recurses := true, named := ["internal/strconv.uint64pow10", "math/bits.deBruijn32tab", "math/bits.deBruijn64tab"], apart := false, laid := [("math/bits.deBruijn32tab", laid_math_bits_deBruijn32tab), ("math/bits.deBruijn64tab", laid_math_bits_deBruijn64tab), ("internal/strconv.uint64pow10", laid_internal_strconv_uint64pow10)], narrowed := true }
def SturmAddsUptoSaid : Prop := sturmAddsUptoRow.holds Tryz.pinned (OpenSpec.upto sturmAddsSpec)

/-- 'linkworklaw06.SturmParity', WHERE WHAT IT READS IS OF BULK AT MOST 1048576: true; the input reads as it did. -/
def sturmParityUptoRow : OpenClaim := { program := "ytjadajceekjeoaagreatdoor", sum := "28c466a63e351291b36417c0c906e901b3f229ae441f45d5e37ba651ee81bf89", func := "linkwork/linkworklaw06.SturmParity", spec := "sturmParity", inPlace := ["internal/abi.NoEscape", "internal/bytealg.MakeNoZero"], recurses := true, named := ["internal/strconv.uint64pow10", "math/bits.deBruijn32tab", "math/bits.deBruijn64tab"], apart := false, laid := [("math/bits.deBruijn32tab", laid_math_bits_deBruijn32tab), ("math/bits.deBruijn64tab", laid_math_bits_deBruijn64tab), ("internal/strconv.uint64pow10", laid_internal_strconv_uint64pow10)], narrowed := true }
def SturmParityUptoSaid : Prop := sturmParityUptoRow.holds Tryz.pinned (OpenSpec.upto sturmParitySpec)

/-- 'linkworklaw06.SturmIsolates', WHERE WHAT IT READS IS OF BULK AT MOST 1048576: true; the input reads as it did. -/
def sturmIsolatesUptoRow : OpenClaim := { program := "ytjadajceekjeoaagreatdoor", sum := "28c466a63e351291b36417c0c906e901b3f229ae441f45d5e37ba651ee81bf89", func := "linkwork/linkworklaw06.SturmIsolates", spec := "sturmIsolates", inPlace := ["internal/abi.NoEscape", "internal/bytealg.MakeNoZero"], recurses := true, named := ["internal/strconv.uint64pow10", "math/bits.deBruijn32tab", "math/bits.deBruijn64tab"], apart := false, laid := [("math/bits.deBruijn32tab", laid_math_bits_deBruijn32tab), ("math/bits.deBruijn64tab", laid_math_bits_deBruijn64tab), ("internal/strconv.uint64pow10", laid_internal_strconv_uint64pow10)], narrowed := true }
def SturmIsolatesUptoSaid : Prop := sturmIsolatesUptoRow.holds Tryz.pinned (OpenSpec.upto sturmIsolatesSpec)

/-- 'linkworklaw06.SturmApart', WHERE WHAT IT READS IS OF BULK AT MOST 1048576: true; the input reads as it did. -/
def sturmApartUptoRow : OpenClaim := { program := "ytjadajceekjeoaagreatdoor", sum := "28c466a63e351291b36417c0c906e901b3f229ae441f45d5e37ba651ee81bf89", func := "linkwork/linkworklaw06.SturmApart", spec := "sturmApart", inPlace := ["internal/abi.NoEscape", "internal/bytealg.MakeNoZero"], recurses := true, named := ["internal/strconv.uint64pow10", "math/bits.deBruijn32tab", "math/bits.deBruijn64tab"], apart := false, laid := [("math/bits.deBruijn32tab", laid_math_bits_deBruijn32tab), ("math/bits.deBruijn64tab", laid_math_bits_deBruijn64tab), ("internal/strconv.uint64pow10", laid_internal_strconv_uint64pow10)], narrowed := true }
def SturmApartUptoSaid : Prop := sturmApartUptoRow.holds Tryz.pinned (OpenSpec.upto sturmApartSpec)

/-- 'linkworklaw06.SturmRoots', WHERE WHAT IT READS IS OF BULK AT MOST 1048576: true; the input reads as it did. -/
def sturmRootsUptoRow : OpenClaim := { program := "ytjadajceekjeoaagreatdoor", sum := "28c466a63e351291b36417c0c906e901b3f229ae441f45d5e37ba651ee81bf89", func := "linkwork/linkworklaw06.SturmRoots", spec := "sturmRoots", inPlace := ["internal/abi.NoEscape", "internal/bytealg.MakeNoZero"], recurses := true, named := ["internal/strconv.uint64pow10", "math/bits.deBruijn32tab", "math/bits.deBruijn64tab"], apart := false, laid := [("math/bits.deBruijn32tab", laid_math_bits_deBruijn32tab), ("math/bits.deBruijn64tab", laid_math_bits_deBruijn64tab), ("internal/strconv.uint64pow10", laid_internal_strconv_uint64pow10)], narrowed := true }
def SturmRootsUptoSaid : Prop := sturmRootsUptoRow.holds Tryz.pinned (OpenSpec.upto sturmRootsSpec)

end Rows
end Go.Proofs.YtjadajceekjeoaaGreatDoor
