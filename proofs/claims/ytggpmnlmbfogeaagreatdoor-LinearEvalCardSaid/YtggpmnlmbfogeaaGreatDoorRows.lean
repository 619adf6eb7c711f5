/-
  NARROWER THAN 'FOR EVERY INPUT', by the rows' own cells (each row's printed sentence says how): LinearValid: laid · LinearNormal: laid · LinearScaled: laid · LinearSpace: laid · LinearOperations: laid · LinearSolve: laid · LinearEval: laid · LinearNormalMeaning: laid · LinearNegate: laid · LinearValue: laid · LinearOf: laid · LinearTerm: laid · LinearAtom: laid · LinearFormula: laid.
  DERIVED. THE GIVEN ROWS OF THIS SEAT. 14 by the template 'for every input the law returns true; each argument reads behind the call as it read before'; 0 by the template 'total and deterministic' (their statements: YtggpmnlmbfogeaaGreatDoorTotals.lean).
  GIVEN WITH THE SEED: the statements are not yours to turn. If you find one false, say at which input.
  Laid BY PROGRAM, IN A SANDBOX (cutbox-rows.mjs): the forced cells as the released guide's own fill.sh prints them over the translation 8eb22ca433717683… (all of the seat's roots in one cut). By AI agents, Wed Nov 11 2026. No macro, syntax, notation, axiom, sorry.
-/
import Derived.Test.YtggpmnlmbfogeaaGreatDoorChecked
import GoSem.Claim
import GoSem.ClaimJoined
import GoSem.ClaimMapViews
import Derived.JoinedTies
import Derived.KernelRfl
namespace Go.Proofs.YtggpmnlmbfogeaaGreatDoor
/- THE CELL 'sum', in the pinned program and in every row, IS THE sha256 OF THE DUMP (.gsa) THAT YtggpmnlmbfogeaaGreatDoorProg.lean LOADS. Nothing in Lean hashes anything: it is a label: what it is worth is what the hold of that sum in a sandbox is worth. -/
noncomputable def Tryz.pinned : Pinned := { name := "ytggpmnlmbfogeaagreatdoor", sum := "8eb22ca4337176835079fa8d3b0ef9e8da366639c0cf52aa5df30f5f43928ce9", checked := Tryz.checked }
namespace Rows
def none {H : Type} : Left H := { results := [], args := [] }

/- WHAT THE LISTED PACKAGE-LEVEL VARIABLES READ AS WHEN THE CALL BEGINS. Each datum BY PROGRAM (the guide's laid-datum.mjs) off the statement by which the dump's own 'gosem.cut.vars' lays the variable. In a bare row this is a premise. The card (YtggpmnlmbfogeaaGreatDoorCards.lean) ties it to the program's text. -/
def laid_math_bits_deBruijn32tab {H : Type} : DataW H := .agg [.lit (.int .u8 0), .lit (.int .u8 1), .lit (.int .u8 28), .lit (.int .u8 2), .lit (.int .u8 29), .lit (.int .u8 14), .lit (.int .u8 24), .lit (.int .u8 3), .lit (.int .u8 30), .lit (.int .u8 22), .lit (.int .u8 20), .lit (.int .u8 15), .lit (.int .u8 25), .lit (.int .u8 17), .lit (.int .u8 4), .lit (.int .u8 8), .lit (.int .u8 31), .lit (.int .u8 27), .lit (.int .u8 13), .lit (.int .u8 23), .lit (.int .u8 21), .lit (.int .u8 19), .lit (.int .u8 16), .lit (.int .u8 7), .lit (.int .u8 26), .lit (.int .u8 12), .lit (.int .u8 18), .lit (.int .u8 6), .lit (.int .u8 11), .lit (.int .u8 5), .lit (.int .u8 10), .lit (.int .u8 9)]
def laid_math_bits_deBruijn64tab {H : Type} : DataW H := .agg [.lit (.int .u8 0), .lit (.int .u8 1), .lit (.int .u8 56), .lit (.int .u8 2), .lit (.int .u8 57), .lit (.int .u8 49), .lit (.int .u8 28), .lit (.int .u8 3), .lit (.int .u8 61), .lit (.int .u8 58), .lit (.int .u8 42), .lit (.int .u8 50), .lit (.int .u8 38), .lit (.int .u8 29), .lit (.int .u8 17), .lit (.int .u8 4), .lit (.int .u8 62), .lit (.int .u8 47), .lit (.int .u8 59), .lit (.int .u8 36), .lit (.int .u8 45), .lit (.int .u8 43), .lit (.int .u8 51), .lit (.int .u8 22), .lit (.int .u8 53), .lit (.int .u8 39), .lit (.int .u8 33), .lit (.int .u8 30), .lit (.int .u8 24), .lit (.int .u8 18), .lit (.int .u8 12), .lit (.int .u8 5), .lit (.int .u8 63), .lit (.int .u8 55), .lit (.int .u8 48), .lit (.int .u8 27), .lit (.int .u8 60), .lit (.int .u8 41), .lit (.int .u8 37), .lit (.int .u8 16), .lit (.int .u8 46), .lit (.int .u8 35), .lit (.int .u8 44), .lit (.int .u8 21), .lit (.int .u8 52), .lit (.int .u8 32), .lit (.int .u8 23), .lit (.int .u8 11), .lit (.int .u8 54), .lit (.int .u8 26), .lit (.int .u8 40), .lit (.int .u8 15), .lit (.int .u8 34), .lit (.int .u8 20), .lit (.int .u8 31), .lit (.int .u8 10), .lit (.int .u8 25), .lit (.int .u8 14), .lit (.int .u8 19), .lit (.int .u8 9), .lit (.int .u8 13), .lit (.int .u8 8), .lit (.int .u8 7), .lit (.int .u8 6)]
def laid_internal_strconv_uint64pow10 {H : Type} : DataW H := .agg [.lit (.int .u64 1), .lit (.int .u64 10), .lit (.int .u64 100), .lit (.int .u64 1000), .lit (.int .u64 10000), .lit (.int .u64 100000), .lit (.int .u64 1000000), .lit (.int .u64 10000000), .lit (.int .u64 100000000), .lit (.int .u64 1000000000), .lit (.int .u64 10000000000), .lit (.int .u64 100000000000), .lit (.int .u64 1000000000000), .lit (.int .u64 10000000000000), .lit (.int .u64 100000000000000), .lit (.int .u64 1000000000000000), .lit (.int .u64 10000000000000000), .lit (.int .u64 100000000000000000), .lit (.int .u64 1000000000000000000), .lit (.int .u64 10000000000000000000)]
def laid_strconv_ErrRange {H : Type} : DataW H := .iface "*errors.errorString" (.ptr (.agg [.lit (.string [118, 97, 108, 117, 101, 32, 111, 117, 116, 32, 111, 102, 32, 114, 97, 110, 103, 101])]))
def laid_strconv_ErrSyntax {H : Type} : DataW H := .iface "*errors.errorString" (.ptr (.agg [.lit (.string [105, 110, 118, 97, 108, 105, 100, 32, 115, 121, 110, 116, 97, 120])]))

/-- 'chcsolverlaw06.LinearValid': WHATEVER THE INPUT: true; the input reads as it did. -/
def linearValidSpec : ChangeSpec := { name := "linearValid", fn := fun _ => fun
  | [d1, d2, d3] => { results := [.lit (.bool true)], args := [d1, d2, d3] }
  | _ => none }
def linearValidRow : OpenClaim := { program := "ytggpmnlmbfogeaagreatdoor", sum := "8eb22ca4337176835079fa8d3b0ef9e8da366639c0cf52aa5df30f5f43928ce9", func := "chcsolver/chcsolverlaw06.LinearValid", spec := "linearValid", inPlace := ["internal/bytealg.IndexByteString", "internal/bytealg.IndexString", "internal/abi.NoEscape"], unfollowed := true, recurses := true, named := ["internal/bytealg.MaxLen", "strconv.ErrSyntax", "strconv.ErrRange", "internal/strconv.uint64pow10", "math/bits.deBruijn32tab", "math/bits.deBruijn64tab"], apart := false, laid := [("math/bits.deBruijn32tab", laid_math_bits_deBruijn32tab), ("math/bits.deBruijn64tab", laid_math_bits_deBruijn64tab), ("internal/strconv.uint64pow10", laid_internal_strconv_uint64pow10), ("strconv.ErrRange", laid_strconv_ErrRange), ("strconv.ErrSyntax", laid_strconv_ErrSyntax)] }
def LinearValidSaid : Prop := linearValidRow.holds Tryz.pinned (OpenSpec.ofChange linearValidSpec)

/-- ITS FALSE NEIGHBOUR: 'it returns false'. Refute it at one input. -/
def linearValidWrong : ChangeSpec := { name := "linearValid", fn := fun _ => fun
  | [d1, d2, d3] => { results := [.lit (.bool false)], args := [d1, d2, d3] }
  | _ => none }
def LinearValidWrongFalsely : Prop := linearValidRow.holds Tryz.pinned (OpenSpec.ofChange linearValidWrong)

/-- 'chcsolverlaw06.LinearNormal': WHATEVER THE INPUT: true; the input reads as it did. -/
def linearNormalSpec : ChangeSpec := { name := "linearNormal", fn := fun _ => fun
  | [d1, d2] => { results := [.lit (.bool true)], args := [d1, d2] }
  | _ => none }
def linearNormalRow : OpenClaim := { program := "ytggpmnlmbfogeaagreatdoor", sum := "8eb22ca4337176835079fa8d3b0ef9e8da366639c0cf52aa5df30f5f43928ce9", func := "chcsolver/chcsolverlaw06.LinearNormal", spec := "linearNormal", inPlace := ["internal/bytealg.IndexByteString", "internal/bytealg.IndexString", "internal/abi.NoEscape"], unfollowed := true, recurses := true, named := ["internal/bytealg.MaxLen", "strconv.ErrSyntax", "strconv.ErrRange", "internal/strconv.uint64pow10", "math/bits.deBruijn32tab", "math/bits.deBruijn64tab"], apart := false, laid := [("math/bits.deBruijn32tab", laid_math_bits_deBruijn32tab), ("math/bits.deBruijn64tab", laid_math_bits_deBruijn64tab), ("internal/strconv.uint64pow10", laid_internal_strconv_uint64pow10), ("strconv.ErrRange", laid_strconv_ErrRange), ("strconv.ErrSyntax", laid_strconv_ErrSyntax)] }
def LinearNormalSaid : Prop := linearNormalRow.holds Tryz.pinned (OpenSpec.ofChange linearNormalSpec)

/-- ITS FALSE NEIGHBOUR: 'it returns false'. Refute it at one input. -/
def linearNormalWrong : ChangeSpec := { name := "linearNormal", fn := fun _ => fun
  | [d1, d2] => { results := [.lit (.bool false)], args := [d1, d2] }
  | _ => none }
def LinearNormalWrongFalsely : Prop := linearNormalRow.holds Tryz.pinned (OpenSpec.ofChange linearNormalWrong)

/-- 'chcsolverlaw06.LinearScaled': WHATEVER THE INPUT: true; the input reads as it did. -/
def linearScaledSpec : ChangeSpec := { name := "linearScaled", fn := fun _ => fun
  | [d1, d2] => { results := [.lit (.bool true)], args := [d1, d2] }
  | _ => none }
def linearScaledRow : OpenClaim := { program := "ytggpmnlmbfogeaagreatdoor", sum := "8eb22ca4337176835079fa8d3b0ef9e8da366639c0cf52aa5df30f5f43928ce9", func := "chcsolver/chcsolverlaw06.LinearScaled", spec := "linearScaled", inPlace := ["internal/bytealg.IndexByteString", "internal/bytealg.IndexString", "internal/abi.NoEscape"], unfollowed := true, recurses := true, named := ["internal/bytealg.MaxLen", "strconv.ErrSyntax", "strconv.ErrRange", "internal/strconv.uint64pow10", "math/bits.deBruijn32tab", "math/bits.deBruijn64tab"], apart := false, laid := [("math/bits.deBruijn32tab", laid_math_bits_deBruijn32tab), ("math/bits.deBruijn64tab", laid_math_bits_deBruijn64tab), ("internal/strconv.uint64pow10", laid_internal_strconv_uint64pow10), ("strconv.ErrRange", laid_strconv_ErrRange), ("strconv.ErrSyntax", laid_strconv_ErrSyntax)] }
def LinearScaledSaid : Prop := linearScaledRow.holds Tryz.pinned (OpenSpec.ofChange linearScaledSpec)

/-- ITS FALSE NEIGHBOUR: 'it returns false'. Refute it at one input. -/
def linearScaledWrong : ChangeSpec := { name := "linearScaled", fn := fun _ => fun
  | [d1, d2] => { results := [.lit (.bool false)], args := [d1, d2] }
  | _ => none }
def LinearScaledWrongFalsely : Prop := linearScaledRow.holds Tryz.pinned (OpenSpec.ofChange linearScaledWrong)

/-- 'chcsolverlaw06.LinearSpace': WHATEVER THE INPUT: true; the input reads as it did. -/
def linearSpaceSpec : ChangeSpec := { name := "linearSpace", fn := fun _ => fun
  | [d1, d2, d3, d4] => { results := [.lit (.bool true)], args := [d1, d2, d3, d4] }
  | _ => none }
def linearSpaceRow : OpenClaim := { program := "ytggpmnlmbfogeaagreatdoor", sum := "8eb22ca4337176835079fa8d3b0ef9e8da366639c0cf52aa5df30f5f43928ce9", func := "chcsolver/chcsolverlaw06.LinearSpace", spec := "linearSpace", inPlace := ["internal/bytealg.IndexByteString", "internal/bytealg.IndexString", "internal/abi.NoEscape"], unfollowed := true, recurses := true, named := ["internal/bytealg.MaxLen", "strconv.ErrSyntax", "strconv.ErrRange", "internal/strconv.uint64pow10", "math/bits.deBruijn32tab", "math/bits.deBruijn64tab"], apart := false, laid := [("math/bits.deBruijn32tab", laid_math_bits_deBruijn32tab), ("math/bits.deBruijn64tab", laid_math_bits_deBruijn64tab), ("internal/strconv.uint64pow10", laid_internal_strconv_uint64pow10), ("strconv.ErrRange", laid_strconv_ErrRange), ("strconv.ErrSyntax", laid_strconv_ErrSyntax)] }
def LinearSpaceSaid : Prop := linearSpaceRow.holds Tryz.pinned (OpenSpec.ofChange linearSpaceSpec)

/-- ITS FALSE NEIGHBOUR: 'it returns false'. Refute it at one input. -/
def linearSpaceWrong : ChangeSpec := { name := "linearSpace", fn := fun _ => fun
  | [d1, d2, d3, d4] => { results := [.lit (.bool false)], args := [d1, d2, d3, d4] }
  | _ => none }
def LinearSpaceWrongFalsely : Prop := linearSpaceRow.holds Tryz.pinned (OpenSpec.ofChange linearSpaceWrong)

/-- 'chcsolverlaw06.LinearOperations': WHATEVER THE INPUT: true; the input reads as it did. -/
def linearOperationsSpec : ChangeSpec := { name := "linearOperations", fn := fun _ => fun
  | [d1, d2, d3, d4, d5, d6] => { results := [.lit (.bool true)], args := [d1, d2, d3, d4, d5, d6] }
  | _ => none }
def linearOperationsRow : OpenClaim := { program := "ytggpmnlmbfogeaagreatdoor", sum := "8eb22ca4337176835079fa8d3b0ef9e8da366639c0cf52aa5df30f5f43928ce9", func := "chcsolver/chcsolverlaw06.LinearOperations", spec := "linearOperations", inPlace := ["internal/bytealg.IndexByteString", "internal/bytealg.IndexString", "internal/abi.NoEscape"], unfollowed := true, recurses := true, named := ["internal/bytealg.MaxLen", "strconv.ErrSyntax", "strconv.ErrRange", "internal/strconv.uint64pow10", "math/bits.deBruijn32tab", "math/bits.deBruijn64tab"], apart := false, laid := [("math/bits.deBruijn32tab", laid_math_bits_deBruijn32tab), ("math/bits.deBruijn64tab", laid_math_bits_deBruijn64tab), ("internal/strconv.uint64pow10", laid_internal_strconv_uint64pow10), ("strconv.ErrRange", laid_strconv_ErrRange), ("strconv.ErrSyntax", laid_strconv_ErrSyntax)] }
def LinearOperationsSaid : Prop := linearOperationsRow.holds Tryz.pinned (OpenSpec.ofChange linearOperationsSpec)

/-- ITS FALSE NEIGHBOUR: 'it returns false'. Refute it at one input. -/
def linearOperationsWrong : ChangeSpec := { name := "linearOperations", fn := fun _ => fun
  | [d1, d2, d3, d4, d5, d6] => { results := [.lit (.bool false)], args := [d1, d2, d3, d4, d5, d6] }
  | _ => none }
def LinearOperationsWrongFalsely : Prop := linearOperationsRow.holds Tryz.pinned (OpenSpec.ofChange linearOperationsWrong)

/-- 'chcsolverlaw06.LinearSolve': WHATEVER THE INPUT: true; the input reads as it did. -/
def linearSolveSpec : ChangeSpec := { name := "linearSolve", fn := fun _ => fun
  | [d1, d2, d3] => { results := [.lit (.bool true)], args := [d1, d2, d3] }
  | _ => none }
def linearSolveRow : OpenClaim := { program := "ytggpmnlmbfogeaagreatdoor", sum := "8eb22ca4337176835079fa8d3b0ef9e8da366639c0cf52aa5df30f5f43928ce9", func := "chcsolver/chcsolverlaw06.LinearSolve", spec := "linearSolve", inPlace := ["internal/bytealg.IndexByteString", "internal/bytealg.IndexString", "internal/abi.NoEscape"], unfollowed := true, recurses := true, named := ["internal/bytealg.MaxLen", "strconv.ErrSyntax", "strconv.ErrRange", "internal/strconv.uint64pow10", "math/bits.deBruijn32tab", "math/bits.deBruijn64tab"], apart := false, laid := [("math/bits.deBruijn32tab", laid_math_bits_deBruijn32tab), ("math/bits.deBruijn64tab", laid_math_bits_deBruijn64tab), ("internal/strconv.uint64pow10", laid_internal_strconv_uint64pow10), ("strconv.ErrRange", laid_strconv_ErrRange), ("strconv.ErrSyntax", laid_strconv_ErrSyntax)] }
def LinearSolveSaid : Prop := linearSolveRow.holds Tryz.pinned (OpenSpec.ofChange linearSolveSpec)

/-- ITS FALSE NEIGHBOUR: 'it returns false'. Refute it at one input. -/
def linearSolveWrong : ChangeSpec := { name := "linearSolve", fn := fun _ => fun
  | [d1, d2, d3] => { results := [.lit (.bool false)], args := [d1, d2, d3] }
  | _ => none }
def LinearSolveWrongFalsely : Prop := linearSolveRow.holds Tryz.pinned (OpenSpec.ofChange linearSolveWrong)

/-- 'chcsolverlaw06.LinearEval': WHATEVER THE INPUT: true; the input reads as it did. -/
def linearEvalSpec : ChangeSpec := { name := "linearEval", fn := fun _ => fun
  | [d1, d2, d3, d4] => { results := [.lit (.bool true)], args := [d1, d2, d3, d4] }
  | _ => none }
def linearEvalRow : OpenClaim := { program := "ytggpmnlmbfogeaagreatdoor", sum := "8eb22ca4337176835079fa8d3b0ef9e8da366639c0cf52aa5df30f5f43928ce9", func := "chcsolver/chcsolverlaw06.LinearEval", spec := "linearEval", inPlace := ["internal/bytealg.IndexByteString", "internal/bytealg.IndexString", "internal/abi.NoEscape"], unfollowed := true, recurses := true, named := ["internal/bytealg.MaxLen", "strconv.ErrSyntax", "strconv.ErrRange", "internal/strconv.uint64pow10", "math/bits.deBruijn32tab", "math/bits.deBruijn64tab"], apart := false, laid := [("math/bits.deBruijn32tab", laid_math_bits_deBruijn32tab), ("math/bits.deBruijn64tab", laid_math_bits_deBruijn64tab), ("internal/strconv.uint64pow10", laid_internal_strconv_uint64pow10), ("strconv.ErrRange", laid_strconv_ErrRange), ("strconv.ErrSyntax", laid_strconv_ErrSyntax)] }
def LinearEvalSaid : Prop := linearEvalRow.holds Tryz.pinned (OpenSpec.ofChange linearEvalSpec)

/-- ITS FALSE NEIGHBOUR: 'it returns false'. Refute it at one input. -/
def linearEvalWrong : ChangeSpec := { name := "linearEval", fn := fun _ => fun
  | [d1, d2, d3, d4] => { results := [.lit (.bool false)], args := [d1, d2, d3, d4] }
  | _ => none }
def LinearEvalWrongFalsely : Prop := linearEvalRow.holds Tryz.pinned (OpenSpec.ofChange linearEvalWrong)

/-- 'chcsolverlaw06.LinearNormalMeaning': WHATEVER THE INPUT: true; the input reads as it did. -/
def linearNormalMeaningSpec : ChangeSpec := { name := "linearNormalMeaning", fn := fun _ => fun
  | [d1, d2] => { results := [.lit (.bool true)], args := [d1, d2] }
  | _ => none }
def linearNormalMeaningRow : OpenClaim := { program := "ytggpmnlmbfogeaagreatdoor", sum := "8eb22ca4337176835079fa8d3b0ef9e8da366639c0cf52aa5df30f5f43928ce9", func := "chcsolver/chcsolverlaw06.LinearNormalMeaning", spec := "linearNormalMeaning", inPlace := ["internal/bytealg.IndexByteString", "internal/bytealg.IndexString", "internal/abi.NoEscape"], unfollowed := true, recurses := true, named := ["internal/bytealg.MaxLen", "strconv.ErrSyntax", "strconv.ErrRange", "internal/strconv.uint64pow10", "math/bits.deBruijn32tab", "math/bits.deBruijn64tab"], apart := false, laid := [("math/bits.deBruijn32tab", laid_math_bits_deBruijn32tab), ("math/bits.deBruijn64tab", laid_math_bits_deBruijn64tab), ("internal/strconv.uint64pow10", laid_internal_strconv_uint64pow10), ("strconv.ErrRange", laid_strconv_ErrRange), ("strconv.ErrSyntax", laid_strconv_ErrSyntax)] }
def LinearNormalMeaningSaid : Prop := linearNormalMeaningRow.holds Tryz.pinned (OpenSpec.ofChange linearNormalMeaningSpec)

/-- ITS FALSE NEIGHBOUR: 'it returns false'. Refute it at one input. -/
def linearNormalMeaningWrong : ChangeSpec := { name := "linearNormalMeaning", fn := fun _ => fun
  | [d1, d2] => { results := [.lit (.bool false)], args := [d1, d2] }
  | _ => none }
def LinearNormalMeaningWrongFalsely : Prop := linearNormalMeaningRow.holds Tryz.pinned (OpenSpec.ofChange linearNormalMeaningWrong)

/-- 'chcsolverlaw06.LinearNegate': WHATEVER THE INPUT: true; the input reads as it did. -/
def linearNegateSpec : ChangeSpec := { name := "linearNegate", fn := fun _ => fun
  | [d1, d2] => { results := [.lit (.bool true)], args := [d1, d2] }
  | _ => none }
def linearNegateRow : OpenClaim := { program := "ytggpmnlmbfogeaagreatdoor", sum := "8eb22ca4337176835079fa8d3b0ef9e8da366639c0cf52aa5df30f5f43928ce9", func := "chcsolver/chcsolverlaw06.LinearNegate", spec := "linearNegate", inPlace := ["internal/bytealg.IndexByteString", "internal/bytealg.IndexString", "internal/abi.NoEscape"], unfollowed := true, recurses := true, named := ["internal/bytealg.MaxLen", "strconv.ErrSyntax", "strconv.ErrRange", "internal/strconv.uint64pow10", "math/bits.deBruijn32tab", "math/bits.deBruijn64tab"], apart := false, laid := [("math/bits.deBruijn32tab", laid_math_bits_deBruijn32tab), ("math/bits.deBruijn64tab", laid_math_bits_deBruijn64tab), ("internal/strconv.uint64pow10", laid_internal_strconv_uint64pow10), ("strconv.ErrRange", laid_strconv_ErrRange), ("strconv.ErrSyntax", laid_strconv_ErrSyntax)] }
def LinearNegateSaid : Prop := linearNegateRow.holds Tryz.pinned (OpenSpec.ofChange linearNegateSpec)

/-- ITS FALSE NEIGHBOUR: 'it returns false'. Refute it at one input. -/
def linearNegateWrong : ChangeSpec := { name := "linearNegate", fn := fun _ => fun
  | [d1, d2] => { results := [.lit (.bool false)], args := [d1, d2] }
  | _ => none }
def LinearNegateWrongFalsely : Prop := linearNegateRow.holds Tryz.pinned (OpenSpec.ofChange linearNegateWrong)

/-- 'chcsolverlaw06.LinearValue': WHATEVER THE INPUT: true; the input reads as it did. -/
def linearValueSpec : ChangeSpec := { name := "linearValue", fn := fun _ => fun
  | [d1, d2, d3, d4] => { results := [.lit (.bool true)], args := [d1, d2, d3, d4] }
  | _ => none }
def linearValueRow : OpenClaim := { program := "ytggpmnlmbfogeaagreatdoor", sum := "8eb22ca4337176835079fa8d3b0ef9e8da366639c0cf52aa5df30f5f43928ce9", func := "chcsolver/chcsolverlaw06.LinearValue", spec := "linearValue", inPlace := ["internal/bytealg.IndexByteString", "internal/bytealg.IndexString", "internal/abi.NoEscape"], unfollowed := true, recurses := true, named := ["internal/bytealg.MaxLen", "strconv.ErrSyntax", "strconv.ErrRange", "internal/strconv.uint64pow10", "math/bits.deBruijn32tab", "math/bits.deBruijn64tab"], apart := false, laid := [("math/bits.deBruijn32tab", laid_math_bits_deBruijn32tab), ("math/bits.deBruijn64tab", laid_math_bits_deBruijn64tab), ("internal/strconv.uint64pow10", laid_internal_strconv_uint64pow10), ("strconv.ErrRange", laid_strconv_ErrRange), ("strconv.ErrSyntax", laid_strconv_ErrSyntax)] }
def LinearValueSaid : Prop := linearValueRow.holds Tryz.pinned (OpenSpec.ofChange linearValueSpec)

/-- ITS FALSE NEIGHBOUR: 'it returns false'. Refute it at one input. -/
def linearValueWrong : ChangeSpec := { name := "linearValue", fn := fun _ => fun
  | [d1, d2, d3, d4] => { results := [.lit (.bool false)], args := [d1, d2, d3, d4] }
  | _ => none }
def LinearValueWrongFalsely : Prop := linearValueRow.holds Tryz.pinned (OpenSpec.ofChange linearValueWrong)

/-- 'chcsolverlaw06.LinearOf': WHATEVER THE INPUT: true; the input reads as it did. -/
def linearOfSpec : ChangeSpec := { name := "linearOf", fn := fun _ => fun
  | [d1, d2] => { results := [.lit (.bool true)], args := [d1, d2] }
  | _ => none }
def linearOfRow : OpenClaim := { program := "ytggpmnlmbfogeaagreatdoor", sum := "8eb22ca4337176835079fa8d3b0ef9e8da366639c0cf52aa5df30f5f43928ce9", func := "chcsolver/chcsolverlaw06.LinearOf", spec := "linearOf", inPlace := ["internal/bytealg.IndexByteString", "internal/bytealg.IndexString", "internal/abi.NoEscape"], unfollowed := true, recurses := true, named := ["internal/bytealg.MaxLen", "strconv.ErrSyntax", "strconv.ErrRange", "internal/strconv.uint64pow10", "math/bits.deBruijn32tab", "math/bits.deBruijn64tab"], apart := false, laid := [("math/bits.deBruijn32tab", laid_math_bits_deBruijn32tab), ("math/bits.deBruijn64tab", laid_math_bits_deBruijn64tab), ("internal/strconv.uint64pow10", laid_internal_strconv_uint64pow10), ("strconv.ErrRange", laid_strconv_ErrRange), ("strconv.ErrSyntax", laid_strconv_ErrSyntax)] }
def LinearOfSaid : Prop := linearOfRow.holds Tryz.pinned (OpenSpec.ofChange linearOfSpec)

/-- ITS FALSE NEIGHBOUR: 'it returns false'. Refute it at one input. -/
def linearOfWrong : ChangeSpec := { name := "linearOf", fn := fun _ => fun
  | [d1, d2] => { results := [.lit (.bool false)], args := [d1, d2] }
  | _ => none }
def LinearOfWrongFalsely : Prop := linearOfRow.holds Tryz.pinned (OpenSpec.ofChange linearOfWrong)

/-- 'chcsolverlaw06.LinearTerm': WHATEVER THE INPUT: true; the input reads as it did. -/
def linearTermSpec : ChangeSpec := { name := "linearTerm", fn := fun _ => fun
  | [d1, d2] => { results := [.lit (.bool true)], args := [d1, d2] }
  | _ => none }
def linearTermRow : OpenClaim := { program := "ytggpmnlmbfogeaagreatdoor", sum := "8eb22ca4337176835079fa8d3b0ef9e8da366639c0cf52aa5df30f5f43928ce9", func := "chcsolver/chcsolverlaw06.LinearTerm", spec := "linearTerm", inPlace := ["internal/bytealg.IndexByteString", "internal/bytealg.IndexString", "internal/abi.NoEscape", "slices.overlaps[chcsolver/api.Node]"], unfollowed := true, recurses := true, named := ["internal/bytealg.MaxLen", "strconv.ErrSyntax", "strconv.ErrRange", "internal/strconv.uint64pow10", "math/bits.deBruijn32tab", "math/bits.deBruijn64tab"], apart := false, laid := [("math/bits.deBruijn32tab", laid_math_bits_deBruijn32tab), ("math/bits.deBruijn64tab", laid_math_bits_deBruijn64tab), ("internal/strconv.uint64pow10", laid_internal_strconv_uint64pow10), ("strconv.ErrRange", laid_strconv_ErrRange), ("strconv.ErrSyntax", laid_strconv_ErrSyntax)] }
def LinearTermSaid : Prop := linearTermRow.holds Tryz.pinned (OpenSpec.ofChange linearTermSpec)

/-- ITS FALSE NEIGHBOUR: 'it returns false'. Refute it at one input. -/
def linearTermWrong : ChangeSpec := { name := "linearTerm", fn := fun _ => fun
  | [d1, d2] => { results := [.lit (.bool false)], args := [d1, d2] }
  | _ => none }
def LinearTermWrongFalsely : Prop := linearTermRow.holds Tryz.pinned (OpenSpec.ofChange linearTermWrong)

/-- 'chcsolverlaw06.LinearAtom': WHATEVER THE INPUT: true; the input reads as it did. -/
def linearAtomSpec : ChangeSpec := { name := "linearAtom", fn := fun _ => fun
  | [d1, d2] => { results := [.lit (.bool true)], args := [d1, d2] }
  | _ => none }
def linearAtomRow : OpenClaim := { program := "ytggpmnlmbfogeaagreatdoor", sum := "8eb22ca4337176835079fa8d3b0ef9e8da366639c0cf52aa5df30f5f43928ce9", func := "chcsolver/chcsolverlaw06.LinearAtom", spec := "linearAtom", inPlace := ["internal/bytealg.IndexByteString", "internal/bytealg.IndexString", "internal/abi.NoEscape"], unfollowed := true, recurses := true, named := ["internal/bytealg.MaxLen", "strconv.ErrSyntax", "strconv.ErrRange", "internal/strconv.uint64pow10", "math/bits.deBruijn32tab", "math/bits.deBruijn64tab"], apart := false, laid := [("math/bits.deBruijn32tab", laid_math_bits_deBruijn32tab), ("math/bits.deBruijn64tab", laid_math_bits_deBruijn64tab), ("internal/strconv.uint64pow10", laid_internal_strconv_uint64pow10), ("strconv.ErrRange", laid_strconv_ErrRange), ("strconv.ErrSyntax", laid_strconv_ErrSyntax)] }
def LinearAtomSaid : Prop := linearAtomRow.holds Tryz.pinned (OpenSpec.ofChange linearAtomSpec)

/-- ITS FALSE NEIGHBOUR: 'it returns false'. Refute it at one input. -/
def linearAtomWrong : ChangeSpec := { name := "linearAtom", fn := fun _ => fun
  | [d1, d2] => { results := [.lit (.bool false)], args := [d1, d2] }
  | _ => none }
def LinearAtomWrongFalsely : Prop := linearAtomRow.holds Tryz.pinned (OpenSpec.ofChange linearAtomWrong)

/-- 'chcsolverlaw06.LinearFormula': WHATEVER THE INPUT: true; the input reads as it did. -/
def linearFormulaSpec : ChangeSpec := { name := "linearFormula", fn := fun _ => fun
  | [d1, d2] => { results := [.lit (.bool true)], args := [d1, d2] }
  | _ => none }
def linearFormulaRow : OpenClaim := { program := "ytggpmnlmbfogeaagreatdoor", sum := "8eb22ca4337176835079fa8d3b0ef9e8da366639c0cf52aa5df30f5f43928ce9", func := "chcsolver/chcsolverlaw06.LinearFormula", spec := "linearFormula", inPlace := ["internal/bytealg.IndexByteString", "internal/bytealg.IndexString", "internal/abi.NoEscape", "slices.overlaps[chcsolver/api.Node]"], unfollowed := true, recurses := true, named := ["internal/bytealg.MaxLen", "strconv.ErrSyntax", "strconv.ErrRange", "internal/strconv.uint64pow10", "math/bits.deBruijn32tab", "math/bits.deBruijn64tab"], apart := false, laid := [("math/bits.deBruijn32tab", laid_math_bits_deBruijn32tab), ("math/bits.deBruijn64tab", laid_math_bits_deBruijn64tab), ("internal/strconv.uint64pow10", laid_internal_strconv_uint64pow10), ("strconv.ErrRange", laid_strconv_ErrRange), ("strconv.ErrSyntax", laid_strconv_ErrSyntax)] }
def LinearFormulaSaid : Prop := linearFormulaRow.holds Tryz.pinned (OpenSpec.ofChange linearFormulaSpec)

/-- ITS FALSE NEIGHBOUR: 'it returns false'. Refute it at one input. -/
def linearFormulaWrong : ChangeSpec := { name := "linearFormula", fn := fun _ => fun
  | [d1, d2] => { results := [.lit (.bool false)], args := [d1, d2] }
  | _ => none }
def LinearFormulaWrongFalsely : Prop := linearFormulaRow.holds Tryz.pinned (OpenSpec.ofChange linearFormulaWrong)

/- THE SECOND FORM. 'bulk': how many values and letters a reading holds, each counted each time it is reached (what is shared counts as often as it is met; a slice's spare places count too). A statement '..UptoSaid' is the law's where the arguments, and the package variables that the reading takes, are together of bulk at most 1048576: NARROWER than '..Said'. Prove '..Said' where nothing that the law and all that it calls make is longer than what came in: it says more and counts as full. Else prove '..UptoSaid'. A law counts once. -/
mutual
def uptoBulk {H : Type} : DataW H → Nat
  | .lit (.string bytes) => bytes.length + 1
  | .lit _ => 1
  | .nil => 1
  | .ptr d => uptoBulk d + 1
  | .slice elems spare => uptoBulkAll elems + uptoBulkAll spare + 1
  | .agg parts => uptoBulkAll parts + 1
  | .iface _ d => uptoBulk d + 1
  | .map entries => uptoBulkEntries entries + 1
  | .held _ => 1
def uptoBulkAll {H : Type} : List (DataW H) → Nat
  | [] => 0
  | d :: r => uptoBulk d + uptoBulkAll r
def uptoBulkEntries {H : Type} : List (Lit × DataW H) → Nat
  | [] => 0
  | x :: r => uptoBulkEntry x + uptoBulkEntries r
def uptoBulkEntry {H : Type} : Lit × DataW H → Nat
  | (.string bytes, d) => bytes.length + uptoBulk d + 1
  | (_, d) => uptoBulk d + 1
 end
def uptoSmall : (H : Type) → List (DataW H) → Bool := fun _ ds => decide (uptoBulkAll ds ≤ 1048576)
def OpenSpec.upto (s : _root_.Go.ChangeSpec) : _root_.Go.OpenSpec := { _root_.Go.OpenSpec.ofChange s with cond := some uptoSmall }

/-- 'chcsolverlaw06.LinearValid', WHERE WHAT IT READS IS OF BULK AT MOST 1048576: true; the input reads as it did. -/
def linearValidUptoRow : OpenClaim := { program := "ytggpmnlmbfogeaagreatdoor", sum := "8eb22ca4337176835079fa8d3b0ef9e8da366639c0cf52aa5df30f5f43928ce9", func := "chcsolver/chcsolverlaw06.LinearValid", spec := "linearValid", inPlace := ["internal/bytealg.IndexByteString", "internal/bytealg.IndexString", "internal/abi.NoEscape"], unfollowed := true, recurses := true, named := ["internal/bytealg.MaxLen", "strconv.ErrSyntax", "strconv.ErrRange", "internal/strconv.uint64pow10", "math/bits.deBruijn32tab", "math/bits.deBruijn64tab"], apart := false, laid := [("math/bits.deBruijn32tab", laid_math_bits_deBruijn32tab), ("math/bits.deBruijn64tab", laid_math_bits_deBruijn64tab), ("internal/strconv.uint64pow10", laid_internal_strconv_uint64pow10), ("strconv.ErrRange", laid_strconv_ErrRange), ("strconv.ErrSyntax", laid_strconv_ErrSyntax)], narrowed := true }
def LinearValidUptoSaid : Prop := linearValidUptoRow.holds Tryz.pinned (OpenSpec.upto linearValidSpec)

/-- 'chcsolverlaw06.LinearNormal', WHERE WHAT IT READS IS OF BULK AT MOST 1048576: true; the input reads as it did. -/
def linearNormalUptoRow : OpenClaim := { program := "ytggpmnlmbfogeaagreatdoor", sum := "8eb22ca4337176835079fa8d3b0ef9e8da366639c0cf52aa5df30f5f43928ce9", func := "chcsolver/chcsolverlaw06.LinearNormal", spec := "linearNormal", inPlace := ["internal/bytealg.IndexByteString", "internal/bytealg.IndexString", "internal/abi.NoEscape"], unfollowed := true, recurses := true, named := ["internal/bytealg.MaxLen", "strconv.ErrSyntax", "strconv.ErrRange", "internal/strconv.uint64pow10", "math/bits.deBruijn32tab", "math/bits.deBruijn64tab"], apart := false, laid := [("math/bits.deBruijn32tab", laid_math_bits_deBruijn32tab), ("math/bits.deBruijn64tab", laid_math_bits_deBruijn64tab), ("internal/strconv.uint64pow10", laid_internal_strconv_uint64pow10), ("strconv.ErrRange", laid_strconv_ErrRange), ("strconv.ErrSyntax", laid_strconv_ErrSyntax)], narrowed := true }
def LinearNormalUptoSaid : Prop := linearNormalUptoRow.holds Tryz.pinned (OpenSpec.upto linearNormalSpec)

/-- 'chcsolverlaw06.LinearScaled', WHERE WHAT IT READS IS OF BULK AT MOST 1048576: true; the input reads as it did. -/
def linearScaledUptoRow : OpenClaim := { program := "ytggpmnlmbfogeaagreatdoor", sum := "8eb22ca4337176835079fa8d3b0ef9e8da366639c0cf52aa5df30f5f43928ce9", func := "chcsolver/chcsolverlaw06.LinearScaled", spec := "linearScaled", inPlace := ["internal/bytealg.IndexByteString", "internal/bytealg.IndexString", "internal/abi.NoEscape"], unfollowed := true, recurses := true, named := ["internal/bytealg.MaxLen", "strconv.ErrSyntax", "strconv.ErrRange", "internal/strconv.uint64pow10", "math/bits.deBruijn32tab", "math/bits.deBruijn64tab"], apart := false, laid := [("math/bits.deBruijn32tab", laid_math_bits_deBruijn32tab), ("math/bits.deBruijn64tab", laid_math_bits_deBruijn64tab), ("internal/strconv.uint64pow10", laid_internal_strconv_uint64pow10), ("strconv.ErrRange", laid_strconv_ErrRange), ("strconv.ErrSyntax", laid_strconv_ErrSyntax)], narrowed := true }
def LinearScaledUptoSaid : Prop := linearScaledUptoRow.holds Tryz.pinned (OpenSpec.upto linearScaledSpec)

/-- 'chcsolverlaw06.LinearSpace', WHERE WHAT IT READS IS OF BULK AT MOST 1048576: true; the input reads as it did. -/
def linearSpaceUptoRow : OpenClaim := { program := "ytggpmnlmbfogeaagreatdoor", sum := "8eb22ca4337176835079fa8d3b0ef9e8da366639c0cf52aa5df30f5f43928ce9", func := "chcsolver/chcsolverlaw06.LinearSpace", spec := "linearSpace", inPlace := ["internal/bytealg.IndexByteString", "internal/bytealg.IndexString", "internal/abi.NoEscape"], unfollowed := true, recurses := true, named := ["internal/bytealg.MaxLen", "strconv.ErrSyntax", "strconv.ErrRange", "internal/strconv.uint64pow10", "math/bits.deBruijn32tab", "math/bits.deBruijn64tab"], apart := false, laid := [("math/bits.deBruijn32tab", laid_math_bits_deBruijn32tab), ("math/bits.deBruijn64tab", laid_math_bits_deBruijn64tab), ("internal/strconv.uint64pow10", laid_internal_strconv_uint64pow10), ("strconv.ErrRange", laid_strconv_ErrRange), ("strconv.ErrSyntax", laid_strconv_ErrSyntax)], narrowed := true }
def LinearSpaceUptoSaid : Prop := linearSpaceUptoRow.holds Tryz.pinned (OpenSpec.upto linearSpaceSpec)

/-- 'chcsolverlaw06.LinearOperations', WHERE WHAT IT READS IS OF BULK AT MOST 1048576: true; the input reads as it did. -/
def linearOperationsUptoRow : OpenClaim := { program := "ytggpmnlmbfogeaagreatdoor", sum := "8eb22ca4337176835079fa8d3b0ef9e8da366639c0cf52aa5df30f5f43928ce9", func := "chcsolver/chcsolverlaw06.LinearOperations", spec := "linearOperations", inPlace := ["internal/bytealg.IndexByteString", "internal/bytealg.IndexString", "internal/abi.NoEscape"], unfollowed := true, recurses := true, named := ["internal/bytealg.MaxLen", "strconv.ErrSyntax", "strconv.ErrRange", "internal/strconv.uint64pow10", "math/bits.deBruijn32tab", "math/bits.deBruijn64tab"], apart := false, laid := [("math/bits.deBruijn32tab", laid_math_bits_deBruijn32tab), ("math/bits.deBruijn64tab", laid_math_bits_deBruijn64tab), ("internal/strconv.uint64pow10", laid_internal_strconv_uint64pow10), ("strconv.ErrRange", laid_strconv_ErrRange), ("strconv.ErrSyntax", laid_strconv_ErrSyntax)], narrowed := true }
def LinearOperationsUptoSaid : Prop := linearOperationsUptoRow.holds Tryz.pinned (OpenSpec.upto linearOperationsSpec)

/-- 'chcsolverlaw06.LinearSolve', WHERE WHAT IT READS IS OF BULK AT MOST 1048576: true; the input reads as it did. -/
def linearSolveUptoRow : OpenClaim := { program := "ytggpmnlmbfogeaagreatdoor", sum := "8eb22ca4337176835079fa8d3b0ef9e8da366639c0cf52aa5df30f5f43928ce9", func := "chcsolver/chcsolverlaw06.LinearSolve", spec := "linearSolve", inPlace := ["internal/bytealg.IndexByteString", "internal/bytealg.IndexString", "internal/abi.NoEscape"], unfollowed := true, recurses := true, named := ["internal/bytealg.MaxLen", "strconv.ErrSyntax", "strconv.ErrRange", "internal/strconv.uint64pow10", "math/bits.deBruijn32tab", "math/bits.deBruijn64tab"], apart := false, laid := [("math/bits.deBruijn32tab", laid_math_bits_deBruijn32tab), ("math/bits.deBruijn64tab", laid_math_bits_deBruijn64tab), ("internal/strconv.uint64pow10", laid_internal_strconv_uint64pow10), ("strconv.ErrRange", laid_strconv_ErrRange), ("strconv.ErrSyntax", laid_strconv_ErrSyntax)], narrowed := true }
def LinearSolveUptoSaid : Prop := linearSolveUptoRow.holds Tryz.pinned (OpenSpec.upto linearSolveSpec)

/-- 'chcsolverlaw06.LinearEval', WHERE WHAT IT READS IS OF BULK AT MOST 1048576: true; the input reads as it did. -/
def linearEvalUptoRow : OpenClaim := { program := "ytggpmnlmbfogeaagreatdoor", sum := "8eb22ca4337176835079fa8d3b0ef9e8da366639c0cf52aa5df30f5f43928ce9", func := "chcsolver/chcsolverlaw06.LinearEval", spec := "linearEval", inPlace := ["internal/bytealg.IndexByteString", "internal/bytealg.IndexString", "internal/abi.NoEscape"], unfollowed := true, recurses := true, named := ["internal/bytealg.MaxLen", "strconv.ErrSyntax", "strconv.ErrRange", "internal/strconv.uint64pow10", "math/bits.deBruijn32tab", "math/bits.deBruijn64tab"], apart := false, laid := [("math/bits.deBruijn32tab", laid_math_bits_deBruijn32tab), ("math/bits.deBruijn64tab", laid_math_bits_deBruijn64tab), ("internal/strconv.uint64pow10", laid_internal_strconv_uint64pow10), ("strconv.ErrRange", laid_strconv_ErrRange), ("strconv.ErrSyntax", laid_strconv_ErrSyntax)], narrowed := true }
def LinearEvalUptoSaid : Prop := linearEvalUptoRow.holds Tryz.pinned (OpenSpec.upto linearEvalSpec)

/-- 'chcsolverlaw06.LinearNormalMeaning', WHERE WHAT IT READS IS OF BULK AT MOST 1048576: true; the input reads as it did. -/
def linearNormalMeaningUptoRow : OpenClaim := { program := "ytggpmnlmbfogeaagreatdoor", sum := "8eb22ca4337176835079fa8d3b0ef9e8da366639c0cf52aa5df30f5f43928ce9", func := "chcsolver/chcsolverlaw06.LinearNormalMeaning", spec := "linearNormalMeaning", inPlace := ["internal/bytealg.IndexByteString", "internal/bytealg.IndexString", "internal/abi.NoEscape"], unfollowed := true, recurses := true, named := ["internal/bytealg.MaxLen", "strconv.ErrSyntax", "strconv.ErrRange", "internal/strconv.uint64pow10", "math/bits.deBruijn32tab", "math/bits.deBruijn64tab"], apart := false, laid := [("math/bits.deBruijn32tab", laid_math_bits_deBruijn32tab), ("math/bits.deBruijn64tab", laid_math_bits_deBruijn64tab), ("internal/strconv.uint64pow10", laid_internal_strconv_uint64pow10), ("strconv.ErrRange", laid_strconv_ErrRange), ("strconv.ErrSyntax", laid_strconv_ErrSyntax)], narrowed := true }
def LinearNormalMeaningUptoSaid : Prop := linearNormalMeaningUptoRow.holds Tryz.pinned (OpenSpec.upto linearNormalMeaningSpec)

/-- 'chcsolverlaw06.LinearNegate', WHERE WHAT IT READS IS OF BULK AT MOST 1048576: true; the input reads as it did. -/
def linearNegateUptoRow : OpenClaim := { program := "ytggpmnlmbfogeaagreatdoor", sum := "8eb22ca4337176835079fa8d3b0ef9e8da366639c0cf52aa5df30f5f43928ce9", func := "chcsolver/chcsolverlaw06.LinearNegate", spec := "linearNegate", inPlace := ["internal/bytealg.IndexByteString", "internal/bytealg.IndexString", "internal/abi.NoEscape"], unfollowed := true, recurses := true, named := ["internal/bytealg.MaxLen", "strconv.ErrSyntax", "strconv.ErrRange", "internal/strconv.uint64pow10", "math/bits.deBruijn32tab", "math/bits.deBruijn64tab"], apart := false, laid := [("math/bits.deBruijn32tab", laid_math_bits_deBruijn32tab), ("math/bits.deBruijn64tab", laid_math_bits_deBruijn64tab), ("internal/strconv.uint64pow10", laid_internal_strconv_uint64pow10), ("strconv.ErrRange", laid_strconv_ErrRange), ("strconv.ErrSyntax", laid_strconv_ErrSyntax)], narrowed := true }
def LinearNegateUptoSaid : Prop := linearNegateUptoRow.holds Tryz.pinned (OpenSpec.upto linearNegateSpec)

/-- 'chcsolverlaw06.LinearValue', WHERE WHAT IT READS IS OF BULK AT MOST 1048576: true; the input reads as it did. -/
def linearValueUptoRow : OpenClaim := { program := "ytggpmnlmbfogeaagreatdoor", sum := "8eb22ca4337176835079fa8d3b0ef9e8da366639c0cf52aa5df30f5f43928ce9", func := "chcsolver/chcsolverlaw06.LinearValue", spec := "linearValue", inPlace := ["internal/bytealg.IndexByteString", "internal/bytealg.IndexString", "internal/abi.NoEscape"], unfollowed := true, recurses := true, named := ["internal/bytealg.MaxLen", "strconv.ErrSyntax", "strconv.ErrRange", "internal/strconv.uint64pow10", "math/bits.deBruijn32tab", "math/bits.deBruijn64tab"], apart := false, laid := [("math/bits.deBruijn32tab", laid_math_bits_deBruijn32tab), ("math/bits.deBruijn64tab", laid_math_bits_deBruijn64tab), ("internal/strconv.uint64pow10", laid_internal_strconv_uint64pow10), ("strconv.ErrRange", laid_strconv_ErrRange), ("strconv.ErrSyntax", laid_strconv_ErrSyntax)], narrowed := true }
def LinearValueUptoSaid : Prop := linearValueUptoRow.holds Tryz.pinned (OpenSpec.upto linearValueSpec)

/-- 'chcsolverlaw06.LinearOf', WHERE WHAT IT READS IS OF BULK AT MOST 1048576: true; the input reads as it did. -/
def linearOfUptoRow : OpenClaim := { program := "ytggpmnlmbfogeaagreatdoor", sum := "8eb22ca4337176835079fa8d3b0ef9e8da366639c0cf52aa5df30f5f43928ce9", func := "chcsolver/chcsolverlaw06.LinearOf", spec := "linearOf", inPlace := ["internal/bytealg.IndexByteString", "internal/bytealg.IndexString", "internal/abi.NoEscape"], unfollowed := true, recurses := true, named := ["internal/bytealg.MaxLen", "strconv.ErrSyntax", "strconv.ErrRange", "internal/strconv.uint64pow10", "math/bits.deBruijn32tab", "math/bits.deBruijn64tab"], apart := false, laid := [("math/bits.deBruijn32tab", laid_math_bits_deBruijn32tab), ("math/bits.deBruijn64tab", laid_math_bits_deBruijn64tab), ("internal/strconv.uint64pow10", laid_internal_strconv_uint64pow10), ("strconv.ErrRange", laid_strconv_ErrRange), ("strconv.ErrSyntax", laid_strconv_ErrSyntax)], narrowed := true }
def LinearOfUptoSaid : Prop := linearOfUptoRow.holds Tryz.pinned (OpenSpec.upto linearOfSpec)

/-- 'chcsolverlaw06.LinearTerm', WHERE WHAT IT READS IS OF BULK AT MOST 1048576: true; the input reads as it did. -/
def linearTermUptoRow : OpenClaim := { program := "ytggpmnlmbfogeaagreatdoor", sum := "8eb22ca4337176835079fa8d3b0ef9e8da366639c0cf52aa5df30f5f43928ce9", func := "chcsolver/chcsolverlaw06.LinearTerm", spec := "linearTerm", inPlace := ["internal/bytealg.IndexByteString", "internal/bytealg.IndexString", "internal/abi.NoEscape", "slices.overlaps[chcsolver/api.Node]"], unfollowed := true, recurses := true, named := ["internal/bytealg.MaxLen", "strconv.ErrSyntax", "strconv.ErrRange", "internal/strconv.uint64pow10", "math/bits.deBruijn32tab", "math/bits.deBruijn64tab"], apart := false, laid := [("math/bits.deBruijn32tab", laid_math_bits_deBruijn32tab), ("math/bits.deBruijn64tab", laid_math_bits_deBruijn64tab), ("internal/strconv.uint64pow10", laid_internal_strconv_uint64pow10), ("strconv.ErrRange", laid_strconv_ErrRange), ("strconv.ErrSyntax", laid_strconv_ErrSyntax)], narrowed := true }
def LinearTermUptoSaid : Prop := linearTermUptoRow.holds Tryz.pinned (OpenSpec.upto linearTermSpec)

/-- 'chcsolverlaw06.LinearAtom', WHERE WHAT IT READS IS OF BULK AT MOST 1048576: true; the input reads as it did. -/
def linearAtomUptoRow : OpenClaim := { program := "ytggpmnlmbfogeaagreatdoor", sum := "8eb22ca4337176835079fa8d3b0ef9e8da366639c0cf52aa5df30f5f43928ce9", func := "chcsolver/chcsolverlaw06.LinearAtom", spec := "linearAtom", inPlace := ["internal/bytealg.IndexByteString", "internal/bytealg.IndexString", "internal/abi.NoEscape"], unfollowed := true, recurses := true, named := ["internal/bytealg.MaxLen", "strconv.ErrSyntax", "strconv.ErrRange", "internal/strconv.uint64pow10", "math/bits.deBruijn32tab", "math/bits.deBruijn64tab"], apart := false, laid := [("math/bits.deBruijn32tab", laid_math_bits_deBruijn32tab), ("math/bits.deBruijn64tab", laid_math_bits_deBruijn64tab), ("internal/strconv.uint64pow10", laid_internal_strconv_uint64pow10), ("strconv.ErrRange", laid_strconv_ErrRange), ("strconv.ErrSyntax", laid_strconv_ErrSyntax)], narrowed := true }
def LinearAtomUptoSaid : Prop := linearAtomUptoRow.holds Tryz.pinned (OpenSpec.upto linearAtomSpec)

/-- 'chcsolverlaw06.LinearFormula', WHERE WHAT IT READS IS OF BULK AT MOST 1048576: true; the input reads as it did. -/
def linearFormulaUptoRow : OpenClaim := { program := "ytggpmnlmbfogeaagreatdoor", sum := "8eb22ca4337176835079fa8d3b0ef9e8da366639c0cf52aa5df30f5f43928ce9", func := "chcsolver/chcsolverlaw06.LinearFormula", spec := "linearFormula", inPlace := ["internal/bytealg.IndexByteString", "internal/bytealg.IndexString", "internal/abi.NoEscape", "slices.overlaps[chcsolver/api.Node]"], unfollowed := true, recurses := true, named := ["internal/bytealg.MaxLen", "strconv.ErrSyntax", "strconv.ErrRange", "internal/strconv.uint64pow10", "math/bits.deBruijn32tab", "math/bits.deBruijn64tab"], apart := false, laid := [("math/bits.deBruijn32tab", laid_math_bits_deBruijn32tab), ("math/bits.deBruijn64tab", laid_math_bits_deBruijn64tab), ("internal/strconv.uint64pow10", laid_internal_strconv_uint64pow10), ("strconv.ErrRange", laid_strconv_ErrRange), ("strconv.ErrSyntax", laid_strconv_ErrSyntax)], narrowed := true }
def LinearFormulaUptoSaid : Prop := linearFormulaUptoRow.holds Tryz.pinned (OpenSpec.upto linearFormulaSpec)

end Rows
end Go.Proofs.YtggpmnlmbfogeaaGreatDoor
