/-
  A part of the proof that the law's function returns true and leaves its arguments as they were, for every input (no condition): own lemmas of the proof, in the order of their use.
-/
import Derived.Test.YtkfppicmdgbfjaaGreatDoorU21
import Derived.KernelRfl
set_option linter.all false
namespace Go.PE
open Go.RowKit Go.Proofs.Tryz
set_option maxRecDepth 100000
/-! ### The sanity check, by the kernel -/
theorem awake_T : T 220 8 [] = some (.bool true, []) := by kernel_rfl
end Go.PE
