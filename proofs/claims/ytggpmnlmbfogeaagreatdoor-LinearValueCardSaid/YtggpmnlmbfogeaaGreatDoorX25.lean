/-
  A part of the proof that the law's function returns true and leaves its arguments as they were, for every input (no condition): own lemmas of the proof, in the order of their use.
-/
import Derived.Test.YtggpmnlmbfogeaaGreatDoorX21
set_option linter.all false
namespace Go.PE
open Go.RowKit Go.Proofs.Tryz
theorem awake_T : T 20 18 [] = some (.bool true, []) := by kernel_rfl
end Go.PE
