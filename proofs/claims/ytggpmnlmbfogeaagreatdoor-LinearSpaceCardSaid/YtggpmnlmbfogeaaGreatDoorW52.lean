/-
  A part of the proof that the law's function returns true and leaves its arguments as they were, for every input (no condition): own lemmas of the proof, in the order of their use.
-/
import Derived.Test.YtggpmnlmbfogeaaGreatDoorW51
set_option linter.all false
namespace Go.PE
open Go.RowKit Go.Proofs.Tryz
set_option maxRecDepth 100000
def relS (a b : Nat) (r : Rat) (st st' : List QT × Nat) : Prop := st'.1 = mulU st.1 r ∧ b * st'.2 = a * st.2
end Go.PE
