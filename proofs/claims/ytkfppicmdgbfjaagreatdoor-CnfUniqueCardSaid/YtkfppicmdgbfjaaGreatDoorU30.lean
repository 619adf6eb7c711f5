/-
  A part of the proof that the law's function returns true and leaves its arguments as they were, for every input (no condition): own lemmas of the proof, in the order of their use.
-/
import Derived.Test.YtkfppicmdgbfjaaGreatDoorU29
import Derived.Test.YtkfppicmdgbfjaaGreatDoorTie
import Derived.Test.YtkfppicmdgbfjaaGreatDoorCards
import Derived.SevenTiedAt
set_option linter.all false
namespace Go.Proofs.YtkfppicmdgbfjaaGreatDoor
open Go.RowKit Go.PE Go.Proofs.Tryz Go.ChangeShapes Go.WideShapes Go.ChangeAt
set_option maxRecDepth 100000
/-! ### The row, and its card -/
theorem andB4 {a b : Bool} (h : a = true) (h' : b = true) : (a && b) = true := by rw [h, h']; rfl
theorem kf0 : (Rows.cnfUniqueRow.inPlace == Tryz.prog.inPlace 5) = true := by kernel_rfl
theorem kf1 : (Rows.cnfUniqueRow.unfollowed == Tryz.prog.unfollowed 5) = true := by kernel_rfl
theorem kf2 : (Rows.cnfUniqueRow.recurses == Tryz.prog.recurses 5) = true := by kernel_rfl
theorem kf3 : (Rows.cnfUniqueRow.named == Tryz.prog.varsNamed 5) = true := by kernel_rfl
theorem kf4 : Tryz.prog.stopsHeard = true := by kernel_rfl
theorem kf5 : Tryz.prog.mayEnter = true := by kernel_rfl
theorem kf6 : (Rows.cnfUniqueRow.lifted == Tryz.prog.liftsFinal) = true := by kernel_rfl
theorem kf7 : (Tryz.prog.make == some Rows.cnfUniqueRow.make) = true := by kernel_rfl
theorem ln1 : Func.isWrapper Tryz.prog f5 false "" := by unfold Func.isWrapper; rw [if_neg (of_decide_eq_false (by kernel_rfl))]; exact ⟨rfl, rfl⟩
theorem ln2 : Tryz.prog.funcNamed "chcsolver/chcsolverlaw24.CnfUnique" = some 5 := by kernel_rfl
theorem ln3 : joinedFacts Tryz.prog 5 f5 Rows.cnfUniqueSpec Rows.cnfUniqueRow = true := by
  unfold joinedFacts
  repeat' (with_reducible refine andB4 ?_ ?_)
  all_goals first | with_reducible exact kf0 | with_reducible exact kf1 | with_reducible exact kf2 | with_reducible exact kf3 | with_reducible exact kf4 | with_reducible exact kf5 | with_reducible exact kf6 | with_reducible exact kf7 | kernel_rfl
theorem ln4 : f5.isInstance Tryz.prog Rows.cnfUniqueRow.origin Rows.cnfUniqueRow.targs := of_decide_eq_true (by kernel_rfl)
theorem cnfUnique_holds : Rows.CnfUniqueSaid :=
  OpenClaim.holds_of_wide 5 f5 rfl rfl rfl rfl rfl rfl rfl ⟨rfl, rfl, rfl, rfl, rfl⟩ rfl rfl rfl rfl rfl ln2 func5 ln3 ln4 ln1
    (fun os started H enc _ => cnfUnique_lifted os started H enc)
#print axioms cnfUnique_holds
end Go.Proofs.YtkfppicmdgbfjaaGreatDoor
