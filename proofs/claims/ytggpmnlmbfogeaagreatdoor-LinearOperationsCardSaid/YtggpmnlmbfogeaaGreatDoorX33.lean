/-
  A part of the proof that the law's function returns true and leaves its arguments as they were, for every input (no condition): own lemmas of the proof, in the order of their use.
-/
import Derived.Test.YtggpmnlmbfogeaaGreatDoorX32
import Derived.Test.YtggpmnlmbfogeaaGreatDoorTie
import Derived.Test.YtggpmnlmbfogeaaGreatDoorCards
import Derived.SevenTiedAt
set_option linter.all false
namespace Go.Proofs.YtggpmnlmbfogeaaGreatDoor
open Go.RowKit Go.PE Go.Proofs.Tryz Go.ChangeShapes Go.WideShapes Go.ChangeAt
set_option maxRecDepth 100000
theorem andB4 {a b : Bool} (h : a = true) (h' : b = true) : (a && b) = true := by rw [h, h']; rfl
theorem kf0 : (Rows.linearOperationsRow.inPlace == Tryz.prog.inPlace 7) = true := by kernel_rfl
theorem kf1 : (Rows.linearOperationsRow.unfollowed == Tryz.prog.unfollowed 7) = true := by kernel_rfl
theorem kf2 : (Rows.linearOperationsRow.recurses == Tryz.prog.recurses 7) = true := by kernel_rfl
theorem kf3 : (Rows.linearOperationsRow.named == Tryz.prog.varsNamed 7) = true := by kernel_rfl
theorem kf4 : Tryz.prog.stopsHeard = true := by kernel_rfl
theorem kf5 : Tryz.prog.mayEnter = true := by kernel_rfl
theorem kf6 : (Rows.linearOperationsRow.lifted == Tryz.prog.liftsFinal) = true := by kernel_rfl
theorem kf7 : (Tryz.prog.make == some Rows.linearOperationsRow.make) = true := by kernel_rfl
theorem ln1 : Func.isWrapper Tryz.prog f7 false "" := by unfold Func.isWrapper; rw [if_neg (of_decide_eq_false (by kernel_rfl))]; exact ⟨rfl, rfl⟩
theorem ln2 : Tryz.prog.funcNamed "chcsolver/chcsolverlaw06.LinearOperations" = some 7 := by kernel_rfl
theorem ln3 : joinedFacts Tryz.prog 7 f7 Rows.linearOperationsSpec Rows.linearOperationsRow = true := by
 unfold joinedFacts
 repeat' (with_reducible refine andB4 ?_ ?_)
 all_goals first | with_reducible exact kf0 | with_reducible exact kf1 | with_reducible exact kf2 | with_reducible exact kf3 | with_reducible exact kf4 | with_reducible exact kf5 | with_reducible exact kf6 | with_reducible exact kf7 | kernel_rfl
theorem ln4 : f7.isInstance Tryz.prog Rows.linearOperationsRow.origin Rows.linearOperationsRow.targs := of_decide_eq_true (by kernel_rfl)
theorem linearOperations_holds : Rows.LinearOperationsSaid :=
 OpenClaim.holds_of_wide 7 f7 rfl rfl rfl rfl rfl rfl rfl ⟨rfl, rfl, rfl, rfl, rfl⟩ rfl rfl rfl rfl rfl ln2 func7 ln3 ln4 ln1
  (fun os started H enc _ => linearOperations_lifted os started H enc)
#print axioms linearOperations_holds
end Go.Proofs.YtggpmnlmbfogeaaGreatDoor
