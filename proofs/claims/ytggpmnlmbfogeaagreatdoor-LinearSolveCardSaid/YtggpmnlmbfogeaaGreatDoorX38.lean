/-
  A part of the proof that the law's function returns true and leaves its arguments as they were, for every input (no condition): own lemmas of the proof, in the order of their use.
-/
import Derived.Test.YtggpmnlmbfogeaaGreatDoorX37
import Derived.Test.YtggpmnlmbfogeaaGreatDoorTie
import Derived.Test.YtggpmnlmbfogeaaGreatDoorCards
import Derived.SevenTiedAt
set_option linter.all false
namespace Go.Proofs.YtggpmnlmbfogeaaGreatDoor
open Go.RowKit Go.PE Go.Proofs.Tryz Go.ChangeShapes Go.WideShapes Go.ChangeAt
set_option maxRecDepth 100000
theorem andB4 {a b : Bool} (h : a = true) (h' : b = true) : (a && b) = true := by rw [h, h']; rfl
theorem kf0 : (Rows.linearSolveRow.inPlace == Tryz.prog.inPlace 8) = true := by kernel_rfl
theorem kf1 : (Rows.linearSolveRow.unfollowed == Tryz.prog.unfollowed 8) = true := by kernel_rfl
theorem kf2 : (Rows.linearSolveRow.recurses == Tryz.prog.recurses 8) = true := by kernel_rfl
theorem kf3 : (Rows.linearSolveRow.named == Tryz.prog.varsNamed 8) = true := by kernel_rfl
theorem kf4 : Tryz.prog.stopsHeard = true := by kernel_rfl
theorem kf5 : Tryz.prog.mayEnter = true := by kernel_rfl
theorem kf6 : (Rows.linearSolveRow.lifted == Tryz.prog.liftsFinal) = true := by kernel_rfl
theorem kf7 : (Tryz.prog.make == some Rows.linearSolveRow.make) = true := by kernel_rfl
theorem ln1 : Func.isWrapper Tryz.prog f8 false "" := by unfold Func.isWrapper; rw [if_neg (of_decide_eq_false (by kernel_rfl))]; exact ⟨rfl, rfl⟩
theorem ln2 : Tryz.prog.funcNamed "chcsolver/chcsolverlaw06.LinearSolve" = some 8 := by kernel_rfl
theorem ln3 : joinedFacts Tryz.prog 8 f8 Rows.linearSolveSpec Rows.linearSolveRow = true := by
 unfold joinedFacts
 repeat' (with_reducible refine andB4 ?_ ?_)
 all_goals first | with_reducible exact kf0 | with_reducible exact kf1 | with_reducible exact kf2 | with_reducible exact kf3 | with_reducible exact kf4 | with_reducible exact kf5 | with_reducible exact kf6 | with_reducible exact kf7 | kernel_rfl
theorem ln4 : f8.isInstance Tryz.prog Rows.linearSolveRow.origin Rows.linearSolveRow.targs := of_decide_eq_true (by kernel_rfl)
theorem linearSolve_holds : Rows.LinearSolveSaid :=
 OpenClaim.holds_of_wide 8 f8 rfl rfl rfl rfl rfl rfl rfl ⟨rfl, rfl, rfl, rfl, rfl⟩ rfl rfl rfl rfl rfl ln2 func8 ln3 ln4 ln1
  (fun os started H enc _ => linearSolve_lifted os started H enc)
#print axioms linearSolve_holds
end Go.Proofs.YtggpmnlmbfogeaaGreatDoor
