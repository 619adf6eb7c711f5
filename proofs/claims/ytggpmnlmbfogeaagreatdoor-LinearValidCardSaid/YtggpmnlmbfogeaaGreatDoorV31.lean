/-
  A part of the proof that the law's function returns true and leaves its arguments as they were, for every input (no condition): own lemmas of the proof, in the order of their use.
-/
import Derived.Test.YtggpmnlmbfogeaaGreatDoorV30
import Derived.Test.YtggpmnlmbfogeaaGreatDoorTie
import Derived.Test.YtggpmnlmbfogeaaGreatDoorCards
import Derived.SevenTiedAt
set_option linter.all false
namespace Go.Proofs.YtggpmnlmbfogeaaGreatDoor
open Go.RowKit Go.PE Go.Proofs.Tryz Go.ChangeShapes Go.WideShapes Go.ChangeAt
set_option maxRecDepth 100000
/-! ### The row, and its card -/
theorem andB {a b : Bool} (h : a = true) (h' : b = true) : (a && b) = true := by rw [h, h']; rfl
theorem jf0 : (Rows.linearValidRow.inPlace == Tryz.prog.inPlace 3) = true := by kernel_rfl
theorem jf1 : (Rows.linearValidRow.unfollowed == Tryz.prog.unfollowed 3) = true := by kernel_rfl
theorem jf2 : (Rows.linearValidRow.recurses == Tryz.prog.recurses 3) = true := by kernel_rfl
theorem jf3 : (Rows.linearValidRow.named == Tryz.prog.varsNamed 3) = true := by kernel_rfl
theorem jf4 : Tryz.prog.stopsHeard = true := by kernel_rfl
theorem jf5 : Tryz.prog.mayEnter = true := by kernel_rfl
theorem jf6 : (Rows.linearValidRow.lifted == Tryz.prog.liftsFinal) = true := by kernel_rfl
theorem jf7 : (Tryz.prog.make == some Rows.linearValidRow.make) = true := by kernel_rfl
theorem lv1 : Func.isWrapper Tryz.prog f3 false "" := by unfold Func.isWrapper; rw [if_neg (of_decide_eq_false (by kernel_rfl))]; exact ⟨rfl, rfl⟩
theorem lv2 : Tryz.prog.funcNamed "chcsolver/chcsolverlaw06.LinearValid" = some 3 := by kernel_rfl
theorem lv3 : joinedFacts Tryz.prog 3 f3 Rows.linearValidSpec Rows.linearValidRow = true := by
  unfold joinedFacts
  repeat' (with_reducible refine andB ?_ ?_)
  all_goals first | with_reducible exact jf0 | with_reducible exact jf1 | with_reducible exact jf2 | with_reducible exact jf3 | with_reducible exact jf4 | with_reducible exact jf5 | with_reducible exact jf6 | with_reducible exact jf7 | kernel_rfl
theorem lv4 : f3.isInstance Tryz.prog Rows.linearValidRow.origin Rows.linearValidRow.targs := of_decide_eq_true (by kernel_rfl)
theorem linearValid_holds : Rows.LinearValidSaid :=
  OpenClaim.holds_of_wide 3 f3 rfl rfl rfl rfl rfl rfl rfl ⟨rfl, rfl, rfl, rfl, rfl⟩ rfl rfl rfl rfl rfl lv2 func3 lv3 lv4 lv1
    (fun os started H enc _ => linearValid_lifted os started H enc)
#print axioms linearValid_holds
end Go.Proofs.YtggpmnlmbfogeaaGreatDoor
