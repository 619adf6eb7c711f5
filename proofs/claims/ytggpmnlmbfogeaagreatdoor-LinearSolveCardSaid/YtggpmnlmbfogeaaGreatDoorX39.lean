/-
  A part of the proof that the law's function returns true and leaves its arguments as they were, for every input (no condition): own lemmas of the proof, in the order of their use.
-/
import Derived.Test.YtggpmnlmbfogeaaGreatDoorX38
set_option linter.all false
namespace Go.Proofs.YtggpmnlmbfogeaaGreatDoor
open Go.RowKit Go.PE Go.Proofs.Tryz Go.ChangeShapes Go.WideShapes Go.ChangeAt
set_option maxRecDepth 100000
theorem ce1 : Rows.linearSolveRow.wfByText (OpenSpec.ofChange Rows.linearSolveSpec) = true := by kernel_rfl
theorem ce2 : Tryz.prog.mainIs = some (true, "d23a1691096a7d6865d26df5b014595bf2cf098af71d29fea244b0008f5aa0a3".toList) := by kernel_rfl
theorem ce3 : true = Tryz.prog.looks [] := by kernel_rfl
theorem ce4 : ([27, 9, 3].all fun u => !Tryz.prog.wantsStandIn u) = true := by kernel_rfl
theorem ce5 : false = Rows.linearSolveRow.goesBy Tryz.prog := by kernel_rfl
theorem linearSolve_card_holds : Rows.LinearSolveCardSaid :=
 Claim7.holds_tied_plain_at .later [] [.data, .data, .data, .sentinel, .sentinel] true (true, "d23a1691096a7d6865d26df5b014595bf2cf098af71d29fea244b0008f5aa0a3") true
  linearSolve_holds (fun _ h => by cases h) ce1 (fun _ h => by cases h) linearSolve_row_tie rfl ⟨rfl, rfl⟩ ce2 rfl
  (fun f fn hf hfn => by
   obtain rfl : f = 8 := (Option.some.inj (ln2.symm.trans hf)).symm
   obtain rfl : fn = f8 := (Option.some.inj (func8.symm.trans hfn)).symm
   exact ⟨ce3, fun j t ht => by
    rw [params8] at ht
    have hm : t ∈ [27, 9, 3] := by simpa using Array.mem_of_getElem? ht
    exact (show Tryz.prog.wantsStandIn t = false by simpa using List.all_eq_true.1 ce4 t hm)⟩)
  ce5
#print axioms linearSolve_card_holds
end Go.Proofs.YtggpmnlmbfogeaaGreatDoor
