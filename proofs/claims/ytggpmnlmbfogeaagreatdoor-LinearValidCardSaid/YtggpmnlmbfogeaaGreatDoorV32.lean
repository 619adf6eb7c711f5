/-
  A part of the proof that the law's function returns true and leaves its arguments as they were, for every input (no condition): own lemmas of the proof, in the order of their use.
-/
import Derived.Test.YtggpmnlmbfogeaaGreatDoorV31
set_option linter.all false
namespace Go.Proofs.YtggpmnlmbfogeaaGreatDoor
open Go.RowKit Go.PE Go.Proofs.Tryz Go.ChangeShapes Go.WideShapes Go.ChangeAt
set_option maxRecDepth 100000
/-! ### The card -/
theorem cd1 : Rows.linearValidRow.wfByText (OpenSpec.ofChange Rows.linearValidSpec) = true := by kernel_rfl
theorem cd2 : Tryz.prog.mainIs = some (true, "d23a1691096a7d6865d26df5b014595bf2cf098af71d29fea244b0008f5aa0a3".toList) := by kernel_rfl
theorem cd3 : true = Tryz.prog.looks [] := by kernel_rfl
theorem cd4 : ([24, 26, 27].all fun u => !Tryz.prog.wantsStandIn u) = true := by kernel_rfl
theorem cd5 : false = Rows.linearValidRow.goesBy Tryz.prog := by kernel_rfl
theorem linearValid_card_holds : Rows.LinearValidCardSaid :=
  Claim7.holds_tied_plain_at .later [] [.data, .data, .data, .sentinel, .sentinel] true (true, "d23a1691096a7d6865d26df5b014595bf2cf098af71d29fea244b0008f5aa0a3") true
    linearValid_holds (fun _ h => by cases h) cd1 (fun _ h => by cases h) linearValid_row_tie rfl ⟨rfl, rfl⟩ cd2 rfl
    (fun f fn hf hfn => by
      obtain rfl : f = 3 := (Option.some.inj (lv2.symm.trans hf)).symm
      obtain rfl : fn = f3 := (Option.some.inj (func3.symm.trans hfn)).symm
      exact ⟨cd3, fun j t ht => by
        rw [params3] at ht
        have hm : t ∈ [24, 26, 27] := by simpa using Array.mem_of_getElem? ht
        exact (show Tryz.prog.wantsStandIn t = false by simpa using List.all_eq_true.1 cd4 t hm)⟩)
    cd5
#print axioms linearValid_card_holds
end Go.Proofs.YtggpmnlmbfogeaaGreatDoor
