/-
  A part of the proof that the law's function returns true and leaves its arguments as they were, for every input (no condition): own lemmas of the proof, in the order of their use.
-/
import Derived.Test.YtkfppicmdgbfjaaGreatDoorU30
set_option linter.all false
namespace Go.Proofs.YtkfppicmdgbfjaaGreatDoor
open Go.RowKit Go.PE Go.Proofs.Tryz Go.ChangeShapes Go.WideShapes Go.ChangeAt
set_option maxRecDepth 100000
/-! ### The card -/
theorem ce1 : Rows.cnfUniqueRow.wfByText (OpenSpec.ofChange Rows.cnfUniqueSpec) = true := by kernel_rfl
theorem ce2 : Tryz.prog.mainIs = some (true, "2569583c4397046c39fee8a03f4b472b971131006bf5554d4d0f1ede964648a5".toList) := by kernel_rfl
theorem ce3 : true = Tryz.prog.looks [] := by kernel_rfl
theorem ce4 : ([32, 23].all fun u => !Tryz.prog.wantsStandIn u) = true := by kernel_rfl
theorem ce5 : false = Rows.cnfUniqueRow.goesBy Tryz.prog := by kernel_rfl
theorem cnfUnique_card_holds : Rows.CnfUniqueCardSaid :=
  Claim7.holds_tied_plain_at .later [] [.data, .data, .data, .sentinel, .sentinel] true (true, "2569583c4397046c39fee8a03f4b472b971131006bf5554d4d0f1ede964648a5") true
    cnfUnique_holds (fun _ h => by cases h) ce1 (fun _ h => by cases h) cnfUnique_row_tie rfl ⟨rfl, rfl⟩ ce2 rfl
    (fun f fn hf hfn => by
      obtain rfl : f = 5 := (Option.some.inj (ln2.symm.trans hf)).symm
      obtain rfl : fn = f5 := (Option.some.inj (func5.symm.trans hfn)).symm
      exact ⟨ce3, fun j t ht => by
        rw [params5] at ht
        have hm : t ∈ [32, 23] := by simpa using Array.mem_of_getElem? ht
        exact (show Tryz.prog.wantsStandIn t = false by simpa using List.all_eq_true.1 ce4 t hm)⟩)
    ce5
#print axioms cnfUnique_card_holds
end Go.Proofs.YtkfppicmdgbfjaaGreatDoor
