/-
  A part of the proof that the law's function returns true and leaves its arguments as they were, for every input (no condition): own lemmas of the proof, in the order of their use.
-/
import Derived.Test.YtggpmnlmbfogeaaGreatDoorW52
set_option linter.all false
namespace Go.PE
open Go.RowKit Go.Proofs.Tryz
set_option maxRecDepth 100000
variable {k : Nat}
def okM (rel kd : Int) (m : Bs) (M : Nat) : Prop :=
  (m = [] ∧ (rel = 1 ∨ rel = 2 ∨ rel = 3)) ∨ (kd = 2 ∧ (rel = 4 ∨ rel = 5) ∧ M ≠ 0 ∧ m = rs ((M : Int) : Rat) ∧ (dec M).length ≤ 1000)
def nV (rel kd : Int) (us : List QT) (q : Rat) (M : Nat) : PV := if rel ≤ 3 then nrmV rel kd us q else divV rel us q M
theorem tx_small {us : List QT} {L : Nat} (hu : okU us) (hs : ∀ u ∈ us, szQ u.2 L) (hL : L ≤ 400000) : ∀ t ∈ tx us, smallT t := by
  intro t ht
  obtain ⟨u, h, rfl⟩ := List.mem_map.1 ht
  have h1 := (hu.1 u h).1
  have h2 := (hs u h).len
  unfold nameB at h1
  simp only [Bool.and_eq_true, decide_eq_true_eq] at h1
  exact ⟨by have := h1.2.1; show u.1.length < _; omega, by show (rs u.2).length < _; omega⟩
end Go.PE
