/-
  A part of the proof that the law's function returns true and leaves its arguments as they were, for every input (no condition): own lemmas of the proof, in the order of their use.
-/
import Derived.Test.YtggpmnlmbfogeaaGreatDoorW21
set_option linter.all false
namespace Go.PE
open Go.RowKit Go.Proofs Go.Proofs.Tryz Go.ChangeShapes Go.WideShapes Go.ChangeAt
set_option maxRecDepth 100000
theorem imm_len {w : World} {Fz : Nat → Prop} {A : Option Addr} {n c sz : Nat} {xs : List (List PV)} (h : Rep w Fz (.slice A n c) (.imm sz xs) []) : xs.length = n := by
  cases h with
  | plain h => cases h with
    | imm _ _ _ _ _ _ hn => exact hn
theorem slice_wt {H : Type} {enc : TypeId × Value → H} {P : Program} {w : World} {base : Nat} {spare : Nat → Bool} {held : Bool} {t e : TypeId} {A : Option Addr} {n c : Nat} {d : DataW H} {ps : List MemPlace} (ht : P.underlying t = some (.slice e))
    (hd : DataW.Trod enc P w base spare held t (.slice A n c) d ps) (hwt : (d.weights P t).all (· ≤ reachBytes) = true) : n * P.bytesOf e ≤ reachBytes := by
  obtain ⟨fuel, hd⟩ := hd
  rcases DataW.trod_slice ht hd with ⟨h1, h2⟩ | ⟨a, n', c', elems, rest, m, rfl, h1, h2, _, _, _, hlen, _⟩
  · have e1 : [Value.slice A n c] = [.slice none 0 0] := h1
    simp only [List.cons.injEq, Value.slice.injEq, and_true] at e1
    rw [e1.2.1, Nat.zero_mul]
    exact Nat.zero_le _
  · have e1 : [Value.slice A n c] = [.slice (some a) n' c'] := h1
    simp only [List.cons.injEq, Value.slice.injEq, and_true] at e1
    have e2 : d = .slice (elems.map (·.1)) (rest.map (·.1)) := congrArg Prod.fst h2
    subst e2
    simp only [DataW.weights, ht, List.all_cons, Bool.and_eq_true, decide_eq_true_eq, List.length_map] at hwt
    have := Nat.mul_le_mul_right (P.bytesOf e) (show n ≤ elems.length + rest.length by omega)
    omega
theorem bytes3 : prog.bytesOf 3 = 8 := by kernel_rfl
end Go.PE
