/-
  A part of the proof that the law's function returns true and leaves its arguments as they were, for every input (no condition): own lemmas of the proof, in the order of their use.
-/
import Derived.Test.YtggpmnlmbfogeaaGreatDoorX18
import Derived.Test.YtggpmnlmbfogeaaGreatDoorX19
set_option linter.all false
namespace Go.PE
open Go.RowKit Go.Proofs Go.Proofs.Tryz
theorem X334_meets : Meets prog 334 indexByteF := indexByte_meets rfl func334 (by decide) rfl rfl (by kernel_rfl)
theorem Xc_meets (f : FuncId) : Meets prog f (Xc f) := by
 have key : ∀ (n : Nat) (F G : List PV → Option (PV × List (List PV))), Meets prog n F → (f ≠ n → Meets prog f G) → Meets prog f (fun avs => bif Nat.beq f n then F avs else G avs) := by
  intro n F G h1 h2
  cases hb : Nat.beq f n with
  | true =>
   obtain rfl := Nat.eq_of_beq_eq_true hb
   exact h1
  | false => exact h2 fun h => by subst h; simp at hb
 exact key 334 _ _ X334_meets fun _ => key 281 _ _ fmtUint_meets fun _ => key 237 _ _ fmtInt_meets fun _ => key 190 _ _ text_meets fun _ => key 279 _ _ reduce_meets fun _ => key 239 _ _ trim_meets fun _ => key 176 _ _ const_meets fun _ => none_meets f
theorem T_meets (k : Nat) (f : FuncId) : Meets prog f (T k f) := lvl_meets mixed_ok Xc_meets keepF lvF NN k f
end Go.PE
