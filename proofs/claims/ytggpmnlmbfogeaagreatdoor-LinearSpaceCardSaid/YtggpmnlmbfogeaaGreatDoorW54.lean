/-
  A part of the proof that the law's function returns true and leaves its arguments as they were, for every input (no condition): own lemmas of the proof, in the order of their use.
-/
import Derived.Test.YtggpmnlmbfogeaaGreatDoorW53
set_option linter.all false
namespace Go.PE
open Go.RowKit Go.Proofs.Tryz
set_option maxRecDepth 100000
variable {k : Nat}
theorem linV_T {kd : Int} {us : List QT} {c : Rat} (hk : kd = 2 ∨ kd = 3) (hu : okU us) {L : Nat} (hs : ∀ u ∈ us, szQ u.2 L) (hc : szQ c L) (hL : L ≤ 400000) (hn : us.length < 1073741824) :
    T (k + 7) 22 [linP kd us c] = some (.bool true, []) := by
  have h := linValid_T (k := k) kd (tx us) (rs c) (tx_small hu hs hL) (by rw [tx_len]; exact hn) (by have := hc.len; omega)
  rw [linB_tx.2 ⟨hk, hu⟩] at h
  exact h
theorem scaleE_T {kd : Int} {us : List QT} {c q : Rat} (hk : kd = 2 ∨ kd = 3) (hu : okU us) {L : Nat} (hs : ∀ u ∈ us, szQ u.2 L) (hc : szQ c L) (hq : szQ q L) (hL : L ≤ 400000) (hn : us.length < 1073741824) :
    T (k + 11) 32 [linP kd us c, .str (rs q)] = some (.tup [linP kd (scU us q) (c * q), .int .i64 0], []) := by
  have h1 := linV_T (k := k + 3) hk hu hs hc hL hn
  have h2 := valid_Q (k := k + 4) q (by have := hq.len; omega)
  have h3 := scale_T (k := k) kd us c q hc hq hs (by omega) hn
  refine enter rfl func32 rfl (by decide) (by kernel_rfl) rfl rfl ?_
  refine zs1 h1 ?_
  refine zs2 h2 ?_
  refine zs2 h3 ?_
  rfl
end Go.PE
