/-
  A part of the proof that the law's function returns true and leaves its arguments as they were, for every input (no condition): own lemmas of the proof, in the order of their use.
-/
import Derived.Test.YtggpmnlmbfogeaaGreatDoorW51
set_option linter.all false
namespace Go.PE
open Go.RowKit Go.Proofs.Tryz
set_option maxRecDepth 100000
theorem addU_comm {a b : List QT} (ha : okU a) (hb : okU b) : addU a b = addU b a :=
  okU_ext (okU_add a b ha hb) (okU_add b a hb ha) fun n => by rw [co_add a b n ha hb, co_add b a n hb ha, Rat.add_comm]
theorem addU_assoc {a b c : List QT} (ha : okU a) (hb : okU b) (hc : okU c) : addU (addU a b) c = addU a (addU b c) :=
  okU_ext (okU_add _ c (okU_add a b ha hb) hc) (okU_add a _ ha (okU_add b c hb hc)) fun n => by
    rw [co_add _ c n (okU_add a b ha hb) hc, co_add a b n ha hb, co_add a _ n ha (okU_add b c hb hc), co_add b c n hb hc, Rat.add_assoc]
theorem scU_add {a b : List QT} (q : Rat) (ha : okU a) (hb : okU b) : scU (addU a b) q = addU (scU a q) (scU b q) :=
  okU_ext (okU_sc (okU_add a b ha hb)) (okU_add _ _ (okU_sc ha) (okU_sc hb)) fun n => by
    rw [co_sc, co_add a b n ha hb, co_add _ _ n (okU_sc ha) (okU_sc hb), co_sc, co_sc, Rat.add_mul]
theorem addU_neg {a : List QT} (ha : okU a) : addU a (scU a (-1)) = [] :=
  okU_ext (okU_add _ _ ha (okU_sc ha)) okU_nil fun n => by
    rw [co_add _ _ n ha (okU_sc ha), co_sc]
    show co a n + co a n * -1 = 0
    grind
def outU (us : List QT) (n : Bs) : List QT := us.filter fun u => decide (u.1 ≠ n)
end Go.PE
