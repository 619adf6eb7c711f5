/-
  A part of the proof that the law's function returns true and leaves its arguments as they were, for every input (no condition): own lemmas of the proof, in the order of their use.
-/
import Derived.Test.YtggpmnlmbfogeaaGreatDoorV21
set_option linter.all false
namespace Go.PE
open Go.RowKit Go.Proofs.Tryz
set_option maxRecDepth 100000
variable {k : Nat}
def isIq (s : Bs) : Bool := match rd s with | some q => decide (q.den = 1) | none => false
def sgq (s : Bs) : Int := match rd s with | some q => sgn q | none => 0
theorem isI_q (s : Bs) : isI s = isIq s := by
  unfold isIq
  cases h : rd s with
  | some q => rw [rs_rd h, isI_rs]
  | none =>
    simp only
    rw [Bool.eq_false_iff]
    intro hi
    unfold isI at hi
    simp only [Bool.and_eq_true, Bool.not_eq_true', Bool.and_eq_false_imp, decide_eq_false_iff_not] at hi
    obtain ⟨h1, h2⟩ := hi
    have hs : (47 : UInt8) ∉ (cutM s).1 := by
      intro hm
      have := List.all_eq_true.1 (numeral_all h1) _ hm
      revert this; decide
    have : rd s = some (mkRat (sg (cutM s).2 (val (cutM s).1)) 1) := by
      unfold rd
      simp only [cutS_none hs]
      rw [if_pos]
      · rfl
      · rw [h1, Bool.true_and, Bool.not_eq_true', Bool.and_eq_false_imp]
        intro e
        have e : (cutM s).1 = [48] := by simpa using e
        rw [Bool.or_false]
        cases hc : (cutM s).2
        · rfl
        · exact absurd e (h2 hc)
    rw [this] at h; cases h
def conB (rel kind : Int) (ts : List Trm) (c m : Bs) : Bool :=
  if rel = 1 ∨ rel = 2 ∨ rel = 3 then linB kind ts c && decide (m = [])
  else if rel = 4 ∨ rel = 5 then linB kind ts c && (decide (kind = 2) && (isIq m && decide (0 < sgq m)))
  else false
theorem con24_1 (kind : Int) (ts : List Trm) (c m : Bs) (L : Bool) (hl : T (k + 7) 22 [.agg [.int .i64 kind, .imm 2 (trow ts), .str c]] = some (.bool L, [])) :
    T (k + 7 + 1) 24 [.agg [.int .i64 1, .int .i64 kind, .imm 2 (trow ts), .str c, .str m]] = some (.bool (L && decide (m = [])), []) := by
  cases L
  · refine enter rfl func24 rfl (by decide) (by kernel_rfl) rfl rfl ?_
    repeat (first | refine WX.step tab_eq rfl rfl trivial ?_ | refine WX.step tab_eq rfl rfl (by decide) ?_ | refine WX.nil ?_ | refine W.seq ?_ | refine W.region ?_ | refine W.regionD ?_ | refine W.block ?_ | refine W.skip ?_ | refine W.exit ?_ | refine W.ret ?_ | refine W.condT rfl ?_ | refine W.condF rfl ?_ | refine WX.skip rfl ?_)
    refine WX.call tab_eq rfl rfl rfl rfl rfl (hl) rfl rfl ?_
    repeat (first | refine WX.step tab_eq rfl rfl trivial ?_ | refine WX.step tab_eq rfl rfl (by decide) ?_ | refine WX.nil ?_ | refine W.seq ?_ | refine W.region ?_ | refine W.regionD ?_ | refine W.block ?_ | refine W.skip ?_ | refine W.exit ?_ | refine W.ret ?_ | refine W.condT rfl ?_ | refine W.condF rfl ?_ | refine WX.skip rfl ?_)
    rfl
  · refine enter rfl func24 rfl (by decide) (by kernel_rfl) rfl rfl ?_
    repeat (first | refine WX.step tab_eq rfl rfl trivial ?_ | refine WX.step tab_eq rfl rfl (by decide) ?_ | refine WX.nil ?_ | refine W.seq ?_ | refine W.region ?_ | refine W.regionD ?_ | refine W.block ?_ | refine W.skip ?_ | refine W.exit ?_ | refine W.ret ?_ | refine W.condT rfl ?_ | refine W.condF rfl ?_ | refine WX.skip rfl ?_)
    refine WX.call tab_eq rfl rfl rfl rfl rfl (hl) rfl rfl ?_
    repeat (first | refine WX.step tab_eq rfl rfl trivial ?_ | refine WX.step tab_eq rfl rfl (by decide) ?_ | refine WX.nil ?_ | refine W.seq ?_ | refine W.region ?_ | refine W.regionD ?_ | refine W.block ?_ | refine W.skip ?_ | refine W.exit ?_ | refine W.ret ?_ | refine W.condT rfl ?_ | refine W.condF rfl ?_ | refine WX.skip rfl ?_)
    rfl
theorem con24_2 (kind : Int) (ts : List Trm) (c m : Bs) (L : Bool) (hl : T (k + 7) 22 [.agg [.int .i64 kind, .imm 2 (trow ts), .str c]] = some (.bool L, [])) :
    T (k + 7 + 1) 24 [.agg [.int .i64 2, .int .i64 kind, .imm 2 (trow ts), .str c, .str m]] = some (.bool (L && decide (m = [])), []) := by
  cases L
  · refine enter rfl func24 rfl (by decide) (by kernel_rfl) rfl rfl ?_
    repeat (first | refine WX.step tab_eq rfl rfl trivial ?_ | refine WX.step tab_eq rfl rfl (by decide) ?_ | refine WX.nil ?_ | refine W.seq ?_ | refine W.region ?_ | refine W.regionD ?_ | refine W.block ?_ | refine W.skip ?_ | refine W.exit ?_ | refine W.ret ?_ | refine W.condT rfl ?_ | refine W.condF rfl ?_ | refine WX.skip rfl ?_)
    refine WX.call tab_eq rfl rfl rfl rfl rfl (hl) rfl rfl ?_
    repeat (first | refine WX.step tab_eq rfl rfl trivial ?_ | refine WX.step tab_eq rfl rfl (by decide) ?_ | refine WX.nil ?_ | refine W.seq ?_ | refine W.region ?_ | refine W.regionD ?_ | refine W.block ?_ | refine W.skip ?_ | refine W.exit ?_ | refine W.ret ?_ | refine W.condT rfl ?_ | refine W.condF rfl ?_ | refine WX.skip rfl ?_)
    rfl
  · refine enter rfl func24 rfl (by decide) (by kernel_rfl) rfl rfl ?_
    repeat (first | refine WX.step tab_eq rfl rfl trivial ?_ | refine WX.step tab_eq rfl rfl (by decide) ?_ | refine WX.nil ?_ | refine W.seq ?_ | refine W.region ?_ | refine W.regionD ?_ | refine W.block ?_ | refine W.skip ?_ | refine W.exit ?_ | refine W.ret ?_ | refine W.condT rfl ?_ | refine W.condF rfl ?_ | refine WX.skip rfl ?_)
    refine WX.call tab_eq rfl rfl rfl rfl rfl (hl) rfl rfl ?_
    repeat (first | refine WX.step tab_eq rfl rfl trivial ?_ | refine WX.step tab_eq rfl rfl (by decide) ?_ | refine WX.nil ?_ | refine W.seq ?_ | refine W.region ?_ | refine W.regionD ?_ | refine W.block ?_ | refine W.skip ?_ | refine W.exit ?_ | refine W.ret ?_ | refine W.condT rfl ?_ | refine W.condF rfl ?_ | refine WX.skip rfl ?_)
    rfl
theorem con24_3 (kind : Int) (ts : List Trm) (c m : Bs) (L : Bool) (hl : T (k + 7) 22 [.agg [.int .i64 kind, .imm 2 (trow ts), .str c]] = some (.bool L, [])) :
    T (k + 7 + 1) 24 [.agg [.int .i64 3, .int .i64 kind, .imm 2 (trow ts), .str c, .str m]] = some (.bool (L && decide (m = [])), []) := by
  cases L
  · refine enter rfl func24 rfl (by decide) (by kernel_rfl) rfl rfl ?_
    repeat (first | refine WX.step tab_eq rfl rfl trivial ?_ | refine WX.step tab_eq rfl rfl (by decide) ?_ | refine WX.nil ?_ | refine W.seq ?_ | refine W.region ?_ | refine W.regionD ?_ | refine W.block ?_ | refine W.skip ?_ | refine W.exit ?_ | refine W.ret ?_ | refine W.condT rfl ?_ | refine W.condF rfl ?_ | refine WX.skip rfl ?_)
    refine WX.call tab_eq rfl rfl rfl rfl rfl (hl) rfl rfl ?_
    repeat (first | refine WX.step tab_eq rfl rfl trivial ?_ | refine WX.step tab_eq rfl rfl (by decide) ?_ | refine WX.nil ?_ | refine W.seq ?_ | refine W.region ?_ | refine W.regionD ?_ | refine W.block ?_ | refine W.skip ?_ | refine W.exit ?_ | refine W.ret ?_ | refine W.condT rfl ?_ | refine W.condF rfl ?_ | refine WX.skip rfl ?_)
    rfl
  · refine enter rfl func24 rfl (by decide) (by kernel_rfl) rfl rfl ?_
    repeat (first | refine WX.step tab_eq rfl rfl trivial ?_ | refine WX.step tab_eq rfl rfl (by decide) ?_ | refine WX.nil ?_ | refine W.seq ?_ | refine W.region ?_ | refine W.regionD ?_ | refine W.block ?_ | refine W.skip ?_ | refine W.exit ?_ | refine W.ret ?_ | refine W.condT rfl ?_ | refine W.condF rfl ?_ | refine WX.skip rfl ?_)
    refine WX.call tab_eq rfl rfl rfl rfl rfl (hl) rfl rfl ?_
    repeat (first | refine WX.step tab_eq rfl rfl trivial ?_ | refine WX.step tab_eq rfl rfl (by decide) ?_ | refine WX.nil ?_ | refine W.seq ?_ | refine W.region ?_ | refine W.regionD ?_ | refine W.block ?_ | refine W.skip ?_ | refine W.exit ?_ | refine W.ret ?_ | refine W.condT rfl ?_ | refine W.condF rfl ?_ | refine WX.skip rfl ?_)
    rfl
theorem con24_4 (kind : Int) (ts : List Trm) (c m : Bs) (L I : Bool) (S : Int) (hl : T (k + 7) 22 [.agg [.int .i64 kind, .imm 2 (trow ts), .str c]] = some (.bool L, []))
    (hi : T (k + 7) 34 [.str m] = some (.bool I, [])) (hs : T (k + 7) 75 [.str m] = some (.int .i64 S, [])) :
    T (k + 7 + 1) 24 [.agg [.int .i64 4, .int .i64 kind, .imm 2 (trow ts), .str c, .str m]] = some (.bool (L && (decide (kind = 2) && (I && decide (0 < S)))), []) := by
  cases L
  · refine enter rfl func24 rfl (by decide) (by kernel_rfl) rfl rfl ?_
    repeat (first | refine WX.step tab_eq rfl rfl trivial ?_ | refine WX.step tab_eq rfl rfl (by decide) ?_ | refine WX.nil ?_ | refine W.seq ?_ | refine W.region ?_ | refine W.regionD ?_ | refine W.block ?_ | refine W.skip ?_ | refine W.exit ?_ | refine W.ret ?_ | refine W.condT rfl ?_ | refine W.condF rfl ?_ | refine WX.skip rfl ?_)
    refine WX.call tab_eq rfl rfl rfl rfl rfl (hl) rfl rfl ?_
    repeat (first | refine WX.step tab_eq rfl rfl trivial ?_ | refine WX.step tab_eq rfl rfl (by decide) ?_ | refine WX.nil ?_ | refine W.seq ?_ | refine W.region ?_ | refine W.regionD ?_ | refine W.block ?_ | refine W.skip ?_ | refine W.exit ?_ | refine W.ret ?_ | refine W.condT rfl ?_ | refine W.condF rfl ?_ | refine WX.skip rfl ?_)
    rfl
  · refine enter rfl func24 rfl (by decide) (by kernel_rfl) rfl rfl ?_
    repeat (first | refine WX.step tab_eq rfl rfl trivial ?_ | refine WX.step tab_eq rfl rfl (by decide) ?_ | refine WX.nil ?_ | refine W.seq ?_ | refine W.region ?_ | refine W.regionD ?_ | refine W.block ?_ | refine W.skip ?_ | refine W.exit ?_ | refine W.ret ?_ | refine W.condT rfl ?_ | refine W.condF rfl ?_ | refine WX.skip rfl ?_)
    refine WX.call tab_eq rfl rfl rfl rfl rfl (hl) rfl rfl ?_
    repeat (first | refine WX.step tab_eq rfl rfl trivial ?_ | refine WX.step tab_eq rfl rfl (by decide) ?_ | refine WX.nil ?_ | refine W.seq ?_ | refine W.region ?_ | refine W.regionD ?_ | refine W.block ?_ | refine W.skip ?_ | refine W.exit ?_ | refine W.ret ?_ | refine W.condT rfl ?_ | refine W.condF rfl ?_ | refine WX.skip rfl ?_)
    refine WX.boolM rfl rfl (fun b1 => ?_) (fun b1 => ?_)
    · have b1 : decide (kind = 2) = true := b1
      rw [b1]
      repeat (first | refine WX.step tab_eq rfl rfl trivial ?_ | refine WX.step tab_eq rfl rfl (by decide) ?_ | refine WX.nil ?_ | refine W.seq ?_ | refine W.region ?_ | refine W.regionD ?_ | refine W.block ?_ | refine W.skip ?_ | refine W.exit ?_ | refine W.ret ?_ | refine W.condT rfl ?_ | refine W.condF rfl ?_ | refine WX.skip rfl ?_)
      refine WX.call tab_eq rfl rfl rfl rfl rfl (hi) rfl rfl ?_
      repeat (first | refine WX.step tab_eq rfl rfl trivial ?_ | refine WX.step tab_eq rfl rfl (by decide) ?_ | refine WX.nil ?_ | refine W.seq ?_ | refine W.region ?_ | refine W.regionD ?_ | refine W.block ?_ | refine W.skip ?_ | refine W.exit ?_ | refine W.ret ?_ | refine W.condT rfl ?_ | refine W.condF rfl ?_ | refine WX.skip rfl ?_)
      cases I
      · repeat (first | refine WX.step tab_eq rfl rfl trivial ?_ | refine WX.step tab_eq rfl rfl (by decide) ?_ | refine WX.nil ?_ | refine W.seq ?_ | refine W.region ?_ | refine W.regionD ?_ | refine W.block ?_ | refine W.skip ?_ | refine W.exit ?_ | refine W.ret ?_ | refine W.condT rfl ?_ | refine W.condF rfl ?_ | refine WX.skip rfl ?_)
        rfl
      · repeat (first | refine WX.step tab_eq rfl rfl trivial ?_ | refine WX.step tab_eq rfl rfl (by decide) ?_ | refine WX.nil ?_ | refine W.seq ?_ | refine W.region ?_ | refine W.regionD ?_ | refine W.block ?_ | refine W.skip ?_ | refine W.exit ?_ | refine W.ret ?_ | refine W.condT rfl ?_ | refine W.condF rfl ?_ | refine WX.skip rfl ?_)
        refine WX.call tab_eq rfl rfl rfl rfl rfl (hs) rfl rfl ?_
        repeat (first | refine WX.step tab_eq rfl rfl trivial ?_ | refine WX.step tab_eq rfl rfl (by decide) ?_ | refine WX.nil ?_ | refine W.seq ?_ | refine W.region ?_ | refine W.regionD ?_ | refine W.block ?_ | refine W.skip ?_ | refine W.exit ?_ | refine W.ret ?_ | refine W.condT rfl ?_ | refine W.condF rfl ?_ | refine WX.skip rfl ?_)
        rfl
    · have b1 : decide (kind = 2) = false := b1
      rw [b1]
      repeat (first | refine WX.step tab_eq rfl rfl trivial ?_ | refine WX.step tab_eq rfl rfl (by decide) ?_ | refine WX.nil ?_ | refine W.seq ?_ | refine W.region ?_ | refine W.regionD ?_ | refine W.block ?_ | refine W.skip ?_ | refine W.exit ?_ | refine W.ret ?_ | refine W.condT rfl ?_ | refine W.condF rfl ?_ | refine WX.skip rfl ?_)
      rfl
theorem con24_5 (kind : Int) (ts : List Trm) (c m : Bs) (L I : Bool) (S : Int) (hl : T (k + 7) 22 [.agg [.int .i64 kind, .imm 2 (trow ts), .str c]] = some (.bool L, []))
    (hi : T (k + 7) 34 [.str m] = some (.bool I, [])) (hs : T (k + 7) 75 [.str m] = some (.int .i64 S, [])) :
    T (k + 7 + 1) 24 [.agg [.int .i64 5, .int .i64 kind, .imm 2 (trow ts), .str c, .str m]] = some (.bool (L && (decide (kind = 2) && (I && decide (0 < S)))), []) := by
  cases L
  · refine enter rfl func24 rfl (by decide) (by kernel_rfl) rfl rfl ?_
    repeat (first | refine WX.step tab_eq rfl rfl trivial ?_ | refine WX.step tab_eq rfl rfl (by decide) ?_ | refine WX.nil ?_ | refine W.seq ?_ | refine W.region ?_ | refine W.regionD ?_ | refine W.block ?_ | refine W.skip ?_ | refine W.exit ?_ | refine W.ret ?_ | refine W.condT rfl ?_ | refine W.condF rfl ?_ | refine WX.skip rfl ?_)
    refine WX.call tab_eq rfl rfl rfl rfl rfl (hl) rfl rfl ?_
    repeat (first | refine WX.step tab_eq rfl rfl trivial ?_ | refine WX.step tab_eq rfl rfl (by decide) ?_ | refine WX.nil ?_ | refine W.seq ?_ | refine W.region ?_ | refine W.regionD ?_ | refine W.block ?_ | refine W.skip ?_ | refine W.exit ?_ | refine W.ret ?_ | refine W.condT rfl ?_ | refine W.condF rfl ?_ | refine WX.skip rfl ?_)
    rfl
  · refine enter rfl func24 rfl (by decide) (by kernel_rfl) rfl rfl ?_
    repeat (first | refine WX.step tab_eq rfl rfl trivial ?_ | refine WX.step tab_eq rfl rfl (by decide) ?_ | refine WX.nil ?_ | refine W.seq ?_ | refine W.region ?_ | refine W.regionD ?_ | refine W.block ?_ | refine W.skip ?_ | refine W.exit ?_ | refine W.ret ?_ | refine W.condT rfl ?_ | refine W.condF rfl ?_ | refine WX.skip rfl ?_)
    refine WX.call tab_eq rfl rfl rfl rfl rfl (hl) rfl rfl ?_
    repeat (first | refine WX.step tab_eq rfl rfl trivial ?_ | refine WX.step tab_eq rfl rfl (by decide) ?_ | refine WX.nil ?_ | refine W.seq ?_ | refine W.region ?_ | refine W.regionD ?_ | refine W.block ?_ | refine W.skip ?_ | refine W.exit ?_ | refine W.ret ?_ | refine W.condT rfl ?_ | refine W.condF rfl ?_ | refine WX.skip rfl ?_)
    refine WX.boolM rfl rfl (fun b1 => ?_) (fun b1 => ?_)
    · have b1 : decide (kind = 2) = true := b1
      rw [b1]
      repeat (first | refine WX.step tab_eq rfl rfl trivial ?_ | refine WX.step tab_eq rfl rfl (by decide) ?_ | refine WX.nil ?_ | refine W.seq ?_ | refine W.region ?_ | refine W.regionD ?_ | refine W.block ?_ | refine W.skip ?_ | refine W.exit ?_ | refine W.ret ?_ | refine W.condT rfl ?_ | refine W.condF rfl ?_ | refine WX.skip rfl ?_)
      refine WX.call tab_eq rfl rfl rfl rfl rfl (hi) rfl rfl ?_
      repeat (first | refine WX.step tab_eq rfl rfl trivial ?_ | refine WX.step tab_eq rfl rfl (by decide) ?_ | refine WX.nil ?_ | refine W.seq ?_ | refine W.region ?_ | refine W.regionD ?_ | refine W.block ?_ | refine W.skip ?_ | refine W.exit ?_ | refine W.ret ?_ | refine W.condT rfl ?_ | refine W.condF rfl ?_ | refine WX.skip rfl ?_)
      cases I
      · repeat (first | refine WX.step tab_eq rfl rfl trivial ?_ | refine WX.step tab_eq rfl rfl (by decide) ?_ | refine WX.nil ?_ | refine W.seq ?_ | refine W.region ?_ | refine W.regionD ?_ | refine W.block ?_ | refine W.skip ?_ | refine W.exit ?_ | refine W.ret ?_ | refine W.condT rfl ?_ | refine W.condF rfl ?_ | refine WX.skip rfl ?_)
        rfl
      · repeat (first | refine WX.step tab_eq rfl rfl trivial ?_ | refine WX.step tab_eq rfl rfl (by decide) ?_ | refine WX.nil ?_ | refine W.seq ?_ | refine W.region ?_ | refine W.regionD ?_ | refine W.block ?_ | refine W.skip ?_ | refine W.exit ?_ | refine W.ret ?_ | refine W.condT rfl ?_ | refine W.condF rfl ?_ | refine WX.skip rfl ?_)
        refine WX.call tab_eq rfl rfl rfl rfl rfl (hs) rfl rfl ?_
        repeat (first | refine WX.step tab_eq rfl rfl trivial ?_ | refine WX.step tab_eq rfl rfl (by decide) ?_ | refine WX.nil ?_ | refine W.seq ?_ | refine W.region ?_ | refine W.regionD ?_ | refine W.block ?_ | refine W.skip ?_ | refine W.exit ?_ | refine W.ret ?_ | refine W.condT rfl ?_ | refine W.condF rfl ?_ | refine WX.skip rfl ?_)
        rfl
    · have b1 : decide (kind = 2) = false := b1
      rw [b1]
      repeat (first | refine WX.step tab_eq rfl rfl trivial ?_ | refine WX.step tab_eq rfl rfl (by decide) ?_ | refine WX.nil ?_ | refine W.seq ?_ | refine W.region ?_ | refine W.regionD ?_ | refine W.block ?_ | refine W.skip ?_ | refine W.exit ?_ | refine W.ret ?_ | refine W.condT rfl ?_ | refine W.condF rfl ?_ | refine WX.skip rfl ?_)
      rfl
theorem con24_0 (rel kind : Int) (ts : List Trm) (c m : Bs) (L : Bool) (hl : T (k + 7) 22 [.agg [.int .i64 kind, .imm 2 (trow ts), .str c]] = some (.bool L, []))
    (h1 : rel ≠ 1) (h2 : rel ≠ 2) (h3 : rel ≠ 3) (h4 : rel ≠ 4) (h5 : rel ≠ 5) : T (k + 7 + 1) 24 [.agg [.int .i64 rel, .int .i64 kind, .imm 2 (trow ts), .str c, .str m]] = some (.bool false, []) := by
  refine enter rfl func24 rfl (by decide) (by kernel_rfl) rfl rfl ?_
  repeat (first | refine WX.step tab_eq rfl rfl trivial ?_ | refine WX.step tab_eq rfl rfl (by decide) ?_ | refine WX.nil ?_ | refine W.seq ?_ | refine W.region ?_ | refine W.regionD ?_ | refine W.block ?_ | refine W.skip ?_ | refine W.exit ?_ | refine W.ret ?_ | refine W.condT rfl ?_ | refine W.condF rfl ?_ | refine WX.skip rfl ?_)
  refine W.cond rfl (fun c1 => ?_) (fun c1 => ?_)
  · exact absurd (of_decide_eq_true c1) h1
  repeat (first | refine WX.step tab_eq rfl rfl trivial ?_ | refine WX.step tab_eq rfl rfl (by decide) ?_ | refine WX.nil ?_ | refine W.seq ?_ | refine W.region ?_ | refine W.regionD ?_ | refine W.block ?_ | refine W.skip ?_ | refine W.exit ?_ | refine W.ret ?_ | refine W.condT rfl ?_ | refine W.condF rfl ?_ | refine WX.skip rfl ?_)
  refine W.cond rfl (fun c2 => ?_) (fun c2 => ?_)
  · exact absurd (of_decide_eq_true c2) h2
  repeat (first | refine WX.step tab_eq rfl rfl trivial ?_ | refine WX.step tab_eq rfl rfl (by decide) ?_ | refine WX.nil ?_ | refine W.seq ?_ | refine W.region ?_ | refine W.regionD ?_ | refine W.block ?_ | refine W.skip ?_ | refine W.exit ?_ | refine W.ret ?_ | refine W.condT rfl ?_ | refine W.condF rfl ?_ | refine WX.skip rfl ?_)
  refine W.cond rfl (fun c3 => ?_) (fun c3 => ?_)
  · exact absurd (of_decide_eq_true c3) h3
  repeat (first | refine WX.step tab_eq rfl rfl trivial ?_ | refine WX.step tab_eq rfl rfl (by decide) ?_ | refine WX.nil ?_ | refine W.seq ?_ | refine W.region ?_ | refine W.regionD ?_ | refine W.block ?_ | refine W.skip ?_ | refine W.exit ?_ | refine W.ret ?_ | refine W.condT rfl ?_ | refine W.condF rfl ?_ | refine WX.skip rfl ?_)
  refine W.cond rfl (fun c4 => ?_) (fun c4 => ?_)
  · exact absurd (of_decide_eq_true c4) h4
  repeat (first | refine WX.step tab_eq rfl rfl trivial ?_ | refine WX.step tab_eq rfl rfl (by decide) ?_ | refine WX.nil ?_ | refine W.seq ?_ | refine W.region ?_ | refine W.regionD ?_ | refine W.block ?_ | refine W.skip ?_ | refine W.exit ?_ | refine W.ret ?_ | refine W.condT rfl ?_ | refine W.condF rfl ?_ | refine WX.skip rfl ?_)
  refine W.cond rfl (fun c5 => ?_) (fun c5 => ?_)
  · exact absurd (of_decide_eq_true c5) h5
  repeat (first | refine WX.step tab_eq rfl rfl trivial ?_ | refine WX.step tab_eq rfl rfl (by decide) ?_ | refine WX.nil ?_ | refine W.seq ?_ | refine W.region ?_ | refine W.regionD ?_ | refine W.block ?_ | refine W.skip ?_ | refine W.exit ?_ | refine W.ret ?_ | refine W.condT rfl ?_ | refine W.condF rfl ?_ | refine WX.skip rfl ?_)
  rfl
theorem con25_1 (kind : Int) (ts : List Trm) (c m : Bs) (L : Bool) (hl : T (k + 8) 23 [.agg [.int .i64 kind, .imm 2 (trow ts), .str c]] = some (.bool L, [])) :
    T (k + 8 + 1) 25 [.agg [.int .i64 1, .int .i64 kind, .imm 2 (trow ts), .str c, .str m]] = some (.bool (L && decide (m = [])), []) := by
  cases L
  · refine enter rfl func25 rfl (by decide) (by kernel_rfl) rfl rfl ?_
    repeat (first | refine WX.step tab_eq rfl rfl trivial ?_ | refine WX.step tab_eq rfl rfl (by decide) ?_ | refine WX.nil ?_ | refine W.seq ?_ | refine W.region ?_ | refine W.regionD ?_ | refine W.block ?_ | refine W.skip ?_ | refine W.exit ?_ | refine W.ret ?_ | refine W.condT rfl ?_ | refine W.condF rfl ?_ | refine WX.skip rfl ?_)
    refine WX.call tab_eq rfl rfl rfl rfl rfl (hl) rfl rfl ?_
    repeat (first | refine WX.step tab_eq rfl rfl trivial ?_ | refine WX.step tab_eq rfl rfl (by decide) ?_ | refine WX.nil ?_ | refine W.seq ?_ | refine W.region ?_ | refine W.regionD ?_ | refine W.block ?_ | refine W.skip ?_ | refine W.exit ?_ | refine W.ret ?_ | refine W.condT rfl ?_ | refine W.condF rfl ?_ | refine WX.skip rfl ?_)
    rfl
  · refine enter rfl func25 rfl (by decide) (by kernel_rfl) rfl rfl ?_
    repeat (first | refine WX.step tab_eq rfl rfl trivial ?_ | refine WX.step tab_eq rfl rfl (by decide) ?_ | refine WX.nil ?_ | refine W.seq ?_ | refine W.region ?_ | refine W.regionD ?_ | refine W.block ?_ | refine W.skip ?_ | refine W.exit ?_ | refine W.ret ?_ | refine W.condT rfl ?_ | refine W.condF rfl ?_ | refine WX.skip rfl ?_)
    refine WX.call tab_eq rfl rfl rfl rfl rfl (hl) rfl rfl ?_
    repeat (first | refine WX.step tab_eq rfl rfl trivial ?_ | refine WX.step tab_eq rfl rfl (by decide) ?_ | refine WX.nil ?_ | refine W.seq ?_ | refine W.region ?_ | refine W.regionD ?_ | refine W.block ?_ | refine W.skip ?_ | refine W.exit ?_ | refine W.ret ?_ | refine W.condT rfl ?_ | refine W.condF rfl ?_ | refine WX.skip rfl ?_)
    rfl
theorem con25_2 (kind : Int) (ts : List Trm) (c m : Bs) (L : Bool) (hl : T (k + 8) 23 [.agg [.int .i64 kind, .imm 2 (trow ts), .str c]] = some (.bool L, [])) :
    T (k + 8 + 1) 25 [.agg [.int .i64 2, .int .i64 kind, .imm 2 (trow ts), .str c, .str m]] = some (.bool (L && decide (m = [])), []) := by
  cases L
  · refine enter rfl func25 rfl (by decide) (by kernel_rfl) rfl rfl ?_
    repeat (first | refine WX.step tab_eq rfl rfl trivial ?_ | refine WX.step tab_eq rfl rfl (by decide) ?_ | refine WX.nil ?_ | refine W.seq ?_ | refine W.region ?_ | refine W.regionD ?_ | refine W.block ?_ | refine W.skip ?_ | refine W.exit ?_ | refine W.ret ?_ | refine W.condT rfl ?_ | refine W.condF rfl ?_ | refine WX.skip rfl ?_)
    refine WX.call tab_eq rfl rfl rfl rfl rfl (hl) rfl rfl ?_
    repeat (first | refine WX.step tab_eq rfl rfl trivial ?_ | refine WX.step tab_eq rfl rfl (by decide) ?_ | refine WX.nil ?_ | refine W.seq ?_ | refine W.region ?_ | refine W.regionD ?_ | refine W.block ?_ | refine W.skip ?_ | refine W.exit ?_ | refine W.ret ?_ | refine W.condT rfl ?_ | refine W.condF rfl ?_ | refine WX.skip rfl ?_)
    rfl
  · refine enter rfl func25 rfl (by decide) (by kernel_rfl) rfl rfl ?_
    repeat (first | refine WX.step tab_eq rfl rfl trivial ?_ | refine WX.step tab_eq rfl rfl (by decide) ?_ | refine WX.nil ?_ | refine W.seq ?_ | refine W.region ?_ | refine W.regionD ?_ | refine W.block ?_ | refine W.skip ?_ | refine W.exit ?_ | refine W.ret ?_ | refine W.condT rfl ?_ | refine W.condF rfl ?_ | refine WX.skip rfl ?_)
    refine WX.call tab_eq rfl rfl rfl rfl rfl (hl) rfl rfl ?_
    repeat (first | refine WX.step tab_eq rfl rfl trivial ?_ | refine WX.step tab_eq rfl rfl (by decide) ?_ | refine WX.nil ?_ | refine W.seq ?_ | refine W.region ?_ | refine W.regionD ?_ | refine W.block ?_ | refine W.skip ?_ | refine W.exit ?_ | refine W.ret ?_ | refine W.condT rfl ?_ | refine W.condF rfl ?_ | refine WX.skip rfl ?_)
    rfl
theorem con25_3 (kind : Int) (ts : List Trm) (c m : Bs) (L : Bool) (hl : T (k + 8) 23 [.agg [.int .i64 kind, .imm 2 (trow ts), .str c]] = some (.bool L, [])) :
    T (k + 8 + 1) 25 [.agg [.int .i64 3, .int .i64 kind, .imm 2 (trow ts), .str c, .str m]] = some (.bool (L && decide (m = [])), []) := by
  cases L
  · refine enter rfl func25 rfl (by decide) (by kernel_rfl) rfl rfl ?_
    repeat (first | refine WX.step tab_eq rfl rfl trivial ?_ | refine WX.step tab_eq rfl rfl (by decide) ?_ | refine WX.nil ?_ | refine W.seq ?_ | refine W.region ?_ | refine W.regionD ?_ | refine W.block ?_ | refine W.skip ?_ | refine W.exit ?_ | refine W.ret ?_ | refine W.condT rfl ?_ | refine W.condF rfl ?_ | refine WX.skip rfl ?_)
    refine WX.call tab_eq rfl rfl rfl rfl rfl (hl) rfl rfl ?_
    repeat (first | refine WX.step tab_eq rfl rfl trivial ?_ | refine WX.step tab_eq rfl rfl (by decide) ?_ | refine WX.nil ?_ | refine W.seq ?_ | refine W.region ?_ | refine W.regionD ?_ | refine W.block ?_ | refine W.skip ?_ | refine W.exit ?_ | refine W.ret ?_ | refine W.condT rfl ?_ | refine W.condF rfl ?_ | refine WX.skip rfl ?_)
    rfl
  · refine enter rfl func25 rfl (by decide) (by kernel_rfl) rfl rfl ?_
    repeat (first | refine WX.step tab_eq rfl rfl trivial ?_ | refine WX.step tab_eq rfl rfl (by decide) ?_ | refine WX.nil ?_ | refine W.seq ?_ | refine W.region ?_ | refine W.regionD ?_ | refine W.block ?_ | refine W.skip ?_ | refine W.exit ?_ | refine W.ret ?_ | refine W.condT rfl ?_ | refine W.condF rfl ?_ | refine WX.skip rfl ?_)
    refine WX.call tab_eq rfl rfl rfl rfl rfl (hl) rfl rfl ?_
    repeat (first | refine WX.step tab_eq rfl rfl trivial ?_ | refine WX.step tab_eq rfl rfl (by decide) ?_ | refine WX.nil ?_ | refine W.seq ?_ | refine W.region ?_ | refine W.regionD ?_ | refine W.block ?_ | refine W.skip ?_ | refine W.exit ?_ | refine W.ret ?_ | refine W.condT rfl ?_ | refine W.condF rfl ?_ | refine WX.skip rfl ?_)
    rfl
theorem con25_4 (kind : Int) (ts : List Trm) (c m : Bs) (L I : Bool) (S : Int) (hl : T (k + 8) 23 [.agg [.int .i64 kind, .imm 2 (trow ts), .str c]] = some (.bool L, []))
    (hi : T (k + 8) 52 [.str m] = some (.bool I, [])) (hs : T (k + 8) 76 [.str m] = some (.int .i64 S, [])) :
    T (k + 8 + 1) 25 [.agg [.int .i64 4, .int .i64 kind, .imm 2 (trow ts), .str c, .str m]] = some (.bool (L && (decide (kind = 2) && (I && decide (0 < S)))), []) := by
  cases L
  · refine enter rfl func25 rfl (by decide) (by kernel_rfl) rfl rfl ?_
    repeat (first | refine WX.step tab_eq rfl rfl trivial ?_ | refine WX.step tab_eq rfl rfl (by decide) ?_ | refine WX.nil ?_ | refine W.seq ?_ | refine W.region ?_ | refine W.regionD ?_ | refine W.block ?_ | refine W.skip ?_ | refine W.exit ?_ | refine W.ret ?_ | refine W.condT rfl ?_ | refine W.condF rfl ?_ | refine WX.skip rfl ?_)
    refine WX.call tab_eq rfl rfl rfl rfl rfl (hl) rfl rfl ?_
    repeat (first | refine WX.step tab_eq rfl rfl trivial ?_ | refine WX.step tab_eq rfl rfl (by decide) ?_ | refine WX.nil ?_ | refine W.seq ?_ | refine W.region ?_ | refine W.regionD ?_ | refine W.block ?_ | refine W.skip ?_ | refine W.exit ?_ | refine W.ret ?_ | refine W.condT rfl ?_ | refine W.condF rfl ?_ | refine WX.skip rfl ?_)
    rfl
  · refine enter rfl func25 rfl (by decide) (by kernel_rfl) rfl rfl ?_
    repeat (first | refine WX.step tab_eq rfl rfl trivial ?_ | refine WX.step tab_eq rfl rfl (by decide) ?_ | refine WX.nil ?_ | refine W.seq ?_ | refine W.region ?_ | refine W.regionD ?_ | refine W.block ?_ | refine W.skip ?_ | refine W.exit ?_ | refine W.ret ?_ | refine W.condT rfl ?_ | refine W.condF rfl ?_ | refine WX.skip rfl ?_)
    refine WX.call tab_eq rfl rfl rfl rfl rfl (hl) rfl rfl ?_
    repeat (first | refine WX.step tab_eq rfl rfl trivial ?_ | refine WX.step tab_eq rfl rfl (by decide) ?_ | refine WX.nil ?_ | refine W.seq ?_ | refine W.region ?_ | refine W.regionD ?_ | refine W.block ?_ | refine W.skip ?_ | refine W.exit ?_ | refine W.ret ?_ | refine W.condT rfl ?_ | refine W.condF rfl ?_ | refine WX.skip rfl ?_)
    refine WX.boolM rfl rfl (fun b1 => ?_) (fun b1 => ?_)
    · have b1 : decide (kind = 2) = true := b1
      rw [b1]
      repeat (first | refine WX.step tab_eq rfl rfl trivial ?_ | refine WX.step tab_eq rfl rfl (by decide) ?_ | refine WX.nil ?_ | refine W.seq ?_ | refine W.region ?_ | refine W.regionD ?_ | refine W.block ?_ | refine W.skip ?_ | refine W.exit ?_ | refine W.ret ?_ | refine W.condT rfl ?_ | refine W.condF rfl ?_ | refine WX.skip rfl ?_)
      refine WX.call tab_eq rfl rfl rfl rfl rfl (hi) rfl rfl ?_
      repeat (first | refine WX.step tab_eq rfl rfl trivial ?_ | refine WX.step tab_eq rfl rfl (by decide) ?_ | refine WX.nil ?_ | refine W.seq ?_ | refine W.region ?_ | refine W.regionD ?_ | refine W.block ?_ | refine W.skip ?_ | refine W.exit ?_ | refine W.ret ?_ | refine W.condT rfl ?_ | refine W.condF rfl ?_ | refine WX.skip rfl ?_)
      cases I
      · repeat (first | refine WX.step tab_eq rfl rfl trivial ?_ | refine WX.step tab_eq rfl rfl (by decide) ?_ | refine WX.nil ?_ | refine W.seq ?_ | refine W.region ?_ | refine W.regionD ?_ | refine W.block ?_ | refine W.skip ?_ | refine W.exit ?_ | refine W.ret ?_ | refine W.condT rfl ?_ | refine W.condF rfl ?_ | refine WX.skip rfl ?_)
        rfl
      · repeat (first | refine WX.step tab_eq rfl rfl trivial ?_ | refine WX.step tab_eq rfl rfl (by decide) ?_ | refine WX.nil ?_ | refine W.seq ?_ | refine W.region ?_ | refine W.regionD ?_ | refine W.block ?_ | refine W.skip ?_ | refine W.exit ?_ | refine W.ret ?_ | refine W.condT rfl ?_ | refine W.condF rfl ?_ | refine WX.skip rfl ?_)
        refine WX.call tab_eq rfl rfl rfl rfl rfl (hs) rfl rfl ?_
        repeat (first | refine WX.step tab_eq rfl rfl trivial ?_ | refine WX.step tab_eq rfl rfl (by decide) ?_ | refine WX.nil ?_ | refine W.seq ?_ | refine W.region ?_ | refine W.regionD ?_ | refine W.block ?_ | refine W.skip ?_ | refine W.exit ?_ | refine W.ret ?_ | refine W.condT rfl ?_ | refine W.condF rfl ?_ | refine WX.skip rfl ?_)
        rfl
    · have b1 : decide (kind = 2) = false := b1
      rw [b1]
      repeat (first | refine WX.step tab_eq rfl rfl trivial ?_ | refine WX.step tab_eq rfl rfl (by decide) ?_ | refine WX.nil ?_ | refine W.seq ?_ | refine W.region ?_ | refine W.regionD ?_ | refine W.block ?_ | refine W.skip ?_ | refine W.exit ?_ | refine W.ret ?_ | refine W.condT rfl ?_ | refine W.condF rfl ?_ | refine WX.skip rfl ?_)
      rfl
theorem con25_5 (kind : Int) (ts : List Trm) (c m : Bs) (L I : Bool) (S : Int) (hl : T (k + 8) 23 [.agg [.int .i64 kind, .imm 2 (trow ts), .str c]] = some (.bool L, []))
    (hi : T (k + 8) 52 [.str m] = some (.bool I, [])) (hs : T (k + 8) 76 [.str m] = some (.int .i64 S, [])) :
    T (k + 8 + 1) 25 [.agg [.int .i64 5, .int .i64 kind, .imm 2 (trow ts), .str c, .str m]] = some (.bool (L && (decide (kind = 2) && (I && decide (0 < S)))), []) := by
  cases L
  · refine enter rfl func25 rfl (by decide) (by kernel_rfl) rfl rfl ?_
    repeat (first | refine WX.step tab_eq rfl rfl trivial ?_ | refine WX.step tab_eq rfl rfl (by decide) ?_ | refine WX.nil ?_ | refine W.seq ?_ | refine W.region ?_ | refine W.regionD ?_ | refine W.block ?_ | refine W.skip ?_ | refine W.exit ?_ | refine W.ret ?_ | refine W.condT rfl ?_ | refine W.condF rfl ?_ | refine WX.skip rfl ?_)
    refine WX.call tab_eq rfl rfl rfl rfl rfl (hl) rfl rfl ?_
    repeat (first | refine WX.step tab_eq rfl rfl trivial ?_ | refine WX.step tab_eq rfl rfl (by decide) ?_ | refine WX.nil ?_ | refine W.seq ?_ | refine W.region ?_ | refine W.regionD ?_ | refine W.block ?_ | refine W.skip ?_ | refine W.exit ?_ | refine W.ret ?_ | refine W.condT rfl ?_ | refine W.condF rfl ?_ | refine WX.skip rfl ?_)
    rfl
  · refine enter rfl func25 rfl (by decide) (by kernel_rfl) rfl rfl ?_
    repeat (first | refine WX.step tab_eq rfl rfl trivial ?_ | refine WX.step tab_eq rfl rfl (by decide) ?_ | refine WX.nil ?_ | refine W.seq ?_ | refine W.region ?_ | refine W.regionD ?_ | refine W.block ?_ | refine W.skip ?_ | refine W.exit ?_ | refine W.ret ?_ | refine W.condT rfl ?_ | refine W.condF rfl ?_ | refine WX.skip rfl ?_)
    refine WX.call tab_eq rfl rfl rfl rfl rfl (hl) rfl rfl ?_
    repeat (first | refine WX.step tab_eq rfl rfl trivial ?_ | refine WX.step tab_eq rfl rfl (by decide) ?_ | refine WX.nil ?_ | refine W.seq ?_ | refine W.region ?_ | refine W.regionD ?_ | refine W.block ?_ | refine W.skip ?_ | refine W.exit ?_ | refine W.ret ?_ | refine W.condT rfl ?_ | refine W.condF rfl ?_ | refine WX.skip rfl ?_)
    refine WX.boolM rfl rfl (fun b1 => ?_) (fun b1 => ?_)
    · have b1 : decide (kind = 2) = true := b1
      rw [b1]
      repeat (first | refine WX.step tab_eq rfl rfl trivial ?_ | refine WX.step tab_eq rfl rfl (by decide) ?_ | refine WX.nil ?_ | refine W.seq ?_ | refine W.region ?_ | refine W.regionD ?_ | refine W.block ?_ | refine W.skip ?_ | refine W.exit ?_ | refine W.ret ?_ | refine W.condT rfl ?_ | refine W.condF rfl ?_ | refine WX.skip rfl ?_)
      refine WX.call tab_eq rfl rfl rfl rfl rfl (hi) rfl rfl ?_
      repeat (first | refine WX.step tab_eq rfl rfl trivial ?_ | refine WX.step tab_eq rfl rfl (by decide) ?_ | refine WX.nil ?_ | refine W.seq ?_ | refine W.region ?_ | refine W.regionD ?_ | refine W.block ?_ | refine W.skip ?_ | refine W.exit ?_ | refine W.ret ?_ | refine W.condT rfl ?_ | refine W.condF rfl ?_ | refine WX.skip rfl ?_)
      cases I
      · repeat (first | refine WX.step tab_eq rfl rfl trivial ?_ | refine WX.step tab_eq rfl rfl (by decide) ?_ | refine WX.nil ?_ | refine W.seq ?_ | refine W.region ?_ | refine W.regionD ?_ | refine W.block ?_ | refine W.skip ?_ | refine W.exit ?_ | refine W.ret ?_ | refine W.condT rfl ?_ | refine W.condF rfl ?_ | refine WX.skip rfl ?_)
        rfl
      · repeat (first | refine WX.step tab_eq rfl rfl trivial ?_ | refine WX.step tab_eq rfl rfl (by decide) ?_ | refine WX.nil ?_ | refine W.seq ?_ | refine W.region ?_ | refine W.regionD ?_ | refine W.block ?_ | refine W.skip ?_ | refine W.exit ?_ | refine W.ret ?_ | refine W.condT rfl ?_ | refine W.condF rfl ?_ | refine WX.skip rfl ?_)
        refine WX.call tab_eq rfl rfl rfl rfl rfl (hs) rfl rfl ?_
        repeat (first | refine WX.step tab_eq rfl rfl trivial ?_ | refine WX.step tab_eq rfl rfl (by decide) ?_ | refine WX.nil ?_ | refine W.seq ?_ | refine W.region ?_ | refine W.regionD ?_ | refine W.block ?_ | refine W.skip ?_ | refine W.exit ?_ | refine W.ret ?_ | refine W.condT rfl ?_ | refine W.condF rfl ?_ | refine WX.skip rfl ?_)
        rfl
    · have b1 : decide (kind = 2) = false := b1
      rw [b1]
      repeat (first | refine WX.step tab_eq rfl rfl trivial ?_ | refine WX.step tab_eq rfl rfl (by decide) ?_ | refine WX.nil ?_ | refine W.seq ?_ | refine W.region ?_ | refine W.regionD ?_ | refine W.block ?_ | refine W.skip ?_ | refine W.exit ?_ | refine W.ret ?_ | refine W.condT rfl ?_ | refine W.condF rfl ?_ | refine WX.skip rfl ?_)
      rfl
theorem con25_0 (rel kind : Int) (ts : List Trm) (c m : Bs) (L : Bool) (hl : T (k + 8) 23 [.agg [.int .i64 kind, .imm 2 (trow ts), .str c]] = some (.bool L, []))
    (h1 : rel ≠ 1) (h2 : rel ≠ 2) (h3 : rel ≠ 3) (h4 : rel ≠ 4) (h5 : rel ≠ 5) : T (k + 8 + 1) 25 [.agg [.int .i64 rel, .int .i64 kind, .imm 2 (trow ts), .str c, .str m]] = some (.bool false, []) := by
  cases L
  · refine enter rfl func25 rfl (by decide) (by kernel_rfl) rfl rfl ?_
    repeat (first | refine WX.step tab_eq rfl rfl trivial ?_ | refine WX.step tab_eq rfl rfl (by decide) ?_ | refine WX.nil ?_ | refine W.seq ?_ | refine W.region ?_ | refine W.regionD ?_ | refine W.block ?_ | refine W.skip ?_ | refine W.exit ?_ | refine W.ret ?_ | refine W.condT rfl ?_ | refine W.condF rfl ?_ | refine WX.skip rfl ?_)
    refine WX.call tab_eq rfl rfl rfl rfl rfl (hl) rfl rfl ?_
    repeat (first | refine WX.step tab_eq rfl rfl trivial ?_ | refine WX.step tab_eq rfl rfl (by decide) ?_ | refine WX.nil ?_ | refine W.seq ?_ | refine W.region ?_ | refine W.regionD ?_ | refine W.block ?_ | refine W.skip ?_ | refine W.exit ?_ | refine W.ret ?_ | refine W.condT rfl ?_ | refine W.condF rfl ?_ | refine WX.skip rfl ?_)
    rfl
  · refine enter rfl func25 rfl (by decide) (by kernel_rfl) rfl rfl ?_
    repeat (first | refine WX.step tab_eq rfl rfl trivial ?_ | refine WX.step tab_eq rfl rfl (by decide) ?_ | refine WX.nil ?_ | refine W.seq ?_ | refine W.region ?_ | refine W.regionD ?_ | refine W.block ?_ | refine W.skip ?_ | refine W.exit ?_ | refine W.ret ?_ | refine W.condT rfl ?_ | refine W.condF rfl ?_ | refine WX.skip rfl ?_)
    refine WX.call tab_eq rfl rfl rfl rfl rfl (hl) rfl rfl ?_
    repeat (first | refine WX.step tab_eq rfl rfl trivial ?_ | refine WX.step tab_eq rfl rfl (by decide) ?_ | refine WX.nil ?_ | refine W.seq ?_ | refine W.region ?_ | refine W.regionD ?_ | refine W.block ?_ | refine W.skip ?_ | refine W.exit ?_ | refine W.ret ?_ | refine W.condT rfl ?_ | refine W.condF rfl ?_ | refine WX.skip rfl ?_)
    refine W.cond rfl (fun c1 => ?_) (fun c1 => ?_)
    · exact absurd (of_decide_eq_true c1) h1
    repeat (first | refine WX.step tab_eq rfl rfl trivial ?_ | refine WX.step tab_eq rfl rfl (by decide) ?_ | refine WX.nil ?_ | refine W.seq ?_ | refine W.region ?_ | refine W.regionD ?_ | refine W.block ?_ | refine W.skip ?_ | refine W.exit ?_ | refine W.ret ?_ | refine W.condT rfl ?_ | refine W.condF rfl ?_ | refine WX.skip rfl ?_)
    refine W.cond rfl (fun c2 => ?_) (fun c2 => ?_)
    · exact absurd (of_decide_eq_true c2) h2
    repeat (first | refine WX.step tab_eq rfl rfl trivial ?_ | refine WX.step tab_eq rfl rfl (by decide) ?_ | refine WX.nil ?_ | refine W.seq ?_ | refine W.region ?_ | refine W.regionD ?_ | refine W.block ?_ | refine W.skip ?_ | refine W.exit ?_ | refine W.ret ?_ | refine W.condT rfl ?_ | refine W.condF rfl ?_ | refine WX.skip rfl ?_)
    refine W.cond rfl (fun c3 => ?_) (fun c3 => ?_)
    · exact absurd (of_decide_eq_true c3) h3
    repeat (first | refine WX.step tab_eq rfl rfl trivial ?_ | refine WX.step tab_eq rfl rfl (by decide) ?_ | refine WX.nil ?_ | refine W.seq ?_ | refine W.region ?_ | refine W.regionD ?_ | refine W.block ?_ | refine W.skip ?_ | refine W.exit ?_ | refine W.ret ?_ | refine W.condT rfl ?_ | refine W.condF rfl ?_ | refine WX.skip rfl ?_)
    refine W.cond rfl (fun c4 => ?_) (fun c4 => ?_)
    · exact absurd (of_decide_eq_true c4) h4
    repeat (first | refine WX.step tab_eq rfl rfl trivial ?_ | refine WX.step tab_eq rfl rfl (by decide) ?_ | refine WX.nil ?_ | refine W.seq ?_ | refine W.region ?_ | refine W.regionD ?_ | refine W.block ?_ | refine W.skip ?_ | refine W.exit ?_ | refine W.ret ?_ | refine W.condT rfl ?_ | refine W.condF rfl ?_ | refine WX.skip rfl ?_)
    refine W.cond rfl (fun c5 => ?_) (fun c5 => ?_)
    · exact absurd (of_decide_eq_true c5) h5
    repeat (first | refine WX.step tab_eq rfl rfl trivial ?_ | refine WX.step tab_eq rfl rfl (by decide) ?_ | refine WX.nil ?_ | refine W.seq ?_ | refine W.region ?_ | refine W.regionD ?_ | refine W.block ?_ | refine W.skip ?_ | refine W.exit ?_ | refine W.ret ?_ | refine W.condT rfl ?_ | refine W.condF rfl ?_ | refine WX.skip rfl ?_)
    rfl
theorem con_T (rel kind : Int) (ts : List Trm) (c m : Bs) (hts : ∀ t ∈ ts, smallT t) (hn : ts.length < 1073741824) (hc : c.length < 150994900) (hm : m.length < 150994900) :
    T (k + 8) 24 [.agg [.int .i64 rel, .int .i64 kind, .imm 2 (trow ts), .str c, .str m]] = some (.bool (conB rel kind ts c m), []) := by
  have hl := linValid_T (k := k) kind ts c hts hn hc
  have hi := isInt_T (k := k + 3) m (by omega)
  rw [isI_q] at hi
  have hs : T (k + 7) 75 [.str m] = some (.int .i64 (sgq m), []) := sign_T (k := k) m hm
  unfold conB
  by_cases r1 : rel = 1 ∨ rel = 2 ∨ rel = 3
  · rw [if_pos r1]
    rcases r1 with rfl | rfl | rfl
    · exact con24_1 kind ts c m _ hl
    · exact con24_2 kind ts c m _ hl
    · exact con24_3 kind ts c m _ hl
  · rw [if_neg r1]
    by_cases r2 : rel = 4 ∨ rel = 5
    · rw [if_pos r2]
      rcases r2 with rfl | rfl
      · exact con24_4 kind ts c m _ _ _ hl hi hs
      · exact con24_5 kind ts c m _ _ _ hl hi hs
    · rw [if_neg r2]
      rw [not_or, not_or] at r1
      rw [not_or] at r2
      exact con24_0 rel kind ts c m _ hl r1.1 r1.2.1 r1.2.2 r2.1 r2.2
theorem rcon_T (rel kind : Int) (ts : List Trm) (c m : Bs) (hts : ∀ t ∈ ts, smallT t) (hn : ts.length < 1073741824) (hc : c.length < 150994900) (hm : m.length < 150994900) :
    T (k + 9) 25 [.agg [.int .i64 rel, .int .i64 kind, .imm 2 (trow ts), .str c, .str m]] = some (.bool (conB rel kind ts c m), []) := by
  have hl := rlinValid_T (k := k) kind ts c hts hn hc
  have hi : T (k + 8) 52 [.str m] = some (.bool (isIq m), []) := risInt_T (k := k + 1) m (by omega)
  have hs : T (k + 8) 76 [.str m] = some (.int .i64 (sgq m), []) := rsign_T (k := k + 1) m (by omega)
  unfold conB
  by_cases r1 : rel = 1 ∨ rel = 2 ∨ rel = 3
  · rw [if_pos r1]
    rcases r1 with rfl | rfl | rfl
    · exact con25_1 kind ts c m _ hl
    · exact con25_2 kind ts c m _ hl
    · exact con25_3 kind ts c m _ hl
  · rw [if_neg r1]
    by_cases r2 : rel = 4 ∨ rel = 5
    · rw [if_pos r2]
      rcases r2 with rfl | rfl
      · exact con25_4 kind ts c m _ _ _ hl hi hs
      · exact con25_5 kind ts c m _ _ _ hl hi hs
    · rw [if_neg r2]
      rw [not_or, not_or] at r1
      rw [not_or] at r2
      exact con25_0 rel kind ts c m _ hl r1.1 r1.2.1 r1.2.2 r2.1 r2.2
end Go.PE
namespace Go.PE
open Go.RowKit Go.Proofs.Tryz
set_option maxRecDepth 100000
variable {k : Nat}
theorem tdiv10 (n : Int) : (n.tdiv 10).natAbs = n.natAbs / 10 := Int.natAbs_tdiv n 10
theorem tmod10 (n : Int) : (n.tmod 10).natAbs = n.natAbs % 10 := Int.natAbs_tmod n 10
/-- The digits of the quotients that a loop still has to print. -/
def decZ (n : Nat) (t : Bs) : Bs := if n = 0 ∧ t ≠ [] then t else dec n ++ t
theorem decZ_step {n : Nat} {t : Bs} (h : ¬ (n = 0 ∧ t ≠ [])) : decZ (n / 10) (UInt8.ofNat (48 + n % 10) :: t) = decZ n t := by
  unfold decZ
  rw [if_neg h]
  by_cases h1 : n < 10
  · rw [if_pos ⟨Nat.div_eq_of_lt h1, by simp⟩, dec_small h1, Nat.mod_eq_of_lt h1]; rfl
  · rw [if_neg (by rintro ⟨h2, _⟩; omega), dec_big h1, List.append_assoc]; rfl
def mz (x : Int) (t : Bs) : Nat := if x.natAbs = 0 ∧ t ≠ [] then 0 else (dec x.natAbs).length + 1
theorem fromInt_T (n : Int) (h0 : -9223372036854775808 ≤ n) (h1 : n ≤ 9223372036854775807) : T (k + 1) 30 [.int .i64 n] = some (.str (rs n), []) := by
  have hrs : rs (n : Rat) = (if n < 0 then [45] else []) ++ dec n.natAbs := by
    unfold rs qt
    have e1 : (n : Rat).num = n := rfl
    have e2 : (n : Rat).den = 1 := rfl
    rw [e1, e2, if_pos rfl, List.append_nil]
    by_cases h : n < 0
    · have : n.natAbs ≠ 0 := by omega
      simp [h, this]
    · simp [h]
  rw [hrs]
  have hl := dec_len_le (n := n.natAbs) (k := 19) (by omega) (by omega)
  have hstep : ∀ (x : Int) (t : Bs), ¬ (x.natAbs = 0 ∧ t ≠ []) → mz (x.tdiv 10) (UInt8.ofNat (48 + x.natAbs % 10) :: t) < mz x t := by
    intro x t h
    unfold mz
    rw [if_neg h, tdiv10]
    by_cases h1 : x.natAbs < 10
    · rw [if_pos ⟨Nat.div_eq_of_lt h1, by simp⟩]; omega
    · rw [if_neg (by rintro ⟨h2, _⟩; omega), dec_big h1, List.length_append, List.length_singleton]; omega
  have hfin : ∀ (x : Int) (t : Bs), -9223372036854775808 ≤ x → x ≤ 9223372036854775807 → decZ x.natAbs t = dec n.natAbs → ¬ (x.natAbs = 0 ∧ t ≠ []) → t.length ≤ 20 := by
    intro x t _ _ h _
    have : t.length ≤ (decZ x.natAbs t).length := by
      unfold decZ; split <;> simp
    rw [h] at this; omega
  refine enter rfl func30 rfl (by decide) (by kernel_rfl) rfl rfl ?_
  repeat (first | refine WX.step tab_eq rfl rfl trivial ?_ | refine WX.step tab_eq rfl rfl (by decide) ?_ | refine WX.nil ?_ | refine W.seq ?_ | refine W.region ?_ | refine W.regionD ?_ | refine W.block ?_ | refine W.skip ?_ | refine W.exit ?_ | refine W.ret ?_ | refine W.condT rfl ?_ | refine W.condF rfl ?_ | refine WX.skip rfl ?_)
  refine W.loop (fun e m => ∃ (x : Int) (t : Bs), e = [(0, .int .i64 n), (3, .str t), (4, .int .i64 x)] ∧ -9223372036854775808 ≤ x ∧ x ≤ 9223372036854775807 ∧ decZ x.natAbs t = dec n.natAbs ∧ m = mz x t) (mz n []) ?_ ?_ ?_
  · refine ⟨n, [], rfl, h0, h1, ?_, rfl⟩
    unfold decZ; rw [if_neg (by simp), List.append_nil]
  · have : mz n [] ≤ 20 := by unfold mz; rw [if_neg (by simp)]; omega
    show _ < 4611686018427387904; omega
  · rintro e m ⟨x, t, rfl, hx0, hx1, hd, rfl⟩
    have hs := hstep x t
    have hf := hfin x t hx0 hx1 hd
    have hz := @decZ_step x.natAbs t
    have hr := tmod10 x
    have hq := tdiv10 x
    have hrl : -10 < x.tmod 10 ∧ x.tmod 10 < 10 := by omega
    have hql : -9223372036854775808 ≤ x.tdiv 10 ∧ x.tdiv 10 ≤ 9223372036854775807 := by omega
    repeat (first | refine WX.step tab_eq rfl rfl trivial ?_ | refine WX.step tab_eq rfl rfl (by decide) ?_ | refine WX.nil ?_ | refine W.seq ?_ | refine W.region ?_ | refine W.regionD ?_ | refine W.block ?_ | refine W.skip ?_ | refine W.exit ?_ | refine W.ret ?_ | refine W.condT rfl ?_ | refine W.condF rfl ?_ | refine WX.skip rfl ?_)
    refine WX.boolM rfl rfl (fun c1 => ?_) (fun c1 => ?_)
    · have c1 : x ≠ 0 := of_decide_eq_true c1
      have hg : ¬ (x.natAbs = 0 ∧ t ≠ []) := fun h => by omega
      repeat (first | refine WX.step tab_eq rfl rfl trivial ?_ | refine WX.step tab_eq rfl rfl (by decide) ?_ | refine WX.nil ?_ | refine W.seq ?_ | refine W.region ?_ | refine W.regionD ?_ | refine W.block ?_ | refine W.skip ?_ | refine W.exit ?_ | refine W.ret ?_ | refine W.condT rfl ?_ | refine W.condF rfl ?_ | refine WX.skip rfl ?_)
      have ht20 := hf hg
      refine W.cond rfl (fun c2 => ?_) (fun c2 => ?_)
      · have c2 := of_decide_eq_true c2
        repeat (first | refine WX.step tab_eq rfl rfl trivial ?_ | refine WX.step tab_eq rfl rfl (by decide) ?_ | refine WX.nil ?_ | refine W.seq ?_ | refine W.region ?_ | refine W.regionD ?_ | refine W.block ?_ | refine W.skip ?_ | refine W.exit ?_ | refine W.ret ?_ | refine W.condT rfl ?_ | refine W.condF rfl ?_ | refine WX.skip rfl ?_)
        rw [wrap_i64 (x := 0 - x.tmod 10) (by omega) (by omega), show (48 : Int) + (0 - x.tmod 10) = ((48 + x.natAbs % 10 : Nat) : Int) by omega]
        rw [wrap_i64 (x := ((48 + x.natAbs % 10 : Nat) : Int)) (by omega) (by omega), wrap_u8 (x := ((48 + x.natAbs % 10 : Nat) : Int)) (by omega) (by omega), ofNat48 (show x.natAbs % 10 < 10 by omega)]
        repeat (first | refine WX.step tab_eq rfl rfl trivial ?_ | refine WX.step tab_eq rfl rfl (by decide) ?_ | refine WX.nil ?_ | refine W.seq ?_ | refine W.region ?_ | refine W.regionD ?_ | refine W.block ?_ | refine W.skip ?_ | refine W.exit ?_ | refine W.ret ?_ | refine W.condT rfl ?_ | refine W.condF rfl ?_ | refine WX.skip rfl ?_)
        refine WX.convS tab_eq rfl rfl rfl rfl rfl (bytesOf_PV [UInt8.ofNat (48 + x.natAbs % 10)]) ?_
        repeat (first | refine WX.step tab_eq rfl rfl trivial ?_ | refine WX.step tab_eq rfl rfl (by decide) ?_ | refine WX.nil ?_ | refine W.seq ?_ | refine W.region ?_ | refine W.regionD ?_ | refine W.block ?_ | refine W.skip ?_ | refine W.exit ?_ | refine W.ret ?_ | refine W.condT rfl ?_ | refine W.condF rfl ?_ | refine WX.skip rfl ?_)
        refine WX.step tab_eq rfl rfl (by simp; omega) ?_
        repeat (first | refine WX.step tab_eq rfl rfl trivial ?_ | refine WX.step tab_eq rfl rfl (by decide) ?_ | refine WX.nil ?_ | refine W.seq ?_ | refine W.region ?_ | refine W.regionD ?_ | refine W.block ?_ | refine W.skip ?_ | refine W.exit ?_ | refine W.ret ?_ | refine W.condT rfl ?_ | refine W.condF rfl ?_ | refine WX.skip rfl ?_)
        rw [wrap_i64 (x := x.tdiv 10) (by omega) (by omega)]
        show ∃ m', _
        exact ⟨mz (x.tdiv 10) (UInt8.ofNat (48 + x.natAbs % 10) :: t), hs hg, x.tdiv 10, UInt8.ofNat (48 + x.natAbs % 10) :: t, rfl, by omega, by omega, by rw [hq, hz hg]; exact hd, rfl⟩
      · have c2 := of_decide_eq_false c2
        repeat (first | refine WX.step tab_eq rfl rfl trivial ?_ | refine WX.step tab_eq rfl rfl (by decide) ?_ | refine WX.nil ?_ | refine W.seq ?_ | refine W.region ?_ | refine W.regionD ?_ | refine W.block ?_ | refine W.skip ?_ | refine W.exit ?_ | refine W.ret ?_ | refine W.condT rfl ?_ | refine W.condF rfl ?_ | refine WX.skip rfl ?_)
        rw [show (48 : Int) + x.tmod 10 = ((48 + x.natAbs % 10 : Nat) : Int) by omega]
        rw [wrap_i64 (x := ((48 + x.natAbs % 10 : Nat) : Int)) (by omega) (by omega), wrap_u8 (x := ((48 + x.natAbs % 10 : Nat) : Int)) (by omega) (by omega), ofNat48 (show x.natAbs % 10 < 10 by omega)]
        repeat (first | refine WX.step tab_eq rfl rfl trivial ?_ | refine WX.step tab_eq rfl rfl (by decide) ?_ | refine WX.nil ?_ | refine W.seq ?_ | refine W.region ?_ | refine W.regionD ?_ | refine W.block ?_ | refine W.skip ?_ | refine W.exit ?_ | refine W.ret ?_ | refine W.condT rfl ?_ | refine W.condF rfl ?_ | refine WX.skip rfl ?_)
        refine WX.convS tab_eq rfl rfl rfl rfl rfl (bytesOf_PV [UInt8.ofNat (48 + x.natAbs % 10)]) ?_
        repeat (first | refine WX.step tab_eq rfl rfl trivial ?_ | refine WX.step tab_eq rfl rfl (by decide) ?_ | refine WX.nil ?_ | refine W.seq ?_ | refine W.region ?_ | refine W.regionD ?_ | refine W.block ?_ | refine W.skip ?_ | refine W.exit ?_ | refine W.ret ?_ | refine W.condT rfl ?_ | refine W.condF rfl ?_ | refine WX.skip rfl ?_)
        refine WX.step tab_eq rfl rfl (by simp; omega) ?_
        repeat (first | refine WX.step tab_eq rfl rfl trivial ?_ | refine WX.step tab_eq rfl rfl (by decide) ?_ | refine WX.nil ?_ | refine W.seq ?_ | refine W.region ?_ | refine W.regionD ?_ | refine W.block ?_ | refine W.skip ?_ | refine W.exit ?_ | refine W.ret ?_ | refine W.condT rfl ?_ | refine W.condF rfl ?_ | refine WX.skip rfl ?_)
        rw [wrap_i64 (x := x.tdiv 10) (by omega) (by omega)]
        show ∃ m', _
        exact ⟨mz (x.tdiv 10) (UInt8.ofNat (48 + x.natAbs % 10) :: t), hs hg, x.tdiv 10, UInt8.ofNat (48 + x.natAbs % 10) :: t, rfl, by omega, by omega, by rw [hq, hz hg]; exact hd, rfl⟩
    · have c1 : x = 0 := Decidable.not_not.1 (of_decide_eq_false c1)
      subst c1
      repeat (first | refine WX.step tab_eq rfl rfl trivial ?_ | refine WX.step tab_eq rfl rfl (by decide) ?_ | refine WX.nil ?_ | refine W.seq ?_ | refine W.region ?_ | refine W.regionD ?_ | refine W.block ?_ | refine W.skip ?_ | refine W.exit ?_ | refine W.ret ?_ | refine W.condT rfl ?_ | refine W.condF rfl ?_ | refine WX.skip rfl ?_)
      refine W.cond rfl (fun c3 => ?_) (fun c3 => ?_)
      · have c3 : t = [] := of_decide_eq_true c3
        have hg : ¬ ((0 : Int).natAbs = 0 ∧ t ≠ []) := fun h => h.2 c3
        have ht20 := hf hg
        repeat (first | refine WX.step tab_eq rfl rfl trivial ?_ | refine WX.step tab_eq rfl rfl (by decide) ?_ | refine WX.nil ?_ | refine W.seq ?_ | refine W.region ?_ | refine W.regionD ?_ | refine W.block ?_ | refine W.skip ?_ | refine W.exit ?_ | refine W.ret ?_ | refine W.condT rfl ?_ | refine W.condF rfl ?_ | refine WX.skip rfl ?_)
        rw [show (48 : Int) + (0 : Int).tmod 10 = ((48 + (0 : Int).natAbs % 10 : Nat) : Int) by omega]
        rw [wrap_i64 (x := ((48 + (0 : Int).natAbs % 10 : Nat) : Int)) (by omega) (by omega), wrap_u8 (x := ((48 + (0 : Int).natAbs % 10 : Nat) : Int)) (by omega) (by omega), ofNat48 (show (0 : Int).natAbs % 10 < 10 by omega)]
        repeat (first | refine WX.step tab_eq rfl rfl trivial ?_ | refine WX.step tab_eq rfl rfl (by decide) ?_ | refine WX.nil ?_ | refine W.seq ?_ | refine W.region ?_ | refine W.regionD ?_ | refine W.block ?_ | refine W.skip ?_ | refine W.exit ?_ | refine W.ret ?_ | refine W.condT rfl ?_ | refine W.condF rfl ?_ | refine WX.skip rfl ?_)
        refine WX.convS tab_eq rfl rfl rfl rfl rfl (bytesOf_PV [UInt8.ofNat (48 + (0 : Int).natAbs % 10)]) ?_
        repeat (first | refine WX.step tab_eq rfl rfl trivial ?_ | refine WX.step tab_eq rfl rfl (by decide) ?_ | refine WX.nil ?_ | refine W.seq ?_ | refine W.region ?_ | refine W.regionD ?_ | refine W.block ?_ | refine W.skip ?_ | refine W.exit ?_ | refine W.ret ?_ | refine W.condT rfl ?_ | refine W.condF rfl ?_ | refine WX.skip rfl ?_)
        refine WX.step tab_eq rfl rfl (by simp; omega) ?_
        repeat (first | refine WX.step tab_eq rfl rfl trivial ?_ | refine WX.step tab_eq rfl rfl (by decide) ?_ | refine WX.nil ?_ | refine W.seq ?_ | refine W.region ?_ | refine W.regionD ?_ | refine W.block ?_ | refine W.skip ?_ | refine W.exit ?_ | refine W.ret ?_ | refine W.condT rfl ?_ | refine W.condF rfl ?_ | refine WX.skip rfl ?_)
        rw [wrap_i64 (x := (0 : Int).tdiv 10) (by omega) (by omega)]
        show ∃ m', _
        exact ⟨mz ((0 : Int).tdiv 10) (UInt8.ofNat (48 + (0 : Int).natAbs % 10) :: t), hs hg, (0 : Int).tdiv 10, UInt8.ofNat (48 + (0 : Int).natAbs % 10) :: t, rfl, by omega, by omega, by rw [hq, hz hg]; exact hd, rfl⟩
      · have c3 : t ≠ [] := of_decide_eq_false c3
        have hd : t = dec n.natAbs := by rw [← hd]; unfold decZ; rw [if_pos ⟨rfl, c3⟩]
        subst hd
        repeat (first | refine WX.step tab_eq rfl rfl trivial ?_ | refine WX.step tab_eq rfl rfl (by decide) ?_ | refine WX.nil ?_ | refine W.seq ?_ | refine W.region ?_ | refine W.regionD ?_ | refine W.block ?_ | refine W.skip ?_ | refine W.exit ?_ | refine W.ret ?_ | refine W.condT rfl ?_ | refine W.condF rfl ?_ | refine WX.skip rfl ?_)
        refine W.cond rfl (fun c4 => ?_) (fun c4 => ?_)
        · have c4 := of_decide_eq_true c4
          rw [if_pos c4]
          repeat (first | refine WX.step tab_eq rfl rfl trivial ?_ | refine WX.step tab_eq rfl rfl (by decide) ?_ | refine WX.nil ?_ | refine W.seq ?_ | refine W.region ?_ | refine W.regionD ?_ | refine W.block ?_ | refine W.skip ?_ | refine W.exit ?_ | refine W.ret ?_ | refine W.condT rfl ?_ | refine W.condF rfl ?_ | refine WX.skip rfl ?_)
          refine WX.step tab_eq rfl rfl (by simp; omega) ?_
          repeat (first | refine WX.step tab_eq rfl rfl trivial ?_ | refine WX.step tab_eq rfl rfl (by decide) ?_ | refine WX.nil ?_ | refine W.seq ?_ | refine W.region ?_ | refine W.regionD ?_ | refine W.block ?_ | refine W.skip ?_ | refine W.exit ?_ | refine W.ret ?_ | refine W.condT rfl ?_ | refine W.condF rfl ?_ | refine WX.skip rfl ?_)
          rfl
        · have c4 := of_decide_eq_false c4
          rw [if_neg c4]
          repeat (first | refine WX.step tab_eq rfl rfl trivial ?_ | refine WX.step tab_eq rfl rfl (by decide) ?_ | refine WX.nil ?_ | refine W.seq ?_ | refine W.region ?_ | refine W.regionD ?_ | refine W.block ?_ | refine W.skip ?_ | refine W.exit ?_ | refine W.ret ?_ | refine W.condT rfl ?_ | refine W.condF rfl ?_ | refine WX.skip rfl ?_)
          rfl
end Go.PE
