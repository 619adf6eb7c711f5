/-
  A part of the proof that the law's function returns true and leaves its arguments as they were, for every input (no condition): own lemmas of the proof, in the order of their use.
-/
import Derived.Test.YtggpmnlmbfogeaaGreatDoorV20
set_option linter.all false
namespace Go.PE
open Go.RowKit Go.Proofs.Tryz
set_option maxRecDepth 100000
variable {k : Nat}
def chB (c : Int) : Bool := ((lt1 c || (decide (48 ≤ c) && decide (c ≤ 57))) || decide (c = 46)) || decide (c = 64)
def nameB (s : Bs) : Bool := decide (s ≠ []) && (decide (s.length ≤ 40) && (lt1 (s.getD 0 0).toNat && (!words.contains s && s.all fun c => chB c.toNat)))
theorem all_step {s : Bs} {i : Nat} {f : UInt8 → Bool} (hi : i < s.length) (h : (s.take i).all f = true) (h2 : f (s.getD i 0) = true) : (s.take (i + 1)).all f = true := by
  rw [take_dg hi, List.all_append, h, List.all_cons, h2]; rfl
theorem all_stop {s : Bs} {i : Nat} {f : UInt8 → Bool} (hi : i < s.length) (h2 : f (s.getD i 0) = false) : s.all f = false := by
  have hc : [s.getD i 0].all f = false := by
    show (f (s.getD i 0) && true) = false
    rw [h2]; rfl
  rw [← List.take_append_drop (i + 1) s, List.all_append, take_dg hi, List.all_append, hc, Bool.and_false, Bool.false_and]
theorem isName_T (s : Bs) (hs : s.length < 4611686018427387904) : T (k + 2) 71 [.str s] = some (.bool (nameB s), []) := by
  refine enter rfl func71 rfl (by decide) (by kernel_rfl) rfl rfl ?_
  repeat (first | refine WX.step tab_eq rfl rfl trivial ?_ | refine WX.step tab_eq rfl rfl (by decide) ?_ | refine WX.nil ?_ | refine W.seq ?_ | refine W.region ?_ | refine W.regionD ?_ | refine W.block ?_ | refine W.skip ?_ | refine W.exit ?_ | refine W.ret ?_ | refine W.condT rfl ?_ | refine W.condF rfl ?_ | refine WX.skip rfl ?_)
  refine WX.boolM rfl rfl (fun b1 => ?_) (fun b1 => ?_)
  · have b1 : s = [] := of_decide_eq_true b1
    subst b1
    repeat (first | refine WX.step tab_eq rfl rfl trivial ?_ | refine WX.step tab_eq rfl rfl (by decide) ?_ | refine WX.nil ?_ | refine W.seq ?_ | refine W.region ?_ | refine W.regionD ?_ | refine W.block ?_ | refine W.skip ?_ | refine W.exit ?_ | refine W.ret ?_ | refine W.condT rfl ?_ | refine W.condF rfl ?_ | refine WX.skip rfl ?_)
    rfl
  · have b1 : s ≠ [] := of_decide_eq_false b1
    have hp := List.length_pos_iff.2 b1
    repeat (first | refine WX.step tab_eq rfl rfl trivial ?_ | refine WX.step tab_eq rfl rfl (by decide) ?_ | refine WX.nil ?_ | refine W.seq ?_ | refine W.region ?_ | refine W.regionD ?_ | refine W.block ?_ | refine W.skip ?_ | refine W.exit ?_ | refine W.ret ?_ | refine W.condT rfl ?_ | refine W.condF rfl ?_ | refine WX.skip rfl ?_)
    refine WX.boolM rfl rfl (fun b2 => ?_) (fun b2 => ?_)
    · have b2 := of_decide_eq_true b2
      repeat (first | refine WX.step tab_eq rfl rfl trivial ?_ | refine WX.step tab_eq rfl rfl (by decide) ?_ | refine WX.nil ?_ | refine W.seq ?_ | refine W.region ?_ | refine W.regionD ?_ | refine W.block ?_ | refine W.skip ?_ | refine W.exit ?_ | refine W.ret ?_ | refine W.condT rfl ?_ | refine W.condF rfl ?_ | refine WX.skip rfl ?_)
      (refine (congrArg (fun b => some (PV.bool b, [])) ?_ : some (PV.bool _, []) = some (PV.bool _, [])); (unfold nameB; rw [decide_eq_false (p := s.length ≤ 40) (by omega)]; simp))
    · have b2 := of_decide_eq_false b2
      repeat (first | refine WX.step tab_eq rfl rfl trivial ?_ | refine WX.step tab_eq rfl rfl (by decide) ?_ | refine WX.nil ?_ | refine W.seq ?_ | refine W.region ?_ | refine W.regionD ?_ | refine W.block ?_ | refine W.skip ?_ | refine W.exit ?_ | refine W.ret ?_ | refine W.condT rfl ?_ | refine W.condF rfl ?_ | refine WX.skip rfl ?_)
      refine WX.step tab_eq rfl rfl (by constructor <;> omega) ?_
      repeat (first | refine WX.step tab_eq rfl rfl trivial ?_ | refine WX.step tab_eq rfl rfl (by decide) ?_ | refine WX.nil ?_ | refine W.seq ?_ | refine W.region ?_ | refine W.regionD ?_ | refine W.block ?_ | refine W.skip ?_ | refine W.exit ?_ | refine W.ret ?_ | refine W.condT rfl ?_ | refine W.condF rfl ?_ | refine WX.skip rfl ?_)
      refine WX.call tab_eq rfl rfl rfl rfl rfl (ltr_T (k := k) _) rfl rfl ?_
      repeat (first | refine WX.step tab_eq rfl rfl trivial ?_ | refine WX.step tab_eq rfl rfl (by decide) ?_ | refine WX.nil ?_ | refine W.seq ?_ | refine W.region ?_ | refine W.regionD ?_ | refine W.block ?_ | refine W.skip ?_ | refine W.exit ?_ | refine W.ret ?_ | refine W.condT rfl ?_ | refine W.condF rfl ?_ | refine WX.skip rfl ?_)
      refine WX.boolM rfl rfl (fun b3 => ?_) (fun b3 => ?_)
      · have b3 := not_true b3
        repeat (first | refine WX.step tab_eq rfl rfl trivial ?_ | refine WX.step tab_eq rfl rfl (by decide) ?_ | refine WX.nil ?_ | refine W.seq ?_ | refine W.region ?_ | refine W.regionD ?_ | refine W.block ?_ | refine W.skip ?_ | refine W.exit ?_ | refine W.ret ?_ | refine W.condT rfl ?_ | refine W.condF rfl ?_ | refine WX.skip rfl ?_)
        (refine (congrArg (fun b => some (PV.bool b, [])) ?_ : some (PV.bool _, []) = some (PV.bool _, [])); (unfold nameB; rw [show lt1 (s.getD 0 0).toNat = false from b3]; simp))
      · have b3 := not_false b3
        repeat (first | refine WX.step tab_eq rfl rfl trivial ?_ | refine WX.step tab_eq rfl rfl (by decide) ?_ | refine WX.nil ?_ | refine W.seq ?_ | refine W.region ?_ | refine W.regionD ?_ | refine W.block ?_ | refine W.skip ?_ | refine W.exit ?_ | refine W.ret ?_ | refine W.condT rfl ?_ | refine W.condF rfl ?_ | refine WX.skip rfl ?_)
        refine WX.call tab_eq rfl rfl rfl rfl rfl (word_T (k := k) s) rfl rfl ?_
        repeat (first | refine WX.step tab_eq rfl rfl trivial ?_ | refine WX.step tab_eq rfl rfl (by decide) ?_ | refine WX.nil ?_ | refine W.seq ?_ | refine W.region ?_ | refine W.regionD ?_ | refine W.block ?_ | refine W.skip ?_ | refine W.exit ?_ | refine W.ret ?_ | refine W.condT rfl ?_ | refine W.condF rfl ?_ | refine WX.skip rfl ?_)
        refine W.cond rfl (fun b4 => ?_) (fun b4 => ?_)
        · repeat (first | refine WX.step tab_eq rfl rfl trivial ?_ | refine WX.step tab_eq rfl rfl (by decide) ?_ | refine WX.nil ?_ | refine W.seq ?_ | refine W.region ?_ | refine W.regionD ?_ | refine W.block ?_ | refine W.skip ?_ | refine W.exit ?_ | refine W.ret ?_ | refine W.condT rfl ?_ | refine W.condF rfl ?_ | refine WX.skip rfl ?_)
          (refine (congrArg (fun b => some (PV.bool b, [])) ?_ : some (PV.bool _, []) = some (PV.bool _, [])); (unfold nameB; rw [show words.contains s = true from b4]; simp))
        · have hn : nameB s = s.all fun c => chB c.toNat := by
            unfold nameB; rw [show lt1 (s.getD 0 0).toNat = true from b3, show words.contains s = false from b4, decide_eq_true b1, decide_eq_true (show s.length ≤ 40 by omega)]; simp
          rw [hn]
          repeat (first | refine WX.step tab_eq rfl rfl trivial ?_ | refine WX.step tab_eq rfl rfl (by decide) ?_ | refine WX.nil ?_ | refine W.seq ?_ | refine W.region ?_ | refine W.regionD ?_ | refine W.block ?_ | refine W.skip ?_ | refine W.exit ?_ | refine W.ret ?_ | refine W.condT rfl ?_ | refine W.condF rfl ?_ | refine WX.skip rfl ?_)
          refine W.loop (fun e m => ∃ (i : Nat), e = [(0, .str s), (23, .int .i64 s.length), (24, .int .i64 i)] ∧ i ≤ s.length ∧ ((s.take i).all fun c => chB c.toNat) = true ∧ m = s.length - i) s.length ?_ ?_ ?_
          · exact ⟨0, rfl, by omega, rfl, by omega⟩
          · show _ < 4611686018427387904; omega
          · rintro e m ⟨i, rfl, hi, hd, rfl⟩
            repeat (first | refine WX.step tab_eq rfl rfl trivial ?_ | refine WX.step tab_eq rfl rfl (by decide) ?_ | refine WX.nil ?_ | refine W.seq ?_ | refine W.region ?_ | refine W.regionD ?_ | refine W.block ?_ | refine W.skip ?_ | refine W.exit ?_ | refine W.ret ?_ | refine W.condT rfl ?_ | refine W.condF rfl ?_ | refine WX.skip rfl ?_)
            refine W.cond rfl (fun hlt => ?_) (fun hlt => ?_)
            · have hlt := of_decide_eq_true hlt
              have hgo : chB (s.getD i 0).toNat = true → _ := all_step (s := s) (i := i) (f := fun c => chB c.toNat) (by omega) hd
              have hno : chB (s.getD i 0).toNat = false → _ := all_stop (s := s) (i := i) (f := fun c => chB c.toNat) (by omega)
              repeat (first | refine WX.step tab_eq rfl rfl trivial ?_ | refine WX.step tab_eq rfl rfl (by decide) ?_ | refine WX.nil ?_ | refine W.seq ?_ | refine W.region ?_ | refine W.regionD ?_ | refine W.block ?_ | refine W.skip ?_ | refine W.exit ?_ | refine W.ret ?_ | refine W.condT rfl ?_ | refine W.condF rfl ?_ | refine WX.skip rfl ?_)
              refine WX.step tab_eq rfl rfl (by constructor <;> omega) ?_
              rw [Int.toNat_natCast]
              repeat (first | refine WX.step tab_eq rfl rfl trivial ?_ | refine WX.step tab_eq rfl rfl (by decide) ?_ | refine WX.nil ?_ | refine W.seq ?_ | refine W.region ?_ | refine W.regionD ?_ | refine W.block ?_ | refine W.skip ?_ | refine W.exit ?_ | refine W.ret ?_ | refine W.condT rfl ?_ | refine W.condF rfl ?_ | refine WX.skip rfl ?_)
              generalize ((s.getD i 0).toNat : Int) = c at *
              refine WX.call tab_eq rfl rfl rfl rfl rfl (ltr_T (k := k) c) rfl rfl ?_
              repeat (first | refine WX.step tab_eq rfl rfl trivial ?_ | refine WX.step tab_eq rfl rfl (by decide) ?_ | refine WX.nil ?_ | refine W.seq ?_ | refine W.region ?_ | refine W.regionD ?_ | refine W.block ?_ | refine W.skip ?_ | refine W.exit ?_ | refine W.ret ?_ | refine W.condT rfl ?_ | refine W.condF rfl ?_ | refine WX.skip rfl ?_)
              repeat' (first | refine WX.step tab_eq rfl rfl trivial ?_ | refine WX.step tab_eq rfl rfl (by decide) ?_ | refine WX.nil ?_ | refine W.seq ?_ | refine W.region ?_ | refine W.block ?_ | refine W.skip ?_ | refine W.exit ?_ | refine W.ret ?_ | refine W.condT rfl ?_ | refine W.condF rfl ?_ | refine WX.skip rfl ?_ | refine WX.boolM rfl rfl (fun _ => ?_) (fun _ => ?_) | refine W.cond rfl (fun _ => ?_) (fun _ => ?_))
              all_goals first
                | (refine (congrArg (fun b => some (PV.bool b, [])) ?_ : some (PV.bool _, []) = some (PV.bool _, [])); exact (hno (by clear hgo hno; simp_all [chB] <;> omega)).symm)
                | (rw [wrap_i64 (x := (i : Int) + 1) (by omega) (by omega)]; show ∃ m', _; exact ⟨s.length - (i + 1), by omega, i + 1, rfl, by omega, hgo (by clear hgo hno; simp_all [chB] <;> omega), rfl⟩)
            · have hlt := of_decide_eq_false hlt
              rw [List.take_of_length_le (by omega)] at hd
              repeat (first | refine WX.step tab_eq rfl rfl trivial ?_ | refine WX.step tab_eq rfl rfl (by decide) ?_ | refine WX.nil ?_ | refine W.seq ?_ | refine W.region ?_ | refine W.regionD ?_ | refine W.block ?_ | refine W.skip ?_ | refine W.exit ?_ | refine W.ret ?_ | refine W.condT rfl ?_ | refine W.condF rfl ?_ | refine WX.skip rfl ?_)
              (refine (congrArg (fun b => some (PV.bool b, [])) ?_ : some (PV.bool _, []) = some (PV.bool _, [])); exact hd.symm)
theorem lt1_eq (c : Int) : lt1 c = (((lt0 c || decide (c = 95)) || decide (c = 36)) || decide (c = 33)) := rfl
theorem rname_T (s : Bs) (hs : s.length < 4611686018427387904) : T (k + 2) 74 [.str s] = some (.bool (nameB s), []) := by
  refine enter rfl func74 rfl (by decide) (by kernel_rfl) rfl rfl ?_
  repeat (first | refine WX.step tab_eq rfl rfl trivial ?_ | refine WX.step tab_eq rfl rfl (by decide) ?_ | refine WX.nil ?_ | refine W.seq ?_ | refine W.region ?_ | refine W.regionD ?_ | refine W.block ?_ | refine W.skip ?_ | refine W.exit ?_ | refine W.ret ?_ | refine W.condT rfl ?_ | refine W.condF rfl ?_ | refine WX.skip rfl ?_)
  refine WX.boolM rfl rfl (fun b1 => ?_) (fun b1 => ?_)
  · have b1 : s = [] := of_decide_eq_true b1
    subst b1
    repeat (first | refine WX.step tab_eq rfl rfl trivial ?_ | refine WX.step tab_eq rfl rfl (by decide) ?_ | refine WX.nil ?_ | refine W.seq ?_ | refine W.region ?_ | refine W.regionD ?_ | refine W.block ?_ | refine W.skip ?_ | refine W.exit ?_ | refine W.ret ?_ | refine W.condT rfl ?_ | refine W.condF rfl ?_ | refine WX.skip rfl ?_)
    rfl
  · have b1 : s ≠ [] := of_decide_eq_false b1
    have hp := List.length_pos_iff.2 b1
    repeat (first | refine WX.step tab_eq rfl rfl trivial ?_ | refine WX.step tab_eq rfl rfl (by decide) ?_ | refine WX.nil ?_ | refine W.seq ?_ | refine W.region ?_ | refine W.regionD ?_ | refine W.block ?_ | refine W.skip ?_ | refine W.exit ?_ | refine W.ret ?_ | refine W.condT rfl ?_ | refine W.condF rfl ?_ | refine WX.skip rfl ?_)
    refine WX.boolM rfl rfl (fun b2 => ?_) (fun b2 => ?_)
    · have b2 := of_decide_eq_true b2
      repeat (first | refine WX.step tab_eq rfl rfl trivial ?_ | refine WX.step tab_eq rfl rfl (by decide) ?_ | refine WX.nil ?_ | refine W.seq ?_ | refine W.region ?_ | refine W.regionD ?_ | refine W.block ?_ | refine W.skip ?_ | refine W.exit ?_ | refine W.ret ?_ | refine W.condT rfl ?_ | refine W.condF rfl ?_ | refine WX.skip rfl ?_)
      (refine (congrArg (fun b => some (PV.bool b, [])) ?_ : some (PV.bool _, []) = some (PV.bool _, [])); (unfold nameB; rw [decide_eq_false (p := s.length ≤ 40) (by omega)]; simp))
    · have b2 := of_decide_eq_false b2
      repeat (first | refine WX.step tab_eq rfl rfl trivial ?_ | refine WX.step tab_eq rfl rfl (by decide) ?_ | refine WX.nil ?_ | refine W.seq ?_ | refine W.region ?_ | refine W.regionD ?_ | refine W.block ?_ | refine W.skip ?_ | refine W.exit ?_ | refine W.ret ?_ | refine W.condT rfl ?_ | refine W.condF rfl ?_ | refine WX.skip rfl ?_)
      refine WX.call tab_eq rfl rfl rfl rfl rfl (reserved_T (k := k)) rfl rfl ?_
      repeat (first | refine WX.step tab_eq rfl rfl trivial ?_ | refine WX.step tab_eq rfl rfl (by decide) ?_ | refine WX.nil ?_ | refine W.seq ?_ | refine W.region ?_ | refine W.regionD ?_ | refine W.block ?_ | refine W.skip ?_ | refine W.exit ?_ | refine W.ret ?_ | refine W.condT rfl ?_ | refine W.condF rfl ?_ | refine WX.skip rfl ?_)
      refine WX.call tab_eq rfl rfl rfl rfl rfl (in_T (k := k) words s (by decide)) rfl rfl ?_
      repeat (first | refine WX.step tab_eq rfl rfl trivial ?_ | refine WX.step tab_eq rfl rfl (by decide) ?_ | refine WX.nil ?_ | refine W.seq ?_ | refine W.region ?_ | refine W.regionD ?_ | refine W.block ?_ | refine W.skip ?_ | refine W.exit ?_ | refine W.ret ?_ | refine W.condT rfl ?_ | refine W.condF rfl ?_ | refine WX.skip rfl ?_)
      refine W.cond rfl (fun b4 => ?_) (fun b4 => ?_)
      · repeat (first | refine WX.step tab_eq rfl rfl trivial ?_ | refine WX.step tab_eq rfl rfl (by decide) ?_ | refine WX.nil ?_ | refine W.seq ?_ | refine W.region ?_ | refine W.regionD ?_ | refine W.block ?_ | refine W.skip ?_ | refine W.exit ?_ | refine W.ret ?_ | refine W.condT rfl ?_ | refine W.condF rfl ?_ | refine WX.skip rfl ?_)
        (refine (congrArg (fun b => some (PV.bool b, [])) ?_ : some (PV.bool _, []) = some (PV.bool _, [])); (unfold nameB; rw [show words.contains s = true from b4]; simp))
      · have hn : nameB s = (lt1 (s.getD 0 0).toNat && s.all fun c => chB c.toNat) := by
          unfold nameB; rw [show words.contains s = false from b4, decide_eq_true b1, decide_eq_true (show s.length ≤ 40 by omega)]; simp
        rw [hn]
        repeat (first | refine WX.step tab_eq rfl rfl trivial ?_ | refine WX.step tab_eq rfl rfl (by decide) ?_ | refine WX.nil ?_ | refine W.seq ?_ | refine W.region ?_ | refine W.regionD ?_ | refine W.block ?_ | refine W.skip ?_ | refine W.exit ?_ | refine W.ret ?_ | refine W.condT rfl ?_ | refine W.condF rfl ?_ | refine WX.skip rfl ?_)
        refine W.loop (fun e m => ∃ (i : Nat), e = [(0, .str s), (3, .int .i64 i)] ∧ i ≤ s.length ∧ ((s.take i).all fun c => chB c.toNat) = true ∧ (i ≠ 0 → lt1 (s.getD 0 0).toNat = true) ∧ m = s.length - i) s.length ?_ ?_ ?_
        · exact ⟨0, rfl, by omega, rfl, fun h => absurd rfl h, by omega⟩
        · show _ < 4611686018427387904; omega
        · rintro e m ⟨i, rfl, hi, hd, h0, rfl⟩
          repeat (first | refine WX.step tab_eq rfl rfl trivial ?_ | refine WX.step tab_eq rfl rfl (by decide) ?_ | refine WX.nil ?_ | refine W.seq ?_ | refine W.region ?_ | refine W.regionD ?_ | refine W.block ?_ | refine W.skip ?_ | refine W.exit ?_ | refine W.ret ?_ | refine W.condT rfl ?_ | refine W.condF rfl ?_ | refine WX.skip rfl ?_)
          refine W.cond rfl (fun hlt => ?_) (fun hlt => ?_)
          · have hlt := of_decide_eq_true hlt
            have hgo : chB (s.getD i 0).toNat = true → _ := all_step (s := s) (i := i) (f := fun c => chB c.toNat) (by omega) hd
            have hno : chB (s.getD i 0).toNat = false → _ := all_stop (s := s) (i := i) (f := fun c => chB c.toNat) (by omega)
            have hz : i = 0 → lt1 (s.getD i 0).toNat = false → lt1 (s.getD 0 0).toNat = false := by rintro rfl h; exact h
            have hz2 : lt1 (s.getD i 0).toNat = true ∨ i ≠ 0 → lt1 (s.getD 0 0).toNat = true := by
              rintro (h | h)
              · by_cases e : i = 0
                · subst e; exact h
                · exact h0 e
              · exact h0 h
            generalize lt1 (s.getD 0 0).toNat = first at *
            repeat (first | refine WX.step tab_eq rfl rfl trivial ?_ | refine WX.step tab_eq rfl rfl (by decide) ?_ | refine WX.nil ?_ | refine W.seq ?_ | refine W.region ?_ | refine W.regionD ?_ | refine W.block ?_ | refine W.skip ?_ | refine W.exit ?_ | refine W.ret ?_ | refine W.condT rfl ?_ | refine W.condF rfl ?_ | refine WX.skip rfl ?_)
            refine WX.step tab_eq rfl rfl (by constructor <;> omega) ?_
            rw [Int.toNat_natCast]
            repeat (first | refine WX.step tab_eq rfl rfl trivial ?_ | refine WX.step tab_eq rfl rfl (by decide) ?_ | refine WX.nil ?_ | refine W.seq ?_ | refine W.region ?_ | refine W.regionD ?_ | refine W.block ?_ | refine W.skip ?_ | refine W.exit ?_ | refine W.ret ?_ | refine W.condT rfl ?_ | refine W.condF rfl ?_ | refine WX.skip rfl ?_)
            generalize ((s.getD i 0).toNat : Int) = c at *
            have hf : (i = 0 ∧ lt1 c = false) ∨ chB c = false → (first && s.all fun c => chB c.toNat) = false := by
              rintro (⟨h1, h2⟩ | h)
              · rw [hz h1 h2]; rfl
              · rw [hno h, Bool.and_false]
            refine WX.call tab_eq rfl rfl rfl rfl rfl (rltr_T (k := k) c) rfl rfl ?_
            repeat (first | refine WX.step tab_eq rfl rfl trivial ?_ | refine WX.step tab_eq rfl rfl (by decide) ?_ | refine WX.nil ?_ | refine W.seq ?_ | refine W.region ?_ | refine W.regionD ?_ | refine W.block ?_ | refine W.skip ?_ | refine W.exit ?_ | refine W.ret ?_ | refine W.condT rfl ?_ | refine W.condF rfl ?_ | refine WX.skip rfl ?_)
            repeat' (first | refine WX.step tab_eq rfl rfl trivial ?_ | refine WX.step tab_eq rfl rfl (by decide) ?_ | refine WX.nil ?_ | refine W.seq ?_ | refine W.region ?_ | refine W.block ?_ | refine W.skip ?_ | refine W.exit ?_ | refine W.ret ?_ | refine W.condT rfl ?_ | refine W.condF rfl ?_ | refine WX.skip rfl ?_ | refine WX.boolM rfl rfl (fun _ => ?_) (fun _ => ?_) | refine W.cond rfl (fun _ => ?_) (fun _ => ?_))
            all_goals first
              | (refine (congrArg (fun b => some (PV.bool b, [])) ?_ : some (PV.bool _, []) = some (PV.bool _, [])); (exact (hf (by clear hz hz2 hgo hno h0 hn hf; simp_all [chB, lt1_eq] <;> omega)).symm))
              | (rw [wrap_i64 (x := (i : Int) + 1) (by omega) (by omega)]; show ∃ m', _; exact ⟨s.length - (i + 1), by omega, i + 1, rfl, by omega, hgo (by clear hz hz2 hgo hno h0 hn hf; simp_all [chB, lt1_eq] <;> omega), fun _ => hz2 (by clear hz hz2 hgo hno h0 hn hf; simp_all [lt1_eq] <;> omega), rfl⟩)
          · have hlt := of_decide_eq_false hlt
            rw [List.take_of_length_le (by omega)] at hd
            repeat (first | refine WX.step tab_eq rfl rfl trivial ?_ | refine WX.step tab_eq rfl rfl (by decide) ?_ | refine WX.nil ?_ | refine W.seq ?_ | refine W.region ?_ | refine W.regionD ?_ | refine W.block ?_ | refine W.skip ?_ | refine W.exit ?_ | refine W.ret ?_ | refine W.condT rfl ?_ | refine W.condF rfl ?_ | refine WX.skip rfl ?_)
            (refine (congrArg (fun b => some (PV.bool b, [])) ?_ : some (PV.bool _, []) = some (PV.bool _, [])); (rw [hd, h0 (by omega)]; rfl))
end Go.PE
namespace Go.PE
open Go.RowKit Go.Proofs.Tryz
set_option maxRecDepth 100000
variable {k : Nat}
abbrev Trm := Bs × Bs
def trow (ts : List Trm) : List (List PV) := ts.map fun t => [.str t.1, .str t.2]
theorem trow_len (ts : List Trm) : (trow ts).length = ts.length := by simp [trow]
theorem trow_get {ts : List Trm} {i : Nat} (h : i < ts.length) : (trow ts)[i]? = some [.str (ts.getD i ([], [])).1, .str (ts.getD i ([], [])).2] := by
  unfold trow
  rw [List.getElem?_map, List.getElem?_eq_getElem h]
  simp [List.getD, List.getElem?_eq_getElem h]
def okI (ts : List Trm) (i : Nat) : Bool :=
  nameB (ts.getD i ([], [])).1 && ((rd (ts.getD i ([], [])).2).isSome && (decide ((ts.getD i ([], [])).2 ≠ [48]) && (decide (i = 0) || Op.bytesLess (ts.getD (i - 1) ([], [])).1 (ts.getD i ([], [])).1)))
def linB (kind : Int) (ts : List Trm) (c : Bs) : Bool := (decide (kind = 2) || decide (kind = 3)) && ((rd c).isSome && (List.range ts.length).all (okI ts))
def smallT (t : Trm) : Prop := t.1.length < 150994900 ∧ t.2.length < 150994900
theorem small_get {ts : List Trm} (h : ∀ t ∈ ts, smallT t) (i : Nat) : (ts.getD i ([], [])).1.length < 150994900 ∧ (ts.getD i ([], [])).2.length < 150994900 := by
  simp only [List.getD]
  cases e : ts[i]? with
  | none => simp
  | some t => exact h t (List.mem_of_getElem? e)
theorem range_stop {n i : Nat} {f : Nat → Bool} (hi : i < n) (h : f i = false) : (List.range n).all f = false := by
  rw [Bool.eq_false_iff]; intro e
  have := List.all_eq_true.1 e i (List.mem_range.2 hi)
  rw [h] at this; cases this
theorem range_step {i : Nat} {f : Nat → Bool} (h : (List.range i).all f = true) (h2 : f i = true) : (List.range (i + 1)).all f = true := by
  rw [List.range_succ, List.all_append, h, List.all_cons, h2]; rfl
theorem linLoop (kind : Int) (ts : List Trm) (c : Bs) (av : PV) (hts : ∀ t ∈ ts, smallT t) (hn : ts.length < 1073741824) (p : Nat) (e : List (Nat × PV)) (s1 : Stamp)
    (h1 : lookup e 1 = .box s1 [.int .i64 kind, .imm 2 (trow ts), .str c]) (h19 : lookup e 19 = .loc 1 s1 1) (h20 : lookup e 20 = .imm 2 (trow ts)) (h21 : lookup e 21 = .int .i64 ts.length) (h22 : lookup e 22 = .int .i64 0) (hb : boxPos [av] = []) :
    W prog (T (k + 6)) (keepF 22) (lvF 22) NN 0 (cs2 (cs1 (cs2 (cs2 (bodyOf f22))))) (p, e)
      (thenW (fun s' => W prog (T (k + 6)) (keepF 22) (lvF 22) NN 0 (cs2 (cs2 (cs2 (bodyOf f22)))) s' (endW (finishT tab f22.results.toList (boxPos [av])) (.bool ((List.range ts.length).all (okI ts)), [])))
        (endW (finishT tab f22.results.toList (boxPos [av])) (.bool ((List.range ts.length).all (okI ts)), []))) := by
  rw [hb]
  refine W.block ?_
  refine W.loop (fun e m => ∃ (i : Nat), e = [(1, .box (0, 0) [.int .i64 kind, .imm 2 (trow ts), .str c]), (19, .loc 1 (0, 0) 1), (20, .imm 2 (trow ts)), (21, .int .i64 ts.length), (22, .int .i64 i)] ∧ i ≤ ts.length ∧ (List.range i).all (okI ts) = true ∧ m = ts.length - i) ts.length ?_ ?_ ?_
  · refine ⟨0, ?_, by omega, rfl, by omega⟩
    have hl : [1, 19, 20, 21, 22].contains 1 = true := rfl
    show [(1, canonV _ _ (lookup e 1)), (19, canonV [1, 19, 20, 21, 22] (lookup e) (lookup e 19)), (20, canonV _ _ (lookup e 20)), (21, canonV _ _ (lookup e 21)), (22, canonV _ _ (lookup e 22))] = _
    rw [h1, h19, h20, h21, h22]
    simp only [canonV, hl, h1, if_true]
    rfl
  · show _ < 4611686018427387904; omega
  · rintro e m ⟨i, rfl, hi, hd, rfl⟩
    repeat (first | refine WX.step tab_eq rfl rfl trivial ?_ | refine WX.step tab_eq rfl rfl (by decide) ?_ | refine WX.nil ?_ | refine W.seq ?_ | refine W.region ?_ | refine W.regionD ?_ | refine W.block ?_ | refine W.skip ?_ | refine W.exit ?_ | refine W.ret ?_ | refine W.condT rfl ?_ | refine W.condF rfl ?_ | refine WX.skip rfl ?_)
    refine W.cond rfl (fun hlt => ?_) (fun hlt => ?_)
    · have hlt := of_decide_eq_true hlt
      have hg := trow_get (ts := ts) (i := i) (by omega)
      have hsm := small_get hts i
      have hgo := @range_step i (okI ts) hd
      have hno := @range_stop ts.length i (okI ts) (by omega)
      repeat (first | refine WX.step tab_eq rfl rfl trivial ?_ | refine WX.step tab_eq rfl rfl (by decide) ?_ | refine WX.nil ?_ | refine W.seq ?_ | refine W.region ?_ | refine W.regionD ?_ | refine W.block ?_ | refine W.skip ?_ | refine W.exit ?_ | refine W.ret ?_ | refine W.condT rfl ?_ | refine W.condF rfl ?_ | refine WX.skip rfl ?_)
      refine WX.idxImm tab_eq rfl rfl rfl rfl rfl rfl (by omega) (hg) ?_
      repeat (first | refine WX.step tab_eq rfl rfl trivial ?_ | refine WX.step tab_eq rfl rfl (by decide) ?_ | refine WX.nil ?_ | refine W.seq ?_ | refine W.region ?_ | refine W.regionD ?_ | refine W.block ?_ | refine W.skip ?_ | refine W.exit ?_ | refine W.ret ?_ | refine W.condT rfl ?_ | refine W.condF rfl ?_ | refine WX.skip rfl ?_)
      repeat (first | refine WX.stepD tab_eq rfl rfl trivial ?_ | refine WX.stepD tab_eq rfl rfl (by decide) ?_ | refine WX.skipD rfl ?_)
      have hok : okI ts i = (nameB (ts.getD i ([], [])).1 && ((rd (ts.getD i ([], [])).2).isSome && (decide ((ts.getD i ([], [])).2 ≠ [48]) && (decide (i = 0) || Op.bytesLess (ts.getD (i - 1) ([], [])).1 (ts.getD i ([], [])).1)))) := rfl
      generalize hnm : (ts.getD i ([], [])).1 = nm at *
      generalize hcf : (ts.getD i ([], [])).2 = cf at *
      refine WX.callD tab_eq rfl rfl rfl rfl rfl (isName_T (k := k + 4) nm (by omega)) rfl rfl ?_
      repeat (first | refine WX.stepD tab_eq rfl rfl trivial ?_ | refine WX.stepD tab_eq rfl rfl (by decide) ?_ | refine WX.skipD rfl ?_)
      refine WX.boolMD rfl rfl (fun b1 => ?_) (fun b1 => ?_)
      · have b1 := not_true b1
        repeat (first | refine WX.stepD tab_eq rfl rfl trivial ?_ | refine WX.stepD tab_eq rfl rfl (by decide) ?_ | refine WX.skipD rfl ?_)
        refine WX.nilD (by kernel_rfl) ?_
        repeat (first | refine WX.step tab_eq rfl rfl trivial ?_ | refine WX.step tab_eq rfl rfl (by decide) ?_ | refine WX.nil ?_ | refine W.seq ?_ | refine W.region ?_ | refine W.regionD ?_ | refine W.block ?_ | refine W.skip ?_ | refine W.exit ?_ | refine W.ret ?_ | refine W.condT rfl ?_ | refine W.condF rfl ?_ | refine WX.skip rfl ?_)
        (refine (congrArg (fun b => some (PV.bool b, [])) ?_ : some (PV.bool _, []) = some (PV.bool _, [])); exact (hno (by rw [hok, b1]; rfl)).symm)
      · have b1 := not_false b1
        repeat (first | refine WX.stepD tab_eq rfl rfl trivial ?_ | refine WX.stepD tab_eq rfl rfl (by decide) ?_ | refine WX.skipD rfl ?_)
        refine WX.callD tab_eq rfl rfl rfl rfl rfl (valid_T (k := k) cf (by omega)) rfl rfl ?_
        repeat (first | refine WX.stepD tab_eq rfl rfl trivial ?_ | refine WX.stepD tab_eq rfl rfl (by decide) ?_ | refine WX.skipD rfl ?_)
        refine WX.boolMD rfl rfl (fun b2 => ?_) (fun b2 => ?_)
        · have b2 := not_true b2
          repeat (first | refine WX.stepD tab_eq rfl rfl trivial ?_ | refine WX.stepD tab_eq rfl rfl (by decide) ?_ | refine WX.skipD rfl ?_)
          refine WX.nilD (by kernel_rfl) ?_
          repeat (first | refine WX.step tab_eq rfl rfl trivial ?_ | refine WX.step tab_eq rfl rfl (by decide) ?_ | refine WX.nil ?_ | refine W.seq ?_ | refine W.region ?_ | refine W.regionD ?_ | refine W.block ?_ | refine W.skip ?_ | refine W.exit ?_ | refine W.ret ?_ | refine W.condT rfl ?_ | refine W.condF rfl ?_ | refine WX.skip rfl ?_)
          (refine (congrArg (fun b => some (PV.bool b, [])) ?_ : some (PV.bool _, []) = some (PV.bool _, [])); exact (hno (by rw [hok, b2, Bool.false_and, Bool.and_false])).symm)
        · have b2 := not_false b2
          repeat (first | refine WX.stepD tab_eq rfl rfl trivial ?_ | refine WX.stepD tab_eq rfl rfl (by decide) ?_ | refine WX.skipD rfl ?_)
          refine WX.boolMD rfl rfl (fun b3 => ?_) (fun b3 => ?_)
          · have b3 : cf = [48] := of_decide_eq_true b3
            repeat (first | refine WX.stepD tab_eq rfl rfl trivial ?_ | refine WX.stepD tab_eq rfl rfl (by decide) ?_ | refine WX.skipD rfl ?_)
            refine WX.nilD (by kernel_rfl) ?_
            repeat (first | refine WX.step tab_eq rfl rfl trivial ?_ | refine WX.step tab_eq rfl rfl (by decide) ?_ | refine WX.nil ?_ | refine W.seq ?_ | refine W.region ?_ | refine W.regionD ?_ | refine W.block ?_ | refine W.skip ?_ | refine W.exit ?_ | refine W.ret ?_ | refine W.condT rfl ?_ | refine W.condF rfl ?_ | refine WX.skip rfl ?_)
            (refine (congrArg (fun b => some (PV.bool b, [])) ?_ : some (PV.bool _, []) = some (PV.bool _, [])); exact (hno (by rw [hok, b3]; simp)).symm)
          · have b3 : cf ≠ [48] := of_decide_eq_false b3
            rw [b1, b2, decide_eq_true b3, Bool.true_and, Bool.true_and, Bool.true_and] at hok
            repeat (first | refine WX.stepD tab_eq rfl rfl trivial ?_ | refine WX.stepD tab_eq rfl rfl (by decide) ?_ | refine WX.skipD rfl ?_)
            refine WX.boolMD rfl rfl (fun b4 => ?_) (fun b4 => ?_)
            · have b4 : 0 < i := by have := of_decide_eq_true b4; omega
              have hg2 := trow_get (ts := ts) (i := i - 1) (by omega)
              repeat (first | refine WX.stepD tab_eq rfl rfl trivial ?_ | refine WX.stepD tab_eq rfl rfl (by decide) ?_ | refine WX.skipD rfl ?_)
              rw [wrap_i64 (x := (i : Int) - 1) (by omega) (by omega)]
              refine WX.idxImmD tab_eq rfl rfl rfl rfl rfl rfl (by omega) (by rw [show ((i : Int) - 1).toNat = i - 1 by omega]; exact hg2) ?_
              repeat (first | refine WX.stepD tab_eq rfl rfl trivial ?_ | refine WX.stepD tab_eq rfl rfl (by decide) ?_ | refine WX.skipD rfl ?_)
              refine WX.nilD (by kernel_rfl) ?_
              rw [decide_eq_false (show ¬ i = 0 by omega), Bool.false_or] at hok
              generalize (ts.getD (i - 1) ([], [])).1 = pn at *
              refine W.cond rfl (fun b5 => ?_) (fun b5 => ?_)
              · have b5 := not_true b5
                repeat (first | refine WX.step tab_eq rfl rfl trivial ?_ | refine WX.step tab_eq rfl rfl (by decide) ?_ | refine WX.nil ?_ | refine W.seq ?_ | refine W.region ?_ | refine W.regionD ?_ | refine W.block ?_ | refine W.skip ?_ | refine W.exit ?_ | refine W.ret ?_ | refine W.condT rfl ?_ | refine W.condF rfl ?_ | refine WX.skip rfl ?_)
                (refine (congrArg (fun b => some (PV.bool b, [])) ?_ : some (PV.bool _, []) = some (PV.bool _, [])); exact (hno (by rw [hok]; exact b5)).symm)
              · have b5 := not_false b5
                repeat (first | refine WX.step tab_eq rfl rfl trivial ?_ | refine WX.step tab_eq rfl rfl (by decide) ?_ | refine WX.nil ?_ | refine W.seq ?_ | refine W.region ?_ | refine W.regionD ?_ | refine W.block ?_ | refine W.skip ?_ | refine W.exit ?_ | refine W.ret ?_ | refine W.condT rfl ?_ | refine W.condF rfl ?_ | refine WX.skip rfl ?_)
                rw [wrap_i64 (x := (i : Int) + 1) (by omega) (by omega)]
                show ∃ m', _
                exact ⟨ts.length - (i + 1), by omega, i + 1, rfl, by omega, hgo (by rw [hok]; exact b5), rfl⟩
            · have b4 : i = 0 := by have := of_decide_eq_false b4; omega
              repeat (first | refine WX.stepD tab_eq rfl rfl trivial ?_ | refine WX.stepD tab_eq rfl rfl (by decide) ?_ | refine WX.skipD rfl ?_)
              refine WX.nilD (by kernel_rfl) ?_
              repeat (first | refine WX.step tab_eq rfl rfl trivial ?_ | refine WX.step tab_eq rfl rfl (by decide) ?_ | refine WX.nil ?_ | refine W.seq ?_ | refine W.region ?_ | refine W.regionD ?_ | refine W.block ?_ | refine W.skip ?_ | refine W.exit ?_ | refine W.ret ?_ | refine W.condT rfl ?_ | refine W.condF rfl ?_ | refine WX.skip rfl ?_)
              rw [wrap_i64 (x := (i : Int) + 1) (by omega) (by omega)]
              show ∃ m', _
              exact ⟨ts.length - (i + 1), by omega, i + 1, rfl, by omega, hgo (by rw [hok, decide_eq_true b4]; rfl), rfl⟩
    · have hlt := of_decide_eq_false hlt
      have hie : i = ts.length := by omega
      subst hie
      repeat (first | refine WX.step tab_eq rfl rfl trivial ?_ | refine WX.step tab_eq rfl rfl (by decide) ?_ | refine WX.nil ?_ | refine W.seq ?_ | refine W.region ?_ | refine W.regionD ?_ | refine W.block ?_ | refine W.skip ?_ | refine W.exit ?_ | refine W.ret ?_ | refine W.condT rfl ?_ | refine W.condF rfl ?_ | refine WX.skip rfl ?_)
      (refine (congrArg (fun b => some (PV.bool b, [])) ?_ : some (PV.bool _, []) = some (PV.bool _, [])); exact hd.symm)
theorem linValid_T (kind : Int) (ts : List Trm) (c : Bs) (hts : ∀ t ∈ ts, smallT t) (hn : ts.length < 1073741824) (hc : c.length < 150994900) :
    T (k + 7) 22 [.agg [.int .i64 kind, .imm 2 (trow ts), .str c]] = some (.bool (linB kind ts c), []) := by
  have hv := valid_T (k := k) c hc
  unfold linB
  by_cases hk : kind = 2 ∨ kind = 3
  · have hk1 : (decide (kind = 2) || decide (kind = 3)) = true := by rcases hk with rfl | rfl <;> rfl
    rw [hk1, Bool.true_and]
    cases hr : (rd c).isSome
    · rw [hr] at hv
      rcases hk with rfl | rfl
      · refine enter rfl func22 rfl (by decide) (by kernel_rfl) rfl rfl ?_
        repeat (first | refine WX.step tab_eq rfl rfl trivial ?_ | refine WX.step tab_eq rfl rfl (by decide) ?_ | refine WX.nil ?_ | refine W.seq ?_ | refine W.region ?_ | refine W.regionD ?_ | refine W.block ?_ | refine W.skip ?_ | refine W.exit ?_ | refine W.ret ?_ | refine W.condT rfl ?_ | refine W.condF rfl ?_ | refine WX.skip rfl ?_)
        refine WX.call tab_eq rfl rfl rfl rfl rfl (hv) rfl rfl ?_
        repeat (first | refine WX.step tab_eq rfl rfl trivial ?_ | refine WX.step tab_eq rfl rfl (by decide) ?_ | refine WX.nil ?_ | refine W.seq ?_ | refine W.region ?_ | refine W.regionD ?_ | refine W.block ?_ | refine W.skip ?_ | refine W.exit ?_ | refine W.ret ?_ | refine W.condT rfl ?_ | refine W.condF rfl ?_ | refine WX.skip rfl ?_)
        rfl
      · refine enter rfl func22 rfl (by decide) (by kernel_rfl) rfl rfl ?_
        repeat (first | refine WX.step tab_eq rfl rfl trivial ?_ | refine WX.step tab_eq rfl rfl (by decide) ?_ | refine WX.nil ?_ | refine W.seq ?_ | refine W.region ?_ | refine W.regionD ?_ | refine W.block ?_ | refine W.skip ?_ | refine W.exit ?_ | refine W.ret ?_ | refine W.condT rfl ?_ | refine W.condF rfl ?_ | refine WX.skip rfl ?_)
        refine WX.call tab_eq rfl rfl rfl rfl rfl (hv) rfl rfl ?_
        repeat (first | refine WX.step tab_eq rfl rfl trivial ?_ | refine WX.step tab_eq rfl rfl (by decide) ?_ | refine WX.nil ?_ | refine W.seq ?_ | refine W.region ?_ | refine W.regionD ?_ | refine W.block ?_ | refine W.skip ?_ | refine W.exit ?_ | refine W.ret ?_ | refine W.condT rfl ?_ | refine W.condF rfl ?_ | refine WX.skip rfl ?_)
        rfl
    · rw [hr] at hv
      rcases hk with rfl | rfl
      · refine enter rfl func22 rfl (by decide) (by kernel_rfl) rfl rfl ?_
        refine W.seq ?_
        refine W.region ?_
        repeat (first | refine WX.step tab_eq rfl rfl trivial ?_ | refine WX.step tab_eq rfl rfl (by decide) ?_ | refine WX.nil ?_ | refine WX.skip rfl ?_)
        refine W.seq ?_
        refine W.seq ?_
        refine W.region ?_
        repeat (first | refine WX.step tab_eq rfl rfl trivial ?_ | refine WX.step tab_eq rfl rfl (by decide) ?_ | refine WX.nil ?_ | refine WX.skip rfl ?_)
        refine WX.call tab_eq rfl rfl rfl rfl rfl (hv) rfl rfl ?_
        repeat (first | refine WX.step tab_eq rfl rfl trivial ?_ | refine WX.step tab_eq rfl rfl (by decide) ?_ | refine WX.nil ?_ | refine WX.skip rfl ?_)
        refine W.condF rfl ?_
        refine W.skip ?_
        refine W.seq ?_
        refine W.seq ?_
        refine W.region ?_
        repeat (first | refine WX.step tab_eq rfl rfl trivial ?_ | refine WX.step tab_eq rfl rfl (by decide) ?_ | refine WX.nil ?_ | refine WX.skip rfl ?_)
        rw [trow_len]
        refine linLoop (k := k) 2 ts c _ hts hn _ _ ?s1 ?h1 ?h19 ?h20 ?h21 ?h22 rfl
        case h1 => exact rfl
        case h19 => exact rfl
        case h20 => exact rfl
        case h21 => exact rfl
        case h22 => exact rfl
      · refine enter rfl func22 rfl (by decide) (by kernel_rfl) rfl rfl ?_
        refine W.seq ?_
        refine W.region ?_
        repeat (first | refine WX.step tab_eq rfl rfl trivial ?_ | refine WX.step tab_eq rfl rfl (by decide) ?_ | refine WX.nil ?_ | refine WX.skip rfl ?_)
        refine W.seq ?_
        refine W.seq ?_
        refine W.region ?_
        repeat (first | refine WX.step tab_eq rfl rfl trivial ?_ | refine WX.step tab_eq rfl rfl (by decide) ?_ | refine WX.nil ?_ | refine WX.skip rfl ?_)
        refine WX.call tab_eq rfl rfl rfl rfl rfl (hv) rfl rfl ?_
        repeat (first | refine WX.step tab_eq rfl rfl trivial ?_ | refine WX.step tab_eq rfl rfl (by decide) ?_ | refine WX.nil ?_ | refine WX.skip rfl ?_)
        refine W.condF rfl ?_
        refine W.skip ?_
        refine W.seq ?_
        refine W.seq ?_
        refine W.region ?_
        repeat (first | refine WX.step tab_eq rfl rfl trivial ?_ | refine WX.step tab_eq rfl rfl (by decide) ?_ | refine WX.nil ?_ | refine WX.skip rfl ?_)
        rw [trow_len]
        refine linLoop (k := k) 3 ts c _ hts hn _ _ ?s1 ?h1 ?h19 ?h20 ?h21 ?h22 rfl
        case h1 => exact rfl
        case h19 => exact rfl
        case h20 => exact rfl
        case h21 => exact rfl
        case h22 => exact rfl
  · have hk1 : (decide (kind = 2) || decide (kind = 3)) = false := by
      rw [not_or] at hk; simp [hk.1, hk.2]
    rw [not_or] at hk
    rw [hk1, Bool.false_and]
    refine enter rfl func22 rfl (by decide) (by kernel_rfl) rfl rfl ?_
    repeat (first | refine WX.step tab_eq rfl rfl trivial ?_ | refine WX.step tab_eq rfl rfl (by decide) ?_ | refine WX.nil ?_ | refine W.seq ?_ | refine W.region ?_ | refine W.regionD ?_ | refine W.block ?_ | refine W.skip ?_ | refine W.exit ?_ | refine W.ret ?_ | refine W.condT rfl ?_ | refine W.condF rfl ?_ | refine WX.skip rfl ?_)
    refine WX.boolM rfl rfl (fun b1 => ?_) (fun b1 => ?_)
    · repeat (first | refine WX.step tab_eq rfl rfl trivial ?_ | refine WX.step tab_eq rfl rfl (by decide) ?_ | refine WX.nil ?_ | refine W.seq ?_ | refine W.region ?_ | refine W.regionD ?_ | refine W.block ?_ | refine W.skip ?_ | refine W.exit ?_ | refine W.ret ?_ | refine W.condT rfl ?_ | refine W.condF rfl ?_ | refine WX.skip rfl ?_)
      refine WX.boolM rfl rfl (fun b2 => ?_) (fun b2 => ?_)
      · repeat (first | refine WX.step tab_eq rfl rfl trivial ?_ | refine WX.step tab_eq rfl rfl (by decide) ?_ | refine WX.nil ?_ | refine W.seq ?_ | refine W.region ?_ | refine W.regionD ?_ | refine W.block ?_ | refine W.skip ?_ | refine W.exit ?_ | refine W.ret ?_ | refine W.condT rfl ?_ | refine W.condF rfl ?_ | refine WX.skip rfl ?_)
        rfl
      · exact absurd b2 (by simp [hk.2])
    · exact absurd b1 (by simp [hk.1])
end Go.PE
namespace Go.PE
open Go.RowKit Go.Proofs.Tryz
set_option maxRecDepth 100000
variable {k : Nat}
theorem numeric_T (c : Int) : T (k + 1) 72 [.int .i64 c] = some (.bool (decide (c = 2) || decide (c = 3)), []) := by
  refine enter rfl func72 rfl (by decide) (by kernel_rfl) rfl rfl ?_
  repeat' (first | refine WX.step tab_eq rfl rfl trivial ?_ | refine WX.step tab_eq rfl rfl (by decide) ?_ | refine WX.nil ?_ | refine W.seq ?_ | refine W.region ?_ | refine W.block ?_ | refine W.skip ?_ | refine W.exit ?_ | refine W.ret ?_ | refine W.condT rfl ?_ | refine W.condF rfl ?_ | refine WX.skip rfl ?_ | refine WX.boolM rfl rfl (fun _ => ?_) (fun _ => ?_) | refine W.cond rfl (fun _ => ?_) (fun _ => ?_))
  all_goals (refine (congrArg (fun b => some (PV.bool b, [])) ?_ : some (PV.bool _, []) = some (PV.bool _, [])); simp_all)
theorem rlinLoop (kind : Int) (ts : List Trm) (c : Bs) (av : PV) (hts : ∀ t ∈ ts, smallT t) (hn : ts.length < 1073741824) (p : Nat) (e : List (Nat × PV)) (s1 : Stamp)
    (h1 : lookup e 1 = .box s1 [.int .i64 kind, .imm 2 (trow ts), .str c]) (h3 : lookup e 3 = .int .i64 0) (hb : boxPos [av] = []) :
    W prog (T (k + 7)) (keepF 23) (lvF 23) NN 0 (cs2 (cs1 (cs2 (cs2 (bodyOf f23))))) (p, e)
      (thenW (fun s' => W prog (T (k + 7)) (keepF 23) (lvF 23) NN 0 (cs2 (cs2 (cs2 (bodyOf f23)))) s' (endW (finishT tab f23.results.toList (boxPos [av])) (.bool ((List.range ts.length).all (okI ts)), [])))
        (endW (finishT tab f23.results.toList (boxPos [av])) (.bool ((List.range ts.length).all (okI ts)), []))) := by
  rw [hb]
  refine W.block ?_
  refine W.loop (fun e m => ∃ (i : Nat), e = [(1, .box (0, 0) [.int .i64 kind, .imm 2 (trow ts), .str c]), (3, .int .i64 i)] ∧ i ≤ ts.length ∧ (List.range i).all (okI ts) = true ∧ m = ts.length - i) ts.length ?_ ?_ ?_
  · refine ⟨0, ?_, by omega, rfl, by omega⟩
    show [(1, canonV _ _ (lookup e 1)), (3, canonV _ _ (lookup e 3))] = _
    rw [h1, h3]
    rfl
  · show _ < 4611686018427387904; omega
  · rintro e m ⟨i, rfl, hi, hd, rfl⟩
    repeat (first | refine WX.step tab_eq rfl rfl trivial ?_ | refine WX.step tab_eq rfl rfl (by decide) ?_ | refine WX.nil ?_ | refine W.seq ?_ | refine W.region ?_ | refine W.regionD ?_ | refine W.block ?_ | refine W.skip ?_ | refine W.exit ?_ | refine W.ret ?_ | refine W.condT rfl ?_ | refine W.condF rfl ?_ | refine WX.skip rfl ?_)
    rw [trow_len]
    refine W.cond rfl (fun hlt => ?_) (fun hlt => ?_)
    · have hlt := of_decide_eq_true hlt
      have hg := trow_get (ts := ts) (i := i) (by omega)
      have hsm := small_get hts i
      have hgo := @range_step i (okI ts) hd
      have hno := @range_stop ts.length i (okI ts) (by omega)
      have hok : okI ts i = (nameB (ts.getD i ([], [])).1 && ((rd (ts.getD i ([], [])).2).isSome && (decide ((ts.getD i ([], [])).2 ≠ [48]) && (decide (i = 0) || Op.bytesLess (ts.getD (i - 1) ([], [])).1 (ts.getD i ([], [])).1)))) := rfl
      generalize hnm : (ts.getD i ([], [])).1 = nm at *
      generalize hcf : (ts.getD i ([], [])).2 = cf at *
      repeat (first | refine WX.step tab_eq rfl rfl trivial ?_ | refine WX.step tab_eq rfl rfl (by decide) ?_ | refine WX.nil ?_ | refine W.seq ?_ | refine W.region ?_ | refine W.regionD ?_ | refine W.block ?_ | refine W.skip ?_ | refine W.exit ?_ | refine W.ret ?_ | refine W.condT rfl ?_ | refine W.condF rfl ?_ | refine WX.skip rfl ?_)
      repeat (first | refine WX.stepD tab_eq rfl rfl trivial ?_ | refine WX.stepD tab_eq rfl rfl (by decide) ?_ | refine WX.skipD rfl ?_)
      refine WX.idxImmD tab_eq rfl rfl rfl rfl rfl rfl (by omega) (hg) ?_
      repeat (first | refine WX.stepD tab_eq rfl rfl trivial ?_ | refine WX.stepD tab_eq rfl rfl (by decide) ?_ | refine WX.skipD rfl ?_)
      refine WX.callD tab_eq rfl rfl rfl rfl rfl (rname_T (k := k + 5) nm (by omega)) rfl rfl ?_
      repeat (first | refine WX.stepD tab_eq rfl rfl trivial ?_ | refine WX.stepD tab_eq rfl rfl (by decide) ?_ | refine WX.skipD rfl ?_)
      refine WX.boolMD rfl rfl (fun b1 => ?_) (fun b1 => ?_)
      · have b1 := not_true b1
        repeat (first | refine WX.stepD tab_eq rfl rfl trivial ?_ | refine WX.stepD tab_eq rfl rfl (by decide) ?_ | refine WX.skipD rfl ?_)
        refine WX.nilD (by kernel_rfl) ?_
        repeat (first | refine WX.step tab_eq rfl rfl trivial ?_ | refine WX.step tab_eq rfl rfl (by decide) ?_ | refine WX.nil ?_ | refine W.seq ?_ | refine W.region ?_ | refine W.regionD ?_ | refine W.block ?_ | refine W.skip ?_ | refine W.exit ?_ | refine W.ret ?_ | refine W.condT rfl ?_ | refine W.condF rfl ?_ | refine WX.skip rfl ?_)
        (refine (congrArg (fun b => some (PV.bool b, [])) ?_ : some (PV.bool _, []) = some (PV.bool _, [])); exact (hno (by rw [hok, b1]; rfl)).symm)
      · have b1 := not_false b1
        repeat (first | refine WX.stepD tab_eq rfl rfl trivial ?_ | refine WX.stepD tab_eq rfl rfl (by decide) ?_ | refine WX.skipD rfl ?_)
        refine WX.idxImmD tab_eq rfl rfl rfl rfl rfl rfl (by omega) (hg) ?_
        repeat (first | refine WX.stepD tab_eq rfl rfl trivial ?_ | refine WX.stepD tab_eq rfl rfl (by decide) ?_ | refine WX.skipD rfl ?_)
        refine WX.callD tab_eq rfl rfl rfl rfl rfl (rvalid_T (k := k) cf (by omega)) rfl rfl ?_
        repeat (first | refine WX.stepD tab_eq rfl rfl trivial ?_ | refine WX.stepD tab_eq rfl rfl (by decide) ?_ | refine WX.skipD rfl ?_)
        refine WX.boolMD rfl rfl (fun b2 => ?_) (fun b2 => ?_)
        · have b2 := not_true b2
          repeat (first | refine WX.stepD tab_eq rfl rfl trivial ?_ | refine WX.stepD tab_eq rfl rfl (by decide) ?_ | refine WX.skipD rfl ?_)
          refine WX.nilD (by kernel_rfl) ?_
          repeat (first | refine WX.step tab_eq rfl rfl trivial ?_ | refine WX.step tab_eq rfl rfl (by decide) ?_ | refine WX.nil ?_ | refine W.seq ?_ | refine W.region ?_ | refine W.regionD ?_ | refine W.block ?_ | refine W.skip ?_ | refine W.exit ?_ | refine W.ret ?_ | refine W.condT rfl ?_ | refine W.condF rfl ?_ | refine WX.skip rfl ?_)
          (refine (congrArg (fun b => some (PV.bool b, [])) ?_ : some (PV.bool _, []) = some (PV.bool _, [])); exact (hno (by rw [hok, b2, Bool.false_and, Bool.and_false])).symm)
        · have b2 := not_false b2
          repeat (first | refine WX.stepD tab_eq rfl rfl trivial ?_ | refine WX.stepD tab_eq rfl rfl (by decide) ?_ | refine WX.skipD rfl ?_)
          refine WX.idxImmD tab_eq rfl rfl rfl rfl rfl rfl (by omega) (hg) ?_
          repeat (first | refine WX.stepD tab_eq rfl rfl trivial ?_ | refine WX.stepD tab_eq rfl rfl (by decide) ?_ | refine WX.skipD rfl ?_)
          refine WX.boolMD rfl rfl (fun b3 => ?_) (fun b3 => ?_)
          · have b3 : cf = [48] := of_decide_eq_true b3
            repeat (first | refine WX.stepD tab_eq rfl rfl trivial ?_ | refine WX.stepD tab_eq rfl rfl (by decide) ?_ | refine WX.skipD rfl ?_)
            refine WX.nilD (by kernel_rfl) ?_
            repeat (first | refine WX.step tab_eq rfl rfl trivial ?_ | refine WX.step tab_eq rfl rfl (by decide) ?_ | refine WX.nil ?_ | refine W.seq ?_ | refine W.region ?_ | refine W.regionD ?_ | refine W.block ?_ | refine W.skip ?_ | refine W.exit ?_ | refine W.ret ?_ | refine W.condT rfl ?_ | refine W.condF rfl ?_ | refine WX.skip rfl ?_)
            (refine (congrArg (fun b => some (PV.bool b, [])) ?_ : some (PV.bool _, []) = some (PV.bool _, [])); exact (hno (by rw [hok, b3]; simp)).symm)
          · have b3 : cf ≠ [48] := of_decide_eq_false b3
            rw [b1, b2, decide_eq_true b3, Bool.true_and, Bool.true_and, Bool.true_and] at hok
            repeat (first | refine WX.stepD tab_eq rfl rfl trivial ?_ | refine WX.stepD tab_eq rfl rfl (by decide) ?_ | refine WX.skipD rfl ?_)
            refine WX.boolMD rfl rfl (fun b4 => ?_) (fun b4 => ?_)
            · have b4 : 0 < i := by have := of_decide_eq_true b4; omega
              have hg2 := trow_get (ts := ts) (i := i - 1) (by omega)
              repeat (first | refine WX.stepD tab_eq rfl rfl trivial ?_ | refine WX.stepD tab_eq rfl rfl (by decide) ?_ | refine WX.skipD rfl ?_)
              rw [wrap_i64 (x := (i : Int) - 1) (by omega) (by omega)]
              refine WX.idxImmD tab_eq rfl rfl rfl rfl rfl rfl (by omega) (by rw [show ((i : Int) - 1).toNat = i - 1 by omega]; exact hg2) ?_
              repeat (first | refine WX.stepD tab_eq rfl rfl trivial ?_ | refine WX.stepD tab_eq rfl rfl (by decide) ?_ | refine WX.skipD rfl ?_)
              refine WX.idxImmD tab_eq rfl rfl rfl rfl rfl rfl (by omega) (hg) ?_
              repeat (first | refine WX.stepD tab_eq rfl rfl trivial ?_ | refine WX.stepD tab_eq rfl rfl (by decide) ?_ | refine WX.skipD rfl ?_)
              refine WX.nilD (by kernel_rfl) ?_
              rw [decide_eq_false (show ¬ i = 0 by omega), Bool.false_or] at hok
              generalize (ts.getD (i - 1) ([], [])).1 = pn at *
              repeat (first | refine WX.step tab_eq rfl rfl trivial ?_ | refine WX.step tab_eq rfl rfl (by decide) ?_ | refine WX.nil ?_ | refine W.seq ?_ | refine W.region ?_ | refine W.regionD ?_ | refine W.block ?_ | refine W.skip ?_ | refine W.exit ?_ | refine W.ret ?_ | refine W.condT rfl ?_ | refine W.condF rfl ?_ | refine WX.skip rfl ?_)
              refine W.cond rfl (fun b5 => ?_) (fun b5 => ?_)
              · have b5 := not_true b5
                repeat (first | refine WX.step tab_eq rfl rfl trivial ?_ | refine WX.step tab_eq rfl rfl (by decide) ?_ | refine WX.nil ?_ | refine W.seq ?_ | refine W.region ?_ | refine W.regionD ?_ | refine W.block ?_ | refine W.skip ?_ | refine W.exit ?_ | refine W.ret ?_ | refine W.condT rfl ?_ | refine W.condF rfl ?_ | refine WX.skip rfl ?_)
                (refine (congrArg (fun b => some (PV.bool b, [])) ?_ : some (PV.bool _, []) = some (PV.bool _, [])); exact (hno (by rw [hok]; exact b5)).symm)
              · have b5 := not_false b5
                repeat (first | refine WX.step tab_eq rfl rfl trivial ?_ | refine WX.step tab_eq rfl rfl (by decide) ?_ | refine WX.nil ?_ | refine W.seq ?_ | refine W.region ?_ | refine W.regionD ?_ | refine W.block ?_ | refine W.skip ?_ | refine W.exit ?_ | refine W.ret ?_ | refine W.condT rfl ?_ | refine W.condF rfl ?_ | refine WX.skip rfl ?_)
                rw [wrap_i64 (x := (i : Int) + 1) (by omega) (by omega)]
                show ∃ m', _
                exact ⟨ts.length - (i + 1), by omega, i + 1, rfl, by omega, hgo (by rw [hok]; exact b5), rfl⟩
            · have b4 : i = 0 := by have := of_decide_eq_false b4; omega
              repeat (first | refine WX.stepD tab_eq rfl rfl trivial ?_ | refine WX.stepD tab_eq rfl rfl (by decide) ?_ | refine WX.skipD rfl ?_)
              refine WX.nilD (by kernel_rfl) ?_
              repeat (first | refine WX.step tab_eq rfl rfl trivial ?_ | refine WX.step tab_eq rfl rfl (by decide) ?_ | refine WX.nil ?_ | refine W.seq ?_ | refine W.region ?_ | refine W.regionD ?_ | refine W.block ?_ | refine W.skip ?_ | refine W.exit ?_ | refine W.ret ?_ | refine W.condT rfl ?_ | refine W.condF rfl ?_ | refine WX.skip rfl ?_)
              rw [wrap_i64 (x := (i : Int) + 1) (by omega) (by omega)]
              show ∃ m', _
              exact ⟨ts.length - (i + 1), by omega, i + 1, rfl, by omega, hgo (by rw [hok, decide_eq_true b4]; rfl), rfl⟩
    · have hlt := of_decide_eq_false hlt
      have hie : i = ts.length := by omega
      subst hie
      repeat (first | refine WX.step tab_eq rfl rfl trivial ?_ | refine WX.step tab_eq rfl rfl (by decide) ?_ | refine WX.nil ?_ | refine W.seq ?_ | refine W.region ?_ | refine W.regionD ?_ | refine W.block ?_ | refine W.skip ?_ | refine W.exit ?_ | refine W.ret ?_ | refine W.condT rfl ?_ | refine W.condF rfl ?_ | refine WX.skip rfl ?_)
      (refine (congrArg (fun b => some (PV.bool b, [])) ?_ : some (PV.bool _, []) = some (PV.bool _, [])); exact hd.symm)
theorem rlinValid_T (kind : Int) (ts : List Trm) (c : Bs) (hts : ∀ t ∈ ts, smallT t) (hn : ts.length < 1073741824) (hc : c.length < 150994900) :
    T (k + 8) 23 [.agg [.int .i64 kind, .imm 2 (trow ts), .str c]] = some (.bool (linB kind ts c), []) := by
  have hv := rvalid_T (k := k) c (by omega)
  unfold linB
  refine enter rfl func23 rfl (by decide) (by kernel_rfl) rfl rfl ?_
  refine W.seq ?_
  refine W.region ?_
  repeat (first | refine WX.step tab_eq rfl rfl trivial ?_ | refine WX.step tab_eq rfl rfl (by decide) ?_ | refine WX.nil ?_ | refine WX.skip rfl ?_)
  refine W.seq ?_
  refine W.seq ?_
  refine W.region ?_
  repeat (first | refine WX.step tab_eq rfl rfl trivial ?_ | refine WX.step tab_eq rfl rfl (by decide) ?_ | refine WX.nil ?_ | refine WX.skip rfl ?_)
  refine WX.call tab_eq rfl rfl rfl rfl rfl (numeric_T (k := k + 6) kind) rfl rfl ?_
  repeat (first | refine WX.step tab_eq rfl rfl trivial ?_ | refine WX.step tab_eq rfl rfl (by decide) ?_ | refine WX.nil ?_ | refine WX.skip rfl ?_)
  refine WX.boolM rfl rfl (fun b1 => ?_) (fun b1 => ?_)
  · have b1 := not_true b1
    repeat (first | refine WX.step tab_eq rfl rfl trivial ?_ | refine WX.step tab_eq rfl rfl (by decide) ?_ | refine WX.nil ?_ | refine W.seq ?_ | refine W.region ?_ | refine W.regionD ?_ | refine W.block ?_ | refine W.skip ?_ | refine W.exit ?_ | refine W.ret ?_ | refine W.condT rfl ?_ | refine W.condF rfl ?_ | refine WX.skip rfl ?_)
    (refine (congrArg (fun b => some (PV.bool b, [])) ?_ : some (PV.bool _, []) = some (PV.bool _, [])); (rw [b1]; rfl))
  · have b1 := not_false b1
    rw [b1, Bool.true_and]
    repeat (first | refine WX.step tab_eq rfl rfl trivial ?_ | refine WX.step tab_eq rfl rfl (by decide) ?_ | refine WX.nil ?_ | refine WX.skip rfl ?_)
    refine WX.call tab_eq rfl rfl rfl rfl rfl (hv) rfl rfl ?_
    repeat (first | refine WX.step tab_eq rfl rfl trivial ?_ | refine WX.step tab_eq rfl rfl (by decide) ?_ | refine WX.nil ?_ | refine WX.skip rfl ?_)
    refine W.cond rfl (fun b2 => ?_) (fun b2 => ?_)
    · have b2 := not_true b2
      repeat (first | refine WX.step tab_eq rfl rfl trivial ?_ | refine WX.step tab_eq rfl rfl (by decide) ?_ | refine WX.nil ?_ | refine W.seq ?_ | refine W.region ?_ | refine W.regionD ?_ | refine W.block ?_ | refine W.skip ?_ | refine W.exit ?_ | refine W.ret ?_ | refine W.condT rfl ?_ | refine W.condF rfl ?_ | refine WX.skip rfl ?_)
      (refine (congrArg (fun b => some (PV.bool b, [])) ?_ : some (PV.bool _, []) = some (PV.bool _, [])); (rw [b2]; rfl))
    · have b2 := not_false b2
      rw [b2, Bool.true_and]
      refine W.skip ?_
      refine W.seq ?_
      refine W.seq ?_
      refine W.region ?_
      repeat (first | refine WX.step tab_eq rfl rfl trivial ?_ | refine WX.step tab_eq rfl rfl (by decide) ?_ | refine WX.nil ?_ | refine WX.skip rfl ?_)
      refine rlinLoop (k := k) kind ts c _ hts hn _ _ ?s1 ?h1 ?h3 rfl
      case h1 => exact rfl
      case h3 => exact rfl
end Go.PE
