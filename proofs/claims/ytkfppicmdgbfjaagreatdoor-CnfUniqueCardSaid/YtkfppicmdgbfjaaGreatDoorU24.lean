/-
  A part of the proof that the law's function returns true and leaves its arguments as they were, for every input (no condition): own lemmas of the proof, in the order of their use.
-/
import Derived.Test.YtkfppicmdgbfjaaGreatDoorU23
set_option linter.all false
namespace Go.PE
open Go.RowKit Go.Proofs.Tryz
set_option maxRecDepth 100000
variable {k : Nat}
/-! ### Names -/
theorem take_dg {s : Bs} {i : Nat} (h : i < s.length) : s.take (i + 1) = s.take i ++ [s.getD i 0] := by
  rw [List.take_succ_eq_append_getElem (by omega)]
  simp [List.getD, List.getElem?_eq_getElem h]
def lt1 (c : Int) : Bool := ((((decide (97 ≤ c) && decide (c ≤ 122)) || (decide (65 ≤ c) && decide (c ≤ 90))) || decide (c = 95)) || decide (c = 36)) || decide (c = 33)
theorem ltr_T (c : Int) : T (k + 1) 201 [.int .u8 c] = some (.bool (lt1 c), []) := by
  refine enter rfl func201 rfl (by decide) (by kernel_rfl) rfl rfl ?_
  repeat' (first | refine WX.step tab_eq rfl rfl trivial ?_ | refine WX.step tab_eq rfl rfl (by decide) ?_ | refine WX.nil ?_ | refine W.seq ?_ | refine W.region ?_ | refine W.block ?_ | refine W.skip ?_ | refine W.exit ?_ | refine W.ret ?_ | refine W.condT rfl ?_ | refine W.condF rfl ?_ | refine WX.skip rfl ?_ | refine WX.boolM rfl rfl (fun _ => ?_) (fun _ => ?_) | refine W.cond rfl (fun _ => ?_) (fun _ => ?_))
  all_goals (refine (congrArg (fun b => some (PV.bool b, [])) ?_ : some (PV.bool _, []) = some (PV.bool _, [])); (simp_all [lt1] <;> omega))
def words : List Bs := [[97, 110, 100], [111, 114], [110, 111, 116], [105, 116, 101], [116, 114, 117, 101], [102, 97, 108, 115, 101], [108, 101, 116], [102, 111, 114, 97, 108, 108], [101, 120, 105, 115, 116, 115],
  [100, 105, 115, 116, 105, 110, 99, 116], [100, 105, 118], [109, 111, 100], [115, 101, 108, 101, 99, 116], [115, 116, 111, 114, 101], [99, 111, 110, 115, 116], [66, 111, 111, 108], [73, 110, 116], [82, 101, 97, 108], [65, 114, 114, 97, 121]]
theorem word_T (s : Bs) : T (k + 1) 202 [.str s] = some (.bool (words.contains s), []) := by
  refine enter rfl func202 rfl (by decide) (by kernel_rfl) rfl rfl ?_
  repeat' (first | refine WX.step tab_eq rfl rfl trivial ?_ | refine WX.step tab_eq rfl rfl (by decide) ?_ | refine WX.nil ?_ | refine W.seq ?_ | refine W.region ?_ | refine W.block ?_ | refine W.skip ?_ | refine W.exit ?_ | refine W.ret ?_ | refine W.condT rfl ?_ | refine W.condF rfl ?_ | refine WX.skip rfl ?_ | refine WX.boolM rfl rfl (fun _ => ?_) (fun _ => ?_) | refine W.cond rfl (fun _ => ?_) (fun _ => ?_))
  all_goals (refine (congrArg (fun b => some (PV.bool b, [])) ?_ : some (PV.bool _, []) = some (PV.bool _, [])); simp_all [words])
def chB (c : Int) : Bool := ((lt1 c || (decide (48 ≤ c) && decide (c ≤ 57))) || decide (c = 46)) || decide (c = 64)
def nameB (s : Bs) : Bool := decide (s ≠ []) && (decide (s.length ≤ 40) && (lt1 (s.getD 0 0).toNat && (!words.contains s && s.all fun c => chB c.toNat)))
theorem all_step {s : Bs} {i : Nat} {f : UInt8 → Bool} (hi : i < s.length) (h : (s.take i).all f = true) (h2 : f (s.getD i 0) = true) : (s.take (i + 1)).all f = true := by
  rw [take_dg hi, List.all_append, h, List.all_cons, h2]; rfl
theorem all_stop {s : Bs} {i : Nat} {f : UInt8 → Bool} (hi : i < s.length) (h2 : f (s.getD i 0) = false) : s.all f = false := by
  have hc : [s.getD i 0].all f = false := by
    show (f (s.getD i 0) && true) = false
    rw [h2]; rfl
  rw [← List.take_append_drop (i + 1) s, List.all_append, take_dg hi, List.all_append, hc, Bool.and_false, Bool.false_and]
theorem isName_T (s : Bs) (hs : s.length < 4611686018427387904) : T (k + 2) 172 [.str s] = some (.bool (nameB s), []) := by
  refine enter rfl func172 rfl (by decide) (by kernel_rfl) rfl rfl ?_
  refine zs0 ?_
  refine WX.boolM rfl rfl (fun b1 => ?_) (fun b1 => ?_)
  · have b1 : s = [] := of_decide_eq_true b1
    subst b1
    refine zs0 ?_
    rfl
  · have b1 : s ≠ [] := of_decide_eq_false b1
    have hp := List.length_pos_iff.2 b1
    refine zs0 ?_
    refine WX.boolM rfl rfl (fun b2 => ?_) (fun b2 => ?_)
    · have b2 := of_decide_eq_true b2
      refine zs0 ?_
      (refine (congrArg (fun b => some (PV.bool b, [])) ?_ : some (PV.bool _, []) = some (PV.bool _, [])); (unfold nameB; rw [decide_eq_false (p := s.length ≤ 40) (by omega)]; simp))
    · have b2 := of_decide_eq_false b2
      refine zs0 ?_
      refine WX.step tab_eq rfl rfl (by constructor <;> omega) ?_
      refine zs0 ?_
      refine WX.call tab_eq rfl rfl rfl rfl rfl (ltr_T (k := k) _) rfl rfl ?_
      refine zs0 ?_
      refine WX.boolM rfl rfl (fun b3 => ?_) (fun b3 => ?_)
      · have b3 := not_true b3
        refine zs0 ?_
        (refine (congrArg (fun b => some (PV.bool b, [])) ?_ : some (PV.bool _, []) = some (PV.bool _, [])); (unfold nameB; rw [show lt1 (s.getD 0 0).toNat = false from b3]; simp))
      · have b3 := not_false b3
        refine zs1 (word_T (k := k) s) ?_
        refine W.cond rfl (fun b4 => ?_) (fun b4 => ?_)
        · refine zs0 ?_
          (refine (congrArg (fun b => some (PV.bool b, [])) ?_ : some (PV.bool _, []) = some (PV.bool _, [])); (unfold nameB; rw [show words.contains s = true from b4]; simp))
        · have hn : nameB s = s.all fun c => chB c.toNat := by
            unfold nameB; rw [show lt1 (s.getD 0 0).toNat = true from b3, show words.contains s = false from b4, decide_eq_true b1, decide_eq_true (show s.length ≤ 40 by omega)]; simp
          rw [hn]
          refine zs0 ?_
          refine W.loop (fun e m => ∃ (i : Nat), e = [(0, .str s), (23, .int .i64 s.length), (24, .int .i64 i)] ∧ i ≤ s.length ∧ ((s.take i).all fun c => chB c.toNat) = true ∧ m = s.length - i) s.length ?_ ?_ ?_
          · exact ⟨0, rfl, by omega, rfl, by omega⟩
          · show _ < 4611686018427387904; omega
          · rintro e m ⟨i, rfl, hi, hd, rfl⟩
            refine zs0 ?_
            refine W.cond rfl (fun hlt => ?_) (fun hlt => ?_)
            · have hlt := of_decide_eq_true hlt
              have hgo : chB (s.getD i 0).toNat = true → _ := all_step (s := s) (i := i) (f := fun c => chB c.toNat) (by omega) hd
              have hno : chB (s.getD i 0).toNat = false → _ := all_stop (s := s) (i := i) (f := fun c => chB c.toNat) (by omega)
              refine zs0 ?_
              refine WX.step tab_eq rfl rfl (by constructor <;> omega) ?_
              rw [Int.toNat_natCast]
              refine zs0 ?_
              generalize ((s.getD i 0).toNat : Int) = c at *
              refine zs2 (ltr_T (k := k) c) ?_
              repeat' (first | refine WX.step tab_eq rfl rfl trivial ?_ | refine WX.step tab_eq rfl rfl (by decide) ?_ | refine WX.nil ?_ | refine W.seq ?_ | refine W.region ?_ | refine W.block ?_ | refine W.skip ?_ | refine W.exit ?_ | refine W.ret ?_ | refine W.condT rfl ?_ | refine W.condF rfl ?_ | refine WX.skip rfl ?_ | refine WX.boolM rfl rfl (fun _ => ?_) (fun _ => ?_) | refine W.cond rfl (fun _ => ?_) (fun _ => ?_))
              all_goals first
                | (refine (congrArg (fun b => some (PV.bool b, [])) ?_ : some (PV.bool _, []) = some (PV.bool _, [])); exact (hno (by clear hgo hno; simp_all [chB] <;> omega)).symm)
                | (rw [wrap_i64 (x := (i : Int) + 1) (by omega) (by omega)]; show ∃ m', _; exact ⟨s.length - (i + 1), by omega, i + 1, rfl, by omega, hgo (by clear hgo hno; simp_all [chB] <;> omega), rfl⟩)
            · have hlt := of_decide_eq_false hlt
              rw [List.take_of_length_le (by omega)] at hd
              refine zs0 ?_
              (refine (congrArg (fun b => some (PV.bool b, [])) ?_ : some (PV.bool _, []) = some (PV.bool _, [])); exact hd.symm)
/-! ### Nodes -/
structure Node where
  (op sort kids : Int) (name num : Bs)
def nodeP (n : Node) : List PV := [.int .i64 n.op, .int .i64 n.sort, .str n.name, .str n.num, .int .i64 n.kids]
theorem isSort_T (s : Int) : T (k + 1) 171 [.int .i64 s] = some (.bool (decide (1 ≤ s) && decide (s ≤ 4)), []) := by
  refine enter rfl func171 rfl (by decide) (by kernel_rfl) rfl rfl ?_
  repeat' (first | refine WX.step tab_eq rfl rfl trivial ?_ | refine WX.step tab_eq rfl rfl (by decide) ?_ | refine WX.nil ?_ | refine W.seq ?_ | refine W.region ?_ | refine W.block ?_ | refine W.skip ?_ | refine W.exit ?_ | refine W.ret ?_ | refine W.condT rfl ?_ | refine W.condF rfl ?_ | refine WX.skip rfl ?_ | refine WX.boolM rfl rfl (fun _ => ?_) (fun _ => ?_) | refine W.cond rfl (fun _ => ?_) (fun _ => ?_))
  all_goals (refine (congrArg (fun b => some (PV.bool b, [])) ?_ : some (PV.bool _, []) = some (PV.bool _, [])); (simp_all <;> omega))
theorem numeric_T (s : Int) : T (k + 1) 176 [.int .i64 s] = some (.bool (decide (s = 2) || decide (s = 3)), []) := by
  refine enter rfl func176 rfl (by decide) (by kernel_rfl) rfl rfl ?_
  repeat' (first | refine WX.step tab_eq rfl rfl trivial ?_ | refine WX.step tab_eq rfl rfl (by decide) ?_ | refine WX.nil ?_ | refine W.seq ?_ | refine W.region ?_ | refine W.block ?_ | refine W.skip ?_ | refine W.exit ?_ | refine W.ret ?_ | refine W.condT rfl ?_ | refine W.condF rfl ?_ | refine WX.skip rfl ?_ | refine WX.boolM rfl rfl (fun _ => ?_) (fun _ => ?_) | refine W.cond rfl (fun _ => ?_) (fun _ => ?_))
  all_goals (refine (congrArg (fun b => some (PV.bool b, [])) ?_ : some (PV.bool _, []) = some (PV.bool _, [])); (simp_all <;> omega))
theorem when_T (b : Bool) (s : Int) : T (k + 1) 174 [.bool b, .int .i64 s] = some (.int .i64 (if b then s else 0), []) := by
  refine enter rfl func174 rfl (by decide) (by kernel_rfl) rfl rfl ?_
  repeat' (first | refine WX.step tab_eq rfl rfl trivial ?_ | refine WX.step tab_eq rfl rfl (by decide) ?_ | refine WX.nil ?_ | refine W.seq ?_ | refine W.region ?_ | refine W.block ?_ | refine W.skip ?_ | refine W.exit ?_ | refine W.ret ?_ | refine W.condT rfl ?_ | refine W.condF rfl ?_ | refine WX.skip rfl ?_ | refine WX.boolM rfl rfl (fun _ => ?_) (fun _ => ?_) | refine W.cond rfl (fun _ => ?_) (fun _ => ?_))
  all_goals (subst_vars; rfl)
def countB (op n : Int) : Bool :=
  if op = 1 ∨ op = 2 ∨ op = 3 ∨ op = 4 then decide (n = 0) else if op = 5 then decide (1 ≤ n) && decide (n ≤ 40) else if op = 6 ∨ op = 16 ∨ op = 17 ∨ op = 20 then decide (n = 1) else
  if op = 7 ∨ op = 8 then true else if op = 14 then decide (1 ≤ n) else if op = 10 ∨ op = 19 then decide (n = 3) else decide (n = 2)
set_option maxHeartbeats 4000000 in
theorem count_T (op n : Int) : T (k + 1) 144 [.int .i64 op, .int .i64 n] = some (.bool (countB op n), []) := by
  refine enter rfl func144 rfl (by decide) (by kernel_rfl) rfl rfl ?_
  repeat' (first | refine WX.step tab_eq rfl rfl trivial ?_ | refine WX.step tab_eq rfl rfl (by decide) ?_ | refine WX.nil ?_ | refine W.seq ?_ | refine W.region ?_ | refine W.block ?_ | refine W.skip ?_ | refine W.exit ?_ | refine W.ret ?_ | refine W.condT rfl ?_ | refine W.condF rfl ?_ | refine WX.skip rfl ?_ | refine WX.boolM rfl rfl (fun _ => ?_) (fun _ => ?_) | refine W.cond rfl (fun _ => ?_) (fun _ => ?_))
  all_goals (refine (congrArg (fun b => some (PV.bool b, [])) ?_ : some (PV.bool _, []) = some (PV.bool _, [])); (simp_all [countB] <;> omega))
end Go.PE
namespace Go.PE
open Go.RowKit Go.Proofs.Tryz
set_option maxRecDepth 100000
variable {k : Nat}
def numB (s : Int) (a : Bs) : Bool := (decide (s = 2) && isI a) || (decide (s = 3) && (rd a).isSome)
theorem numbered_T (s : Int) (a : Bs) (h : a.length < 150994900) : T (k + 7) 170 [.int .i64 s, .str a] = some (.bool (numB s a), []) := by
  have h1 := isInt_T (k := k + 2) a (by omega)
  have h2 := valid_T (k := k) a h
  unfold numB
  generalize isI a = b1 at *
  generalize (rd a).isSome = b2 at *
  by_cases c2 : s = 2
  · subst c2
    cases b1
    · refine enter rfl func170 rfl (by decide) (by kernel_rfl) rfl rfl ?_
      refine zs1 h1 ?_
      rfl
    · refine enter rfl func170 rfl (by decide) (by kernel_rfl) rfl rfl ?_
      refine zs1 h1 ?_
      rfl
  · by_cases c3 : s = 3
    · subst c3
      refine enter rfl func170 rfl (by decide) (by kernel_rfl) rfl rfl ?_
      refine zs1 h2 ?_
      show some (PV.bool b2, []) = _
      simp
    · refine enter rfl func170 rfl (by decide) (by kernel_rfl) rfl rfl ?_
      refine zs0 ?_
      refine WX.boolM rfl rfl (fun d1 => ?_) (fun d1 => ?_)
      · exact absurd (of_decide_eq_true d1) c2
      · refine zs0 ?_
        refine WX.boolM rfl rfl (fun d2 => ?_) (fun d2 => ?_)
        · exact absurd (of_decide_eq_true d2) c3
        · refine zs0 ?_
          (refine (congrArg (fun b => some (PV.bool b, [])) ?_ : some (PV.bool _, []) = some (PV.bool _, [])); (simp [c2, c3]))
def sgnB (a : Bs) : Int := match rd a with | some q => sgn q | none => 0
def fieldsB (n : Node) : Bool :=
  if n.op = 3 then decide (n.name = []) && numB n.sort n.num
  else if n.op = 4 ∨ n.op = 5 then (decide (1 ≤ n.sort) && decide (n.sort ≤ 4)) && (nameB n.name && decide (n.num = []))
  else if n.op = 16 ∨ n.op = 17 then decide (n.sort = 0) && (decide (n.name = []) && (isI n.num && decide (0 < sgnB n.num)))
  else decide (1 ≤ n.op) && (decide (n.op ≤ 20) && (decide (n.sort = 0) && (decide (n.name = []) && decide (n.num = []))))
set_option maxHeartbeats 4000000 in
theorem fields_T (n : Node) (h1 : n.name.length < 150994900) (h2 : n.num.length < 150994900) : T (k + 8) 143 [.agg (nodeP n)] = some (.bool (fieldsB n), []) := by
  obtain ⟨op, srt, kids, nm, num⟩ := n
  simp only at h1 h2
  have q1 := numbered_T (k := k) srt num h2
  have q2 := isSort_T (k := k + 6) srt
  have q3 := isName_T (k := k + 5) nm (by omega)
  have q4 := isInt_T (k := k + 3) num (by omega)
  have q5 : T (k + 7) 150 [.str num] = some (.int .i64 (sgnB num), []) := sign_T (k := k) num h2
  have e : fieldsB ⟨op, srt, kids, nm, num⟩ = (if op = 3 then decide (nm = []) && numB srt num
    else if op = 4 ∨ op = 5 then (decide (1 ≤ srt) && decide (srt ≤ 4)) && (nameB nm && decide (num = []))
    else if op = 16 ∨ op = 17 then decide (srt = 0) && (decide (nm = []) && (isI num && decide (0 < sgnB num)))
    else decide (1 ≤ op) && (decide (op ≤ 20) && (decide (srt = 0) && (decide (nm = []) && decide (num = []))))) := rfl
  rw [e]
  clear e
  unfold nodeP
  simp only
  generalize numB srt num = b1 at *
  generalize nameB nm = b2 at *
  generalize isI num = b3 at *
  generalize sgnB num = z at *
  refine enter rfl func143 rfl (by decide) (by kernel_rfl) rfl rfl ?_
  by_cases c3 : op = 3
  · subst c3
    rw [if_pos rfl]
    refine zs0 ?_
    refine WX.boolM rfl rfl (fun d1 => ?_) (fun d1 => ?_)
    · have d1 : nm = [] := of_decide_eq_true d1
      subst d1
      refine zs1 q1 ?_
      rfl
    · have d1 : nm ≠ [] := of_decide_eq_false d1
      refine zs0 ?_
      (refine (congrArg (fun b => some (PV.bool b, [])) ?_ : some (PV.bool _, []) = some (PV.bool _, [])); (simp [d1]))
  · rw [if_neg c3]
    by_cases c4 : op = 4 ∨ op = 5
    · rw [if_pos c4]
      have key : ∀ b : Bool, (decide (1 ≤ srt) && decide (srt ≤ 4)) = b → (some (PV.bool ((decide (1 ≤ srt) && decide (srt ≤ 4)) && (b2 && decide (num = []))), []) : Option (PV × List (List PV))) = some (.bool (b && (b2 && decide (num = []))), []) := fun b h => by rw [h]
      generalize (decide (1 ≤ srt) && decide (srt ≤ 4)) = b4 at *
      rcases c4 with rfl | rfl
      · cases b4
        · refine zs1 q2 ?_
          rfl
        · refine zs1 q2 ?_
          refine zs2 q3 ?_
          refine WX.boolM rfl rfl (fun d2 => ?_) (fun d2 => ?_)
          · subst d2
            refine zs0 ?_
            rfl
          · subst d2
            refine zs0 ?_
            rfl
      · cases b4
        · refine zs1 q2 ?_
          rfl
        · refine zs1 q2 ?_
          refine zs2 q3 ?_
          refine WX.boolM rfl rfl (fun d2 => ?_) (fun d2 => ?_)
          · subst d2
            refine zs0 ?_
            rfl
          · subst d2
            refine zs0 ?_
            rfl
    · rw [if_neg c4]
      by_cases c5 : op = 16 ∨ op = 17
      · rw [if_pos c5]
        rcases c5 with rfl | rfl
        · refine zs0 ?_
          refine WX.boolM rfl rfl (fun d1 => ?_) (fun d1 => ?_)
          · have d1 : srt = 0 := of_decide_eq_true d1
            subst d1
            refine zs0 ?_
            refine WX.boolM rfl rfl (fun d2 => ?_) (fun d2 => ?_)
            · have d2 : nm = [] := of_decide_eq_true d2
              subst d2
              refine zs1 q4 ?_
              cases b3
              · refine zs0 ?_
                rfl
              · refine zs1 q5 ?_
                rfl
            · have d2 : nm ≠ [] := of_decide_eq_false d2
              refine zs0 ?_
              (refine (congrArg (fun b => some (PV.bool b, [])) ?_ : some (PV.bool _, []) = some (PV.bool _, [])); (simp [d2]))
          · have d1 : srt ≠ 0 := of_decide_eq_false d1
            refine zs0 ?_
            (refine (congrArg (fun b => some (PV.bool b, [])) ?_ : some (PV.bool _, []) = some (PV.bool _, [])); (simp [d1]))
        · refine zs0 ?_
          refine WX.boolM rfl rfl (fun d1 => ?_) (fun d1 => ?_)
          · have d1 : srt = 0 := of_decide_eq_true d1
            subst d1
            refine zs0 ?_
            refine WX.boolM rfl rfl (fun d2 => ?_) (fun d2 => ?_)
            · have d2 : nm = [] := of_decide_eq_true d2
              subst d2
              refine zs1 q4 ?_
              cases b3
              · refine zs0 ?_
                rfl
              · refine zs1 q5 ?_
                rfl
            · have d2 : nm ≠ [] := of_decide_eq_false d2
              refine zs0 ?_
              (refine (congrArg (fun b => some (PV.bool b, [])) ?_ : some (PV.bool _, []) = some (PV.bool _, [])); (simp [d2]))
          · have d1 : srt ≠ 0 := of_decide_eq_false d1
            refine zs0 ?_
            (refine (congrArg (fun b => some (PV.bool b, [])) ?_ : some (PV.bool _, []) = some (PV.bool _, [])); (simp [d1]))
      · rw [if_neg c5]
        refine zs0 ?_
        refine W.cond rfl (fun n0 => ?_) (fun n0 => ?_)
        · exact absurd (of_decide_eq_true n0) (by omega)
        · refine zs0 ?_
          refine W.cond rfl (fun n1 => ?_) (fun n1 => ?_)
          · exact absurd (of_decide_eq_true n1) (by omega)
          · refine zs0 ?_
            refine W.cond rfl (fun n2 => ?_) (fun n2 => ?_)
            · exact absurd (of_decide_eq_true n2) (by omega)
            · refine zs0 ?_
              refine W.cond rfl (fun n3 => ?_) (fun n3 => ?_)
              · exact absurd (of_decide_eq_true n3) (by omega)
              · refine zs0 ?_
                refine W.cond rfl (fun n4 => ?_) (fun n4 => ?_)
                · exact absurd (of_decide_eq_true n4) (by omega)
                · refine zs0 ?_
                  refine WX.boolM rfl rfl (fun d4 => ?_) (fun d4 => ?_)
                  · refine zs0 ?_
                    refine WX.boolM rfl rfl (fun d3 => ?_) (fun d3 => ?_)
                    · refine zs0 ?_
                      refine WX.boolM rfl rfl (fun d2 => ?_) (fun d2 => ?_)
                      · refine zs0 ?_
                        refine WX.boolM rfl rfl (fun d1 => ?_) (fun d1 => ?_)
                        · refine zs0 ?_
                          (refine (congrArg (fun b => some (PV.bool b, [])) ?_ : some (PV.bool _, []) = some (PV.bool _, [])); (simp_all <;> omega))
                        · refine zs0 ?_
                          (refine (congrArg (fun b => some (PV.bool b, [])) ?_ : some (PV.bool _, []) = some (PV.bool _, [])); (simp_all <;> omega))
                      · refine zs0 ?_
                        (refine (congrArg (fun b => some (PV.bool b, [])) ?_ : some (PV.bool _, []) = some (PV.bool _, [])); (simp_all <;> omega))
                    · refine zs0 ?_
                      (refine (congrArg (fun b => some (PV.bool b, [])) ?_ : some (PV.bool _, []) = some (PV.bool _, [])); (simp_all <;> omega))
                  · refine zs0 ?_
                    (refine (congrArg (fun b => some (PV.bool b, [])) ?_ : some (PV.bool _, []) = some (PV.bool _, [])); (simp_all <;> omega))
end Go.PE
namespace Go.PE
open Go.RowKit Go.Proofs.Tryz
set_option maxRecDepth 100000
variable {k : Nat}
/-! ### The first index with a property -/
def fiQ {α : Type} (us : List α) (p : α → Bool) : Int := if us.findIdx p < us.length then (us.findIdx p : Int) else -1
theorem fi_hit {α : Type} {us : List α} {p : α → Bool} {i : Nat} {d : α} (hi : i < us.length) (h1 : ∀ w ∈ us.take i, p w = false) (h2 : p (us.getD i d) = true) : fiQ us p = i := by
  have h3 : us.findIdx p = i := by
    rw [List.findIdx_eq hi]
    have e : us.getD i d = us[i] := by simp [List.getD, List.getElem?_eq_getElem hi]
    refine ⟨by rw [← e]; exact h2, fun j hj => h1 _ ?_⟩
    rw [List.mem_take_iff_getElem]
    exact ⟨j, by omega, rfl⟩
  unfold fiQ
  rw [h3, if_pos hi]
theorem fi_miss {α : Type} {us : List α} {p : α → Bool} (h : ∀ w ∈ us, p w = false) : fiQ us p = -1 := by
  unfold fiQ
  rw [List.findIdx_eq_length.2 h, if_neg (by omega)]
theorem fi_any {α : Type} (us : List α) (p : α → Bool) : decide (0 ≤ fiQ us p) = us.any p := by
  unfold fiQ
  by_cases h : us.any p = true
  · have : us.findIdx p < us.length := List.findIdx_lt_length.2 (by simpa using List.any_eq_true.1 h)
    rw [if_pos this, h]
    exact decide_eq_true (by omega)
  · have h : us.any p = false := by simpa using h
    have : ¬ us.findIdx p < us.length := fun hh => by
      have := List.findIdx_lt_length.1 hh
      obtain ⟨x, hx, hp⟩ := this
      have : us.any p = true := List.any_eq_true.2 ⟨x, hx, hp⟩
      rw [h] at this; cases this
    rw [if_neg this, h]
    rfl
theorem take_snocG {α : Type} {us : List α} {i : Nat} {d : α} (h : i < us.length) : us.take (i + 1) = us.take i ++ [us.getD i d] := by
  rw [List.take_succ, List.getElem?_eq_getElem h]
  simp [List.getD, List.getElem?_eq_getElem h]
theorem allF_T (x s : Int) : T (k + 1) 204 [.int .i64 x, .iptr [.int .i64 s] 0] = some (.bool (decide (x ≠ s)), []) := by
  refine enter rfl func204 rfl (by decide) (by kernel_rfl) rfl rfl ?_
  refine zs0 ?_
  rfl
theorem idxN_T (l : List Int) (s : Int) (hl : l.length < 1000000000) : T (k + 2) 226 [.imm 1 (zrow l), .func 204 [.iptr [.int .i64 s] 0]] = some (.int .i64 (fiQ l fun x => decide (x ≠ s)), []) := by
  refine enter rfl func226 rfl (by decide) (by kernel_rfl) rfl rfl ?_
  refine zs0 ?_
  rw [zrow_len]
  refine W.loop (fun e m => ∃ (i : Nat), e = [(0, .imm 1 (zrow l)), (1, .func 204 [.iptr [.int .i64 s] 0]), (7, .int .i64 l.length), (8, .int .i64 i)] ∧ i ≤ l.length ∧ (∀ x ∈ l.take i, decide (x ≠ s) = false) ∧ m = l.length - i) l.length ?_ ?_ ?_
  · exact ⟨0, rfl, by omega, by simp, by omega⟩
  · show _ < 4611686018427387904; omega
  · rintro e m ⟨i, rfl, hi, hd, rfl⟩
    refine zs0 ?_
    refine W.cond rfl (fun hlt => ?_) (fun hlt => ?_)
    · have hlt := of_decide_eq_true hlt
      have hg := zrow_get (l := l) (i := i) (by omega)
      have hhit := fi_hit (us := l) (p := fun x => decide (x ≠ s)) (d := 0) (i := i) (by omega) hd
      have htk := take_snocG (us := l) (i := i) (d := 0) (by omega)
      generalize hx : l.getD i 0 = x at *
      refine zs0 ?_
      refine WX.idxImm tab_eq rfl rfl rfl rfl rfl rfl (by omega) (hg) ?_
      refine zs1 (allF_T (k := k) x s) ?_
      refine W.cond rfl (fun b1 => ?_) (fun b1 => ?_)
      · refine zs0 ?_
        refine (congrArg (fun z => some (PV.int .i64 z, [])) ?_ : some (PV.int .i64 _, []) = some (PV.int .i64 _, []))
        exact (hhit b1).symm
      · refine zs0 ?_
        rw [wrap_i64 (x := (i : Int) + 1) (by omega) (by omega)]
        show ∃ m', _
        refine ⟨l.length - (i + 1), by omega, i + 1, rfl, by omega, fun y hy => ?_, rfl⟩
        rw [htk, List.mem_append, List.mem_singleton] at hy
        rcases hy with hy | rfl
        · exact hd y hy
        · exact b1
    · have hlt := of_decide_eq_false hlt
      have : i = l.length := by omega
      subst this
      rw [List.take_length] at hd
      refine zs0 ?_
      refine (congrArg (fun z => some (PV.int .i64 z, [])) ?_ : some (PV.int .i64 _, []) = some (PV.int .i64 _, []))
      exact (fi_miss hd).symm
theorem all_T (l : List Int) (s : Int) (hl : l.length < 1000000000) : T (k + 4) 175 [.imm 1 (zrow l), .int .i64 s] = some (.bool (l.all (fun x => decide (x = s))), []) := by
  have hc : T (k + 3) 203 [.imm 1 (zrow l), .func 204 [.iptr [.int .i64 s] 0]] = some (.bool (l.any fun x => decide (x ≠ s)), []) := by
    refine enter rfl func203 rfl (by decide) (by kernel_rfl) rfl rfl ?_
    refine zs1 (idxN_T (k := k) l s hl) ?_
    (refine (congrArg (fun b => some (PV.bool b, [])) ?_ : some (PV.bool _, []) = some (PV.bool _, [])); exact fi_any l _)
  have he : l.all (fun x => decide (x = s)) = !(l.any fun x => decide (x ≠ s)) := by
    rw [List.all_eq_not_any_not]
    congr 1
    congr 1
    funext x
    simp
  rw [he]
  refine enter rfl func175 rfl (by decide) (by kernel_rfl) rfl rfl ?_
  refine zs1 hc ?_
  rfl
end Go.PE
namespace Go.PE
open Go.RowKit Go.Proofs.Tryz
set_option maxRecDepth 100000
variable {k : Nat}
def whenI (b : Bool) (s : Int) : Int := if b then s else 0
def numS (s : Int) : Bool := decide (s = 2) || decide (s = 3)
def allS (ss : List Int) (s : Int) : Bool := ss.all fun x => decide (x = s)
def sortV (op srt : Int) (ss : List Int) : Int :=
  if op = 3 ∨ op = 4 ∨ op = 5 then srt
  else if op = 1 ∨ op = 2 ∨ op = 6 ∨ op = 7 ∨ op = 8 ∨ op = 9 then whenI (allS ss 1) 1
  else if op = 10 then whenI (decide (ss.getD 0 0 = 1) && decide (ss.getD 1 0 = ss.getD 2 0)) (ss.getD 1 0)
  else if op = 11 then whenI (decide (ss.getD 0 0 = ss.getD 1 0)) 1
  else if op = 12 ∨ op = 13 then whenI (numS (ss.getD 0 0) && allS ss (ss.getD 0 0)) 1
  else if op = 14 ∨ op = 15 then whenI (numS (ss.getD 0 0) && allS ss (ss.getD 0 0)) (ss.getD 0 0)
  else if op = 16 ∨ op = 17 then whenI (decide (ss.getD 0 0 = 2)) 2
  else if op = 18 then whenI (decide (ss.getD 0 0 = 4) && decide (ss.getD 1 0 = 2)) 2
  else if op = 19 then whenI (decide (ss.getD 0 0 = 4) && allS (ss.drop 1) 2) 4
  else whenI (decide (ss.getD 0 0 = 2)) 4
theorem whn (b : Bool) (s : Int) : T (k + 1) 174 [.bool b, .int .i64 s] = some (.int .i64 (whenI b s), []) := when_T b s
theorem zdrop (l : List Int) (n : Nat) : (zrow l).drop n = zrow (l.drop n) := by simp [zrow]
theorem sortOf1 (ss : List Int) (srt kids : Int) (nm num : Bs) (hl : ss.length < 1000000000) : T (k + 5) 146 [.agg [.int .i64 1, .int .i64 srt, .str nm, .str num, .int .i64 kids], .imm 1 (zrow ss)] = some (.int .i64 (sortV 1 srt ss), []) := by
  refine enter rfl func146 rfl (by decide) (by kernel_rfl) rfl rfl ?_
  have q := all_T (k := k) ss 1 hl
  have e : sortV 1 srt ss = whenI (ss.all fun x => decide (x = 1)) 1 := rfl
  rw [e]
  refine zs1 q ?_
  refine WX.call tab_eq rfl rfl rfl rfl rfl (whn (k := k + 3) _ _) rfl rfl ?_
  refine zs0 ?_
  rfl
theorem sortOf2 (ss : List Int) (srt kids : Int) (nm num : Bs) (hl : ss.length < 1000000000) : T (k + 5) 146 [.agg [.int .i64 2, .int .i64 srt, .str nm, .str num, .int .i64 kids], .imm 1 (zrow ss)] = some (.int .i64 (sortV 2 srt ss), []) := by
  refine enter rfl func146 rfl (by decide) (by kernel_rfl) rfl rfl ?_
  have q := all_T (k := k) ss 1 hl
  have e : sortV 2 srt ss = whenI (ss.all fun x => decide (x = 1)) 1 := rfl
  rw [e]
  refine zs1 q ?_
  refine WX.call tab_eq rfl rfl rfl rfl rfl (whn (k := k + 3) _ _) rfl rfl ?_
  refine zs0 ?_
  rfl
theorem sortOf3 (ss : List Int) (srt kids : Int) (nm num : Bs) (hl : ss.length < 1000000000) : T (k + 5) 146 [.agg [.int .i64 3, .int .i64 srt, .str nm, .str num, .int .i64 kids], .imm 1 (zrow ss)] = some (.int .i64 (sortV 3 srt ss), []) := by
  refine enter rfl func146 rfl (by decide) (by kernel_rfl) rfl rfl ?_
  refine zs0 ?_
  rfl
theorem sortOf4 (ss : List Int) (srt kids : Int) (nm num : Bs) (hl : ss.length < 1000000000) : T (k + 5) 146 [.agg [.int .i64 4, .int .i64 srt, .str nm, .str num, .int .i64 kids], .imm 1 (zrow ss)] = some (.int .i64 (sortV 4 srt ss), []) := by
  refine enter rfl func146 rfl (by decide) (by kernel_rfl) rfl rfl ?_
  refine zs0 ?_
  rfl
theorem sortOf5 (ss : List Int) (srt kids : Int) (nm num : Bs) (hl : ss.length < 1000000000) : T (k + 5) 146 [.agg [.int .i64 5, .int .i64 srt, .str nm, .str num, .int .i64 kids], .imm 1 (zrow ss)] = some (.int .i64 (sortV 5 srt ss), []) := by
  refine enter rfl func146 rfl (by decide) (by kernel_rfl) rfl rfl ?_
  refine zs0 ?_
  rfl
theorem sortOf6 (ss : List Int) (srt kids : Int) (nm num : Bs) (hl : ss.length < 1000000000) : T (k + 5) 146 [.agg [.int .i64 6, .int .i64 srt, .str nm, .str num, .int .i64 kids], .imm 1 (zrow ss)] = some (.int .i64 (sortV 6 srt ss), []) := by
  refine enter rfl func146 rfl (by decide) (by kernel_rfl) rfl rfl ?_
  have q := all_T (k := k) ss 1 hl
  have e : sortV 6 srt ss = whenI (ss.all fun x => decide (x = 1)) 1 := rfl
  rw [e]
  refine zs1 q ?_
  refine WX.call tab_eq rfl rfl rfl rfl rfl (whn (k := k + 3) _ _) rfl rfl ?_
  refine zs0 ?_
  rfl
theorem sortOf7 (ss : List Int) (srt kids : Int) (nm num : Bs) (hl : ss.length < 1000000000) : T (k + 5) 146 [.agg [.int .i64 7, .int .i64 srt, .str nm, .str num, .int .i64 kids], .imm 1 (zrow ss)] = some (.int .i64 (sortV 7 srt ss), []) := by
  refine enter rfl func146 rfl (by decide) (by kernel_rfl) rfl rfl ?_
  have q := all_T (k := k) ss 1 hl
  have e : sortV 7 srt ss = whenI (ss.all fun x => decide (x = 1)) 1 := rfl
  rw [e]
  refine zs1 q ?_
  refine WX.call tab_eq rfl rfl rfl rfl rfl (whn (k := k + 3) _ _) rfl rfl ?_
  refine zs0 ?_
  rfl
theorem sortOf8 (ss : List Int) (srt kids : Int) (nm num : Bs) (hl : ss.length < 1000000000) : T (k + 5) 146 [.agg [.int .i64 8, .int .i64 srt, .str nm, .str num, .int .i64 kids], .imm 1 (zrow ss)] = some (.int .i64 (sortV 8 srt ss), []) := by
  refine enter rfl func146 rfl (by decide) (by kernel_rfl) rfl rfl ?_
  have q := all_T (k := k) ss 1 hl
  have e : sortV 8 srt ss = whenI (ss.all fun x => decide (x = 1)) 1 := rfl
  rw [e]
  refine zs1 q ?_
  refine WX.call tab_eq rfl rfl rfl rfl rfl (whn (k := k + 3) _ _) rfl rfl ?_
  refine zs0 ?_
  rfl
theorem sortOf9 (ss : List Int) (srt kids : Int) (nm num : Bs) (hl : ss.length < 1000000000) : T (k + 5) 146 [.agg [.int .i64 9, .int .i64 srt, .str nm, .str num, .int .i64 kids], .imm 1 (zrow ss)] = some (.int .i64 (sortV 9 srt ss), []) := by
  refine enter rfl func146 rfl (by decide) (by kernel_rfl) rfl rfl ?_
  have q := all_T (k := k) ss 1 hl
  have e : sortV 9 srt ss = whenI (ss.all fun x => decide (x = 1)) 1 := rfl
  rw [e]
  refine zs1 q ?_
  refine WX.call tab_eq rfl rfl rfl rfl rfl (whn (k := k + 3) _ _) rfl rfl ?_
  refine zs0 ?_
  rfl
theorem sortOf10 (ss : List Int) (srt kids : Int) (nm num : Bs) (hl : ss.length < 1000000000) (hn : 3 ≤ ss.length) : T (k + 5) 146 [.agg [.int .i64 10, .int .i64 srt, .str nm, .str num, .int .i64 kids], .imm 1 (zrow ss)] = some (.int .i64 (sortV 10 srt ss), []) := by
  refine enter rfl func146 rfl (by decide) (by kernel_rfl) rfl rfl ?_
  have hg := zrow_get (l := ss) (i := 0) (by omega)
  have hg1 := zrow_get (l := ss) (i := 1) (by omega)
  have hg2 := zrow_get (l := ss) (i := 2) (by omega)
  have e : sortV 10 srt ss = whenI (decide (ss.getD 0 0 = 1) && decide (ss.getD 1 0 = ss.getD 2 0)) (ss.getD 1 0) := rfl
  rw [e]
  generalize ss.getD 0 0 = x at *
  generalize ss.getD 1 0 = y at *
  generalize ss.getD 2 0 = z at *
  refine zd8 ?_
  refine WX.idxImmD tab_eq rfl rfl rfl rfl rfl rfl (by omega) (hg) ?_
  refine zd0 ?_
  refine WX.boolMD rfl rfl (fun d1 => ?_) (fun d1 => ?_)
  · rw [d1]
    refine zd0 ?_
    refine WX.idxImmD tab_eq rfl rfl rfl rfl rfl rfl (by omega) (hg1) ?_
    refine zd0 ?_
    refine WX.idxImmD tab_eq rfl rfl rfl rfl rfl rfl (by omega) (hg2) ?_
    refine zd0 ?_
    refine WX.idxImmD tab_eq rfl rfl rfl rfl rfl rfl (by omega) (hg1) ?_
    refine zd0 ?_
    refine WX.callD tab_eq rfl rfl rfl rfl rfl (whn (k := k + 3) _ _) rfl rfl ?_
    refine zd7 ?_
    rfl
  · rw [d1]
    refine zd0 ?_
    refine WX.idxImmD tab_eq rfl rfl rfl rfl rfl rfl (by omega) (hg1) ?_
    refine zd0 ?_
    refine WX.callD tab_eq rfl rfl rfl rfl rfl (whn (k := k + 3) _ _) rfl rfl ?_
    refine zd7 ?_
    rfl
theorem sortOf11 (ss : List Int) (srt kids : Int) (nm num : Bs) (hl : ss.length < 1000000000) (hn : 2 ≤ ss.length) : T (k + 5) 146 [.agg [.int .i64 11, .int .i64 srt, .str nm, .str num, .int .i64 kids], .imm 1 (zrow ss)] = some (.int .i64 (sortV 11 srt ss), []) := by
  refine enter rfl func146 rfl (by decide) (by kernel_rfl) rfl rfl ?_
  have hg := zrow_get (l := ss) (i := 0) (by omega)
  have hg1 := zrow_get (l := ss) (i := 1) (by omega)
  have e : sortV 11 srt ss = whenI (decide (ss.getD 0 0 = ss.getD 1 0)) 1 := rfl
  rw [e]
  generalize ss.getD 0 0 = x at *
  generalize ss.getD 1 0 = y at *
  refine zd8 ?_
  refine WX.idxImmD tab_eq rfl rfl rfl rfl rfl rfl (by omega) (hg) ?_
  refine zd0 ?_
  refine WX.idxImmD tab_eq rfl rfl rfl rfl rfl rfl (by omega) (hg1) ?_
  refine zd0 ?_
  refine WX.callD tab_eq rfl rfl rfl rfl rfl (whn (k := k + 3) _ _) rfl rfl ?_
  refine zd7 ?_
  rfl
theorem sortOf12 (ss : List Int) (srt kids : Int) (nm num : Bs) (hl : ss.length < 1000000000) (hn : 2 ≤ ss.length) : T (k + 5) 146 [.agg [.int .i64 12, .int .i64 srt, .str nm, .str num, .int .i64 kids], .imm 1 (zrow ss)] = some (.int .i64 (sortV 12 srt ss), []) := by
  refine enter rfl func146 rfl (by decide) (by kernel_rfl) rfl rfl ?_
  have hg := zrow_get (l := ss) (i := 0) (by omega)
  have e : sortV 12 srt ss = whenI (numS (ss.getD 0 0) && (ss.all fun y => decide (y = ss.getD 0 0))) 1 := rfl
  rw [e]
  generalize ss.getD 0 0 = x at *
  have q := all_T (k := k) ss x hl
  have q2 : T (k + 4) 176 [.int .i64 x] = some (.bool (numS x), []) := numeric_T (k := k + 3) x
  generalize (ss.all fun y => decide (y = x)) = b at *
  generalize numS x = c at *
  refine zs0 ?_
  refine WX.idxImm tab_eq rfl rfl rfl rfl rfl rfl (by omega) (hg) ?_
  refine zs0 ?_
  refine zs3 q2 ?_
  cases c
  · refine zs0 ?_
    refine WX.call tab_eq rfl rfl rfl rfl rfl (whn (k := k + 3) _ _) rfl rfl ?_
    refine zs0 ?_
    rfl
  · refine zs0 ?_
    refine WX.idxImm tab_eq rfl rfl rfl rfl rfl rfl (by omega) (hg) ?_
    refine zs1 q ?_
    refine WX.call tab_eq rfl rfl rfl rfl rfl (whn (k := k + 3) _ _) rfl rfl ?_
    refine zs0 ?_
    rfl
theorem sortOf13 (ss : List Int) (srt kids : Int) (nm num : Bs) (hl : ss.length < 1000000000) (hn : 2 ≤ ss.length) : T (k + 5) 146 [.agg [.int .i64 13, .int .i64 srt, .str nm, .str num, .int .i64 kids], .imm 1 (zrow ss)] = some (.int .i64 (sortV 13 srt ss), []) := by
  refine enter rfl func146 rfl (by decide) (by kernel_rfl) rfl rfl ?_
  have hg := zrow_get (l := ss) (i := 0) (by omega)
  have e : sortV 13 srt ss = whenI (numS (ss.getD 0 0) && (ss.all fun y => decide (y = ss.getD 0 0))) 1 := rfl
  rw [e]
  generalize ss.getD 0 0 = x at *
  have q := all_T (k := k) ss x hl
  have q2 : T (k + 4) 176 [.int .i64 x] = some (.bool (numS x), []) := numeric_T (k := k + 3) x
  generalize (ss.all fun y => decide (y = x)) = b at *
  generalize numS x = c at *
  refine zs0 ?_
  refine WX.idxImm tab_eq rfl rfl rfl rfl rfl rfl (by omega) (hg) ?_
  refine zs0 ?_
  refine zs3 q2 ?_
  cases c
  · refine zs0 ?_
    refine WX.call tab_eq rfl rfl rfl rfl rfl (whn (k := k + 3) _ _) rfl rfl ?_
    refine zs0 ?_
    rfl
  · refine zs0 ?_
    refine WX.idxImm tab_eq rfl rfl rfl rfl rfl rfl (by omega) (hg) ?_
    refine zs1 q ?_
    refine WX.call tab_eq rfl rfl rfl rfl rfl (whn (k := k + 3) _ _) rfl rfl ?_
    refine zs0 ?_
    rfl
theorem sortOf14 (ss : List Int) (srt kids : Int) (nm num : Bs) (hl : ss.length < 1000000000) (hn : 1 ≤ ss.length) : T (k + 5) 146 [.agg [.int .i64 14, .int .i64 srt, .str nm, .str num, .int .i64 kids], .imm 1 (zrow ss)] = some (.int .i64 (sortV 14 srt ss), []) := by
  refine enter rfl func146 rfl (by decide) (by kernel_rfl) rfl rfl ?_
  have hg := zrow_get (l := ss) (i := 0) (by omega)
  have e : sortV 14 srt ss = whenI (numS (ss.getD 0 0) && (ss.all fun y => decide (y = ss.getD 0 0))) (ss.getD 0 0) := rfl
  rw [e]
  generalize ss.getD 0 0 = x at *
  have q := all_T (k := k) ss x hl
  have q2 : T (k + 4) 176 [.int .i64 x] = some (.bool (numS x), []) := numeric_T (k := k + 3) x
  generalize (ss.all fun y => decide (y = x)) = b at *
  generalize numS x = c at *
  refine zd8 ?_
  refine WX.idxImmD tab_eq rfl rfl rfl rfl rfl rfl (by omega) (hg) ?_
  refine zd0 ?_
  refine zd3 q2 ?_
  cases c
  · refine zd0 ?_
    refine WX.idxImmD tab_eq rfl rfl rfl rfl rfl rfl (by omega) (hg) ?_
    refine zd0 ?_
    refine WX.callD tab_eq rfl rfl rfl rfl rfl (whn (k := k + 3) _ _) rfl rfl ?_
    refine zd7 ?_
    rfl
  · refine zd0 ?_
    refine WX.idxImmD tab_eq rfl rfl rfl rfl rfl rfl (by omega) (hg) ?_
    refine zd2 q ?_
    refine WX.idxImmD tab_eq rfl rfl rfl rfl rfl rfl (by omega) (hg) ?_
    refine zd0 ?_
    refine WX.callD tab_eq rfl rfl rfl rfl rfl (whn (k := k + 3) _ _) rfl rfl ?_
    refine zd7 ?_
    rfl
theorem sortOf15 (ss : List Int) (srt kids : Int) (nm num : Bs) (hl : ss.length < 1000000000) (hn : 2 ≤ ss.length) : T (k + 5) 146 [.agg [.int .i64 15, .int .i64 srt, .str nm, .str num, .int .i64 kids], .imm 1 (zrow ss)] = some (.int .i64 (sortV 15 srt ss), []) := by
  refine enter rfl func146 rfl (by decide) (by kernel_rfl) rfl rfl ?_
  have hg := zrow_get (l := ss) (i := 0) (by omega)
  have e : sortV 15 srt ss = whenI (numS (ss.getD 0 0) && (ss.all fun y => decide (y = ss.getD 0 0))) (ss.getD 0 0) := rfl
  rw [e]
  generalize ss.getD 0 0 = x at *
  have q := all_T (k := k) ss x hl
  have q2 : T (k + 4) 176 [.int .i64 x] = some (.bool (numS x), []) := numeric_T (k := k + 3) x
  generalize (ss.all fun y => decide (y = x)) = b at *
  generalize numS x = c at *
  refine zd8 ?_
  refine WX.idxImmD tab_eq rfl rfl rfl rfl rfl rfl (by omega) (hg) ?_
  refine zd0 ?_
  refine zd3 q2 ?_
  cases c
  · refine zd0 ?_
    refine WX.idxImmD tab_eq rfl rfl rfl rfl rfl rfl (by omega) (hg) ?_
    refine zd0 ?_
    refine WX.callD tab_eq rfl rfl rfl rfl rfl (whn (k := k + 3) _ _) rfl rfl ?_
    refine zd7 ?_
    rfl
  · refine zd0 ?_
    refine WX.idxImmD tab_eq rfl rfl rfl rfl rfl rfl (by omega) (hg) ?_
    refine zd2 q ?_
    refine WX.idxImmD tab_eq rfl rfl rfl rfl rfl rfl (by omega) (hg) ?_
    refine zd0 ?_
    refine WX.callD tab_eq rfl rfl rfl rfl rfl (whn (k := k + 3) _ _) rfl rfl ?_
    refine zd7 ?_
    rfl
theorem sortOf16 (ss : List Int) (srt kids : Int) (nm num : Bs) (hl : ss.length < 1000000000) (hn : 1 ≤ ss.length) : T (k + 5) 146 [.agg [.int .i64 16, .int .i64 srt, .str nm, .str num, .int .i64 kids], .imm 1 (zrow ss)] = some (.int .i64 (sortV 16 srt ss), []) := by
  refine enter rfl func146 rfl (by decide) (by kernel_rfl) rfl rfl ?_
  have hg := zrow_get (l := ss) (i := 0) (by omega)
  have e : sortV 16 srt ss = whenI (decide (ss.getD 0 0 = 2)) 2 := rfl
  rw [e]
  generalize ss.getD 0 0 = x at *
  refine zs0 ?_
  refine WX.idxImm tab_eq rfl rfl rfl rfl rfl rfl (by omega) (hg) ?_
  refine zs0 ?_
  refine WX.call tab_eq rfl rfl rfl rfl rfl (whn (k := k + 3) _ _) rfl rfl ?_
  refine zs0 ?_
  rfl
theorem sortOf17 (ss : List Int) (srt kids : Int) (nm num : Bs) (hl : ss.length < 1000000000) (hn : 1 ≤ ss.length) : T (k + 5) 146 [.agg [.int .i64 17, .int .i64 srt, .str nm, .str num, .int .i64 kids], .imm 1 (zrow ss)] = some (.int .i64 (sortV 17 srt ss), []) := by
  refine enter rfl func146 rfl (by decide) (by kernel_rfl) rfl rfl ?_
  have hg := zrow_get (l := ss) (i := 0) (by omega)
  have e : sortV 17 srt ss = whenI (decide (ss.getD 0 0 = 2)) 2 := rfl
  rw [e]
  generalize ss.getD 0 0 = x at *
  refine zs0 ?_
  refine WX.idxImm tab_eq rfl rfl rfl rfl rfl rfl (by omega) (hg) ?_
  refine zs0 ?_
  refine WX.call tab_eq rfl rfl rfl rfl rfl (whn (k := k + 3) _ _) rfl rfl ?_
  refine zs0 ?_
  rfl
theorem sortOf18 (ss : List Int) (srt kids : Int) (nm num : Bs) (hl : ss.length < 1000000000) (hn : 2 ≤ ss.length) : T (k + 5) 146 [.agg [.int .i64 18, .int .i64 srt, .str nm, .str num, .int .i64 kids], .imm 1 (zrow ss)] = some (.int .i64 (sortV 18 srt ss), []) := by
  refine enter rfl func146 rfl (by decide) (by kernel_rfl) rfl rfl ?_
  have hg := zrow_get (l := ss) (i := 0) (by omega)
  have hg1 := zrow_get (l := ss) (i := 1) (by omega)
  have e : sortV 18 srt ss = whenI (decide (ss.getD 0 0 = 4) && decide (ss.getD 1 0 = 2)) 2 := rfl
  rw [e]
  generalize ss.getD 0 0 = x at *
  generalize ss.getD 1 0 = y at *
  refine zs0 ?_
  refine WX.idxImm tab_eq rfl rfl rfl rfl rfl rfl (by omega) (hg) ?_
  refine zs0 ?_
  refine WX.boolM rfl rfl (fun d1 => ?_) (fun d1 => ?_)
  · rw [d1]
    refine zs0 ?_
    refine WX.idxImm tab_eq rfl rfl rfl rfl rfl rfl (by omega) (hg1) ?_
    refine zs0 ?_
    refine WX.call tab_eq rfl rfl rfl rfl rfl (whn (k := k + 3) _ _) rfl rfl ?_
    refine zs0 ?_
    rfl
  · rw [d1]
    refine zs0 ?_
    refine WX.call tab_eq rfl rfl rfl rfl rfl (whn (k := k + 3) _ _) rfl rfl ?_
    refine zs0 ?_
    rfl
theorem sortOf19 (ss : List Int) (srt kids : Int) (nm num : Bs) (hl : ss.length < 1000000000) (hn : 3 ≤ ss.length) : T (k + 5) 146 [.agg [.int .i64 19, .int .i64 srt, .str nm, .str num, .int .i64 kids], .imm 1 (zrow ss)] = some (.int .i64 (sortV 19 srt ss), []) := by
  refine enter rfl func146 rfl (by decide) (by kernel_rfl) rfl rfl ?_
  have hg := zrow_get (l := ss) (i := 0) (by omega)
  have e : sortV 19 srt ss = whenI (decide (ss.getD 0 0 = 4) && ((ss.drop 1).all fun y => decide (y = 2))) 4 := rfl
  rw [e]
  have q := all_T (k := k) (ss.drop 1) 2 (by simp; omega)
  rw [← zdrop] at q
  generalize ss.getD 0 0 = x at *
  generalize ((ss.drop 1).all fun y => decide (y = 2)) = b at *
  refine zs0 ?_
  refine WX.idxImm tab_eq rfl rfl rfl rfl rfl rfl (by omega) (hg) ?_
  refine zs0 ?_
  refine WX.boolM rfl rfl (fun d1 => ?_) (fun d1 => ?_)
  · rw [d1]
    refine zs0 ?_
    refine WX.step tab_eq rfl rfl (by rw [zrow_len]; omega) ?_
    refine zs1 q ?_
    refine WX.call tab_eq rfl rfl rfl rfl rfl (whn (k := k + 3) _ _) rfl rfl ?_
    refine zs0 ?_
    rfl
  · rw [d1]
    refine zs0 ?_
    refine WX.call tab_eq rfl rfl rfl rfl rfl (whn (k := k + 3) _ _) rfl rfl ?_
    refine zs0 ?_
    rfl
theorem sortOf20 (ss : List Int) (srt kids : Int) (nm num : Bs) (hl : ss.length < 1000000000) (hn : 1 ≤ ss.length) : T (k + 5) 146 [.agg [.int .i64 20, .int .i64 srt, .str nm, .str num, .int .i64 kids], .imm 1 (zrow ss)] = some (.int .i64 (sortV 20 srt ss), []) := by
  refine enter rfl func146 rfl (by decide) (by kernel_rfl) rfl rfl ?_
  have hg := zrow_get (l := ss) (i := 0) (by omega)
  have e : sortV 20 srt ss = whenI (decide (ss.getD 0 0 = 2)) 4 := rfl
  rw [e]
  generalize ss.getD 0 0 = x at *
  refine zs0 ?_
  refine WX.idxImm tab_eq rfl rfl rfl rfl rfl rfl (by omega) (hg) ?_
  refine zs0 ?_
  refine WX.call tab_eq rfl rfl rfl rfl rfl (whn (k := k + 3) _ _) rfl rfl ?_
  refine zs0 ?_
  rfl
theorem sortOf_T (n : Node) (ss : List Int) (hl : ss.length < 1000000000) (h1 : 1 ≤ n.op) (h2 : n.op ≤ 20) (hc : countB n.op ss.length = true) : T (k + 5) 146 [.agg (nodeP n), .imm 1 (zrow ss)] = some (.int .i64 (sortV n.op n.sort ss), []) := by
  obtain ⟨op, srt, kids, nm, num⟩ := n
  simp only at h1 h2 hc
  unfold nodeP
  simp only
  have h3 : op = 1 ∨ op = 2 ∨ op = 3 ∨ op = 4 ∨ op = 5 ∨ op = 6 ∨ op = 7 ∨ op = 8 ∨ op = 9 ∨ op = 10 ∨ op = 11 ∨ op = 12 ∨ op = 13 ∨ op = 14 ∨ op = 15 ∨ op = 16 ∨ op = 17 ∨ op = 18 ∨ op = 19 ∨ op = 20 := by omega
  rcases h3 with rfl | rfl | rfl | rfl | rfl | rfl | rfl | rfl | rfl | rfl | rfl | rfl | rfl | rfl | rfl | rfl | rfl | rfl | rfl | rfl
  · exact sortOf1 ss srt kids nm num hl
  · exact sortOf2 ss srt kids nm num hl
  · exact sortOf3 ss srt kids nm num hl
  · exact sortOf4 ss srt kids nm num hl
  · exact sortOf5 ss srt kids nm num hl
  · exact sortOf6 ss srt kids nm num hl
  · exact sortOf7 ss srt kids nm num hl
  · exact sortOf8 ss srt kids nm num hl
  · exact sortOf9 ss srt kids nm num hl
  · exact sortOf10 ss srt kids nm num hl (by simp [countB] at hc; omega)
  · exact sortOf11 ss srt kids nm num hl (by simp [countB] at hc; omega)
  · exact sortOf12 ss srt kids nm num hl (by simp [countB] at hc; omega)
  · exact sortOf13 ss srt kids nm num hl (by simp [countB] at hc; omega)
  · exact sortOf14 ss srt kids nm num hl (by simp [countB] at hc; omega)
  · exact sortOf15 ss srt kids nm num hl (by simp [countB] at hc; omega)
  · exact sortOf16 ss srt kids nm num hl (by simp [countB] at hc; omega)
  · exact sortOf17 ss srt kids nm num hl (by simp [countB] at hc; omega)
  · exact sortOf18 ss srt kids nm num hl (by simp [countB] at hc; omega)
  · exact sortOf19 ss srt kids nm num hl (by simp [countB] at hc; omega)
  · exact sortOf20 ss srt kids nm num hl (by simp [countB] at hc; omega)
end Go.PE
