/-
  A part of the proof that the law's function returns true and leaves its arguments as they were, for every input (no condition): own lemmas of the proof, in the order of their use.
-/
import Derived.Test.YtggpmnlmbfogeaaGreatDoorV23
import Derived.Test.YtggpmnlmbfogeaaGreatDoorV14
import Derived.Test.YtggpmnlmbfogeaaGreatDoorV12
import Derived.Shelf.Strings.BuilderK
set_option linter.all false
namespace Go.PE
open Go.RowKit Go.Proofs.Tryz
set_option maxRecDepth 100000
variable {k : Nat}
def numQ (c : Ch) : Rat := (intN c : Rat) / ((1 + nxV (intC c) 4 : Int) : Rat)
def numC (c : Ch) : Ch := nxC (intC c)
theorem okCh_int {c : Ch} (h : okCh c) : okCh (intC c) := by
  unfold intC
  split
  · exact okCh_nx (okCh_nx h)
  · split
    · exact okCh_nx (okCh_nx (okCh_nx h))
    · exact okCh_nx (okCh_nx h)
theorem okCh_num {c : Ch} (h : okCh c) : okCh (numC c) := okCh_nx (okCh_int h)
theorem intN_lt (c : Ch) : (intN c).natAbs < 10 ^ 30 := by
  unfold intN
  have b2 := nx_lt (nxC c) (n := 2001) (by omega) (by omega)
  have b3 := nx_lt (nxC c) (n := 1099511627776) (by omega) (by omega)
  have b4 := nx_lt (nxC (nxC c)) (n := 1099511627776) (by omega) (by omega)
  have b5 := nx_lt (nxC c) (n := 9) (by omega) (by omega)
  split
  · omega
  · split
    · rw [Int.natAbs_mul]
      have : (nxV (nxC c) 1099511627776 - 549755813888).natAbs * (nxV (nxC (nxC c)) 1099511627776).natAbs ≤ 1099511627776 * 1099511627776 := Nat.mul_le_mul (by omega) (by omega)
      omega
    · omega
theorem qt_len (neg : Bool) (n d : Nat) : (qt neg n d).length ≤ 2 + (dec n).length + (dec d).length := by
  unfold qt; rw [List.length_append, List.length_append]
  split <;> split <;> simp <;> omega
theorem numQ_len (c : Ch) : (rs (numQ c)).length ≤ 100 := by
  have b := nx_lt (intC c) (n := 4) (by omega) (by omega)
  have hi := intN_lt c
  unfold numQ
  generalize nxV (intC c) 4 = v at *
  generalize intN c = m at *
  have e : ((m : Rat) / ((1 + v : Int) : Rat)) = mkRat m (1 + v).toNat := by
    rw [Rat.mkRat_eq_div]
    congr 1
    rw [show ((1 + v).toNat : Rat) = (((1 + v).toNat : Int) : Rat) from rfl, Int.toNat_of_nonneg (by omega)]
  have hs : m = sg (decide (m < 0)) m.natAbs := by
    unfold sg; by_cases h : m < 0 <;> simp [h] <;> omega
  rw [e, hs, rs_mkRat _ _ _ (by omega)]
  have h1 := qt_len (decide (m < 0)) (m.natAbs / m.natAbs.gcd (1 + v).toNat) ((1 + v).toNat / m.natAbs.gcd (1 + v).toNat)
  have h2 := dec_len_mono (Nat.div_le_self m.natAbs (m.natAbs.gcd (1 + v).toNat))
  have h3 := dec_len_mono (Nat.div_le_self (1 + v).toNat (m.natAbs.gcd (1 + v).toNat))
  have h4 := dec_len_le (n := m.natAbs) (k := 30) (by omega) hi
  have h5 := dec_len_le (n := (1 + v).toNat) (k := 1) (by omega) (by omega)
  omega
theorem number_T (c : Ch) (h : okCh c) : T (k + 9) 35 [.box (0, 0) (chC c)] = some (.str (rs (numQ c)), [chC (numC c)]) := by
  have n1 := integer_T (k := k) c h
  have h' := okCh_int h
  have n2 := next_T (k := k + 6) (intC c) 4 (by omega) (by omega) h'.1 h'.2
  have b := nx_lt (intC c) (n := 4) (by omega) (by omega)
  have hi := intN_lt c
  unfold numQ numC
  generalize nxV (intC c) 4 = v at *
  generalize intN c = m at *
  have hv : ((1 + v : Int) : Rat) ≠ 0 := by
    intro e
    have : ((1 + v : Int) : Rat).num = (0 : Rat).num := by rw [e]
    have : (1 + v : Int) = 0 := this
    omega
  refine enter rfl func35 rfl (by decide) (by kernel_rfl) rfl rfl ?_
  repeat (first | refine WX.step tab_eq rfl rfl trivial ?_ | refine WX.step tab_eq rfl rfl (by decide) ?_ | refine WX.nil ?_ | refine W.seq ?_ | refine W.region ?_ | refine W.regionD ?_ | refine W.block ?_ | refine W.skip ?_ | refine W.exit ?_ | refine W.ret ?_ | refine W.condT rfl ?_ | refine W.condF rfl ?_ | refine WX.skip rfl ?_)
  refine WX.call tab_eq rfl rfl rfl rfl rfl (n1) rfl rfl ?_
  repeat (first | refine WX.step tab_eq rfl rfl trivial ?_ | refine WX.step tab_eq rfl rfl (by decide) ?_ | refine WX.nil ?_ | refine W.seq ?_ | refine W.region ?_ | refine W.regionD ?_ | refine W.block ?_ | refine W.skip ?_ | refine W.exit ?_ | refine W.ret ?_ | refine W.condT rfl ?_ | refine W.condF rfl ?_ | refine WX.skip rfl ?_)
  refine WX.call tab_eq rfl rfl rfl rfl rfl (n2) rfl rfl ?_
  repeat (first | refine WX.step tab_eq rfl rfl trivial ?_ | refine WX.step tab_eq rfl rfl (by decide) ?_ | refine WX.nil ?_ | refine W.seq ?_ | refine W.region ?_ | refine W.regionD ?_ | refine W.block ?_ | refine W.skip ?_ | refine W.exit ?_ | refine W.ret ?_ | refine W.condT rfl ?_ | refine W.condF rfl ?_ | refine WX.skip rfl ?_)
  rw [wrap_i64 (x := 1 + v) (by omega) (by omega)]
  refine WX.call tab_eq rfl rfl rfl rfl rfl (fromInt_T (k := k + 7) (1 + v) (by omega) (by omega)) rfl rfl ?_
  repeat (first | refine WX.step tab_eq rfl rfl trivial ?_ | refine WX.step tab_eq rfl rfl (by decide) ?_ | refine WX.nil ?_ | refine W.seq ?_ | refine W.region ?_ | refine W.regionD ?_ | refine W.block ?_ | refine W.skip ?_ | refine W.exit ?_ | refine W.ret ?_ | refine W.condT rfl ?_ | refine W.condF rfl ?_ | refine WX.skip rfl ?_)
  refine WX.call tab_eq rfl rfl rfl rfl rfl (rdiv_T (k := k + 1) (m : Rat) ((1 + v : Int) : Rat) hv (smQ_int _ (by omega)) (smQ_int _ (by omega))) rfl rfl ?_
  repeat (first | refine WX.step tab_eq rfl rfl trivial ?_ | refine WX.step tab_eq rfl rfl (by decide) ?_ | refine WX.nil ?_ | refine W.seq ?_ | refine W.region ?_ | refine W.regionD ?_ | refine W.block ?_ | refine W.skip ?_ | refine W.exit ?_ | refine W.ret ?_ | refine W.condT rfl ?_ | refine W.condF rfl ?_ | refine WX.skip rfl ?_)
  rfl
/-- What the generator's linear makes of one variable. -/
def linS (st : Ch × List Trm) (x : Bs) : Ch × List Trm :=
  let q := numQ st.1
  let c1 := numC st.1
  let v := nxV c1 2
  (nxC c1, if v = 1 ∧ rs q ≠ [48] then st.2 ++ [(x, rs q)] else st.2)
def vars : List Bs := [[117], [118], [120], [121]]
def linG (c : Ch) : Bs × (Ch × List Trm) := (rs (numQ c), vars.foldl linS (numC c, []))
theorem linear_T (c : Ch) (h : okCh c) (kind : Int) : T (k + 10) 21 [.box (0, 0) (chC c), .int .i64 kind] = some (.agg [.int .i64 kind, .imm 2 (trow (linG c).2.2), .str (linG c).1], [chC (linG c).2.1]) := by
  have n1 := number_T (k := k) c h
  have h' := okCh_num h
  unfold linG
  generalize numC c = c1 at *
  generalize numQ c = q at *
  refine enter rfl func21 rfl (by decide) (by kernel_rfl) rfl rfl ?_
  repeat (first | refine WX.step tab_eq rfl rfl trivial ?_ | refine WX.step tab_eq rfl rfl (by decide) ?_ | refine WX.nil ?_ | refine W.seq ?_ | refine W.region ?_ | refine W.regionD ?_ | refine W.block ?_ | refine W.skip ?_ | refine W.exit ?_ | refine W.ret ?_ | refine W.condT rfl ?_ | refine W.condF rfl ?_ | refine WX.skip rfl ?_)
  refine WX.call tab_eq rfl rfl rfl rfl rfl (n1) rfl rfl ?_
  repeat (first | refine WX.step tab_eq rfl rfl trivial ?_ | refine WX.step tab_eq rfl rfl (by decide) ?_ | refine WX.nil ?_ | refine W.seq ?_ | refine W.region ?_ | refine W.regionD ?_ | refine W.block ?_ | refine W.skip ?_ | refine W.exit ?_ | refine W.ret ?_ | refine W.condT rfl ?_ | refine W.condF rfl ?_ | refine WX.skip rfl ?_)
  refine W.loop (fun e m => ∃ (i : Nat) (st : Ch × List Trm), e = [(0, .box (0, 0) (chC st.1)), (4, .box (0, 0) [.int .i64 0, .own (0, 0) 2 [], .str []]), (5, .box (0, 0) [.int .i64 kind, .own (0, 0) 2 (trow st.2), .str (rs q)]), (6, .own (0, 0) 1 (vars.map fun w => [.str w])), (7, .int .i64 i)] ∧
    i ≤ 4 ∧ okCh st.1 ∧ st.2.length ≤ i ∧ (vars.drop i).foldl linS st = vars.foldl linS (c1, []) ∧ m = 4 - i) 4 ?_ ?_ ?_
  · refine ⟨0, (c1, []), ?_, by omega, h', by simp, rfl, by omega⟩
    rfl
  · show _ < 4611686018427387904; omega
  · rintro e m ⟨i, st, rfl, hi, hk, hln, hf, rfl⟩
    repeat (first | refine WX.step tab_eq rfl rfl trivial ?_ | refine WX.step tab_eq rfl rfl (by decide) ?_ | refine WX.nil ?_ | refine W.seq ?_ | refine W.region ?_ | refine W.regionD ?_ | refine W.block ?_ | refine W.skip ?_ | refine W.exit ?_ | refine W.ret ?_ | refine W.condT rfl ?_ | refine W.condF rfl ?_ | refine WX.skip rfl ?_)
    refine W.cond rfl (fun hlt => ?_) (fun hlt => ?_)
    · have hi4 : i < 4 := by
        have := of_decide_eq_true hlt
        simp only [List.length_map, vars, List.length_cons, List.length_nil] at this
        omega
      have hdrop : vars.drop i = vars.getD i [] :: vars.drop (i + 1) := by
        rw [List.drop_eq_getElem_cons (show i < vars.length from hi4)]
        simp [List.getD, List.getElem?_eq_getElem (show i < vars.length from hi4)]
      have hg : (vars.map fun w => [PV.str w])[i]? = some [.str (vars.getD i [])] := by
        rw [List.getElem?_map, List.getElem?_eq_getElem (show i < vars.length from hi4)]
        simp [List.getD, List.getElem?_eq_getElem (show i < vars.length from hi4)]
      rw [hdrop, List.foldl_cons] at hf
      obtain ⟨cc, acc⟩ := st
      simp only at hk hln hf
      have n2 := number_T (k := k) cc hk
      have hk2 := okCh_num hk
      have n3 := next_T (k := k + 7) (numC cc) 2 (by omega) (by omega) hk2.1 hk2.2
      have b3 := nx_lt (numC cc) (n := 2) (by omega) (by omega)
      have hk3 := okCh_nx hk2
      unfold linS at hf
      simp only at hf
      repeat (first | refine WX.step tab_eq rfl rfl trivial ?_ | refine WX.step tab_eq rfl rfl (by decide) ?_ | refine WX.nil ?_ | refine W.seq ?_ | refine W.region ?_ | refine W.regionD ?_ | refine W.block ?_ | refine W.skip ?_ | refine W.exit ?_ | refine W.ret ?_ | refine W.condT rfl ?_ | refine W.condF rfl ?_ | refine WX.skip rfl ?_)
      refine WX.call tab_eq rfl rfl rfl rfl rfl (n2) rfl rfl ?_
      repeat (first | refine WX.step tab_eq rfl rfl trivial ?_ | refine WX.step tab_eq rfl rfl (by decide) ?_ | refine WX.nil ?_ | refine W.seq ?_ | refine W.region ?_ | refine W.regionD ?_ | refine W.block ?_ | refine W.skip ?_ | refine W.exit ?_ | refine W.ret ?_ | refine W.condT rfl ?_ | refine W.condF rfl ?_ | refine WX.skip rfl ?_)
      refine WX.call tab_eq rfl rfl rfl rfl rfl (n3) rfl rfl ?_
      repeat (first | refine WX.step tab_eq rfl rfl trivial ?_ | refine WX.step tab_eq rfl rfl (by decide) ?_ | refine WX.nil ?_ | refine W.seq ?_ | refine W.region ?_ | refine W.regionD ?_ | refine W.block ?_ | refine W.skip ?_ | refine W.exit ?_ | refine W.ret ?_ | refine W.condT rfl ?_ | refine W.condF rfl ?_ | refine WX.skip rfl ?_)
      refine WX.boolM rfl rfl (fun c1 => ?_) (fun c1 => ?_)
      · have c1 := of_decide_eq_true c1
        repeat (first | refine WX.step tab_eq rfl rfl trivial ?_ | refine WX.step tab_eq rfl rfl (by decide) ?_ | refine WX.nil ?_ | refine W.seq ?_ | refine W.region ?_ | refine W.regionD ?_ | refine W.block ?_ | refine W.skip ?_ | refine W.exit ?_ | refine W.ret ?_ | refine W.condT rfl ?_ | refine W.condF rfl ?_ | refine WX.skip rfl ?_)
        refine W.cond rfl (fun c2 => ?_) (fun c2 => ?_)
        · have c2 : rs (numQ cc) ≠ [48] := of_decide_eq_true c2
          rw [if_pos ⟨c1, c2⟩] at hf
          repeat (first | refine WX.step tab_eq rfl rfl trivial ?_ | refine WX.step tab_eq rfl rfl (by decide) ?_ | refine WX.nil ?_ | refine W.seq ?_ | refine W.region ?_ | refine W.regionD ?_ | refine W.block ?_ | refine W.skip ?_ | refine W.exit ?_ | refine W.ret ?_ | refine W.condT rfl ?_ | refine W.condF rfl ?_ | refine WX.skip rfl ?_)
          repeat (first | refine WX.stepD tab_eq rfl rfl trivial ?_ | refine WX.stepD tab_eq rfl rfl (by decide) ?_ | refine WX.skipD rfl ?_)
          refine WX.stepD tab_eq rfl rfl (by rw [List.length_map]; exact ⟨by omega, by show (i : Int) < 4; omega⟩) ?_
          rw [show 0 + (i : Int).toNat = i by omega]
          refine WX.ldElemD tab_eq rfl rfl rfl (hg) rfl rfl rfl rfl ?_
          repeat (first | refine WX.stepD tab_eq rfl rfl trivial ?_ | refine WX.stepD tab_eq rfl rfl (by decide) ?_ | refine WX.skipD rfl ?_)
          refine WX.stepD tab_eq rfl rfl (by simp [trow_len]; omega) ?_
          repeat (first | refine WX.stepD tab_eq rfl rfl trivial ?_ | refine WX.stepD tab_eq rfl rfl (by decide) ?_ | refine WX.skipD rfl ?_)
          refine WX.nilD (by kernel_rfl) ?_
          repeat (first | refine WX.step tab_eq rfl rfl trivial ?_ | refine WX.step tab_eq rfl rfl (by decide) ?_ | refine WX.nil ?_ | refine W.seq ?_ | refine W.region ?_ | refine W.regionD ?_ | refine W.block ?_ | refine W.skip ?_ | refine W.exit ?_ | refine W.ret ?_ | refine W.condT rfl ?_ | refine W.condF rfl ?_ | refine WX.skip rfl ?_)
          rw [wrap_i64 (x := (i : Int) + 1) (by omega) (by omega)]
          show ∃ m', _
          refine ⟨4 - (i + 1), by omega, i + 1, (nxC (numC cc), acc ++ [(vars.getD i [], rs (numQ cc))]), ?_, by omega, hk3, by simp only [List.length_append, List.length_singleton]; omega, hf, rfl⟩
          have e : (trow acc).take (trow acc).length ++ [[PV.str (vars.getD i []), .str (rs (numQ cc))]] = trow (acc ++ [(vars.getD i [], rs (numQ cc))]) := by
            rw [List.take_length]; simp [trow]
          rw [← e]
          rfl
        · have c2 : rs (numQ cc) = [48] := Decidable.not_not.1 (of_decide_eq_false c2)
          rw [if_neg (fun h => h.2 c2)] at hf
          repeat (first | refine WX.step tab_eq rfl rfl trivial ?_ | refine WX.step tab_eq rfl rfl (by decide) ?_ | refine WX.nil ?_ | refine W.seq ?_ | refine W.region ?_ | refine W.regionD ?_ | refine W.block ?_ | refine W.skip ?_ | refine W.exit ?_ | refine W.ret ?_ | refine W.condT rfl ?_ | refine W.condF rfl ?_ | refine WX.skip rfl ?_)
          rw [wrap_i64 (x := (i : Int) + 1) (by omega) (by omega)]
          show ∃ m', _
          exact ⟨4 - (i + 1), by omega, i + 1, (nxC (numC cc), acc), rfl, by omega, hk3, by simp only; omega, hf, rfl⟩
      · have c1 := of_decide_eq_false c1
        rw [if_neg (fun h => c1 h.1)] at hf
        repeat (first | refine WX.step tab_eq rfl rfl trivial ?_ | refine WX.step tab_eq rfl rfl (by decide) ?_ | refine WX.nil ?_ | refine W.seq ?_ | refine W.region ?_ | refine W.regionD ?_ | refine W.block ?_ | refine W.skip ?_ | refine W.exit ?_ | refine W.ret ?_ | refine W.condT rfl ?_ | refine W.condF rfl ?_ | refine WX.skip rfl ?_)
        rw [wrap_i64 (x := (i : Int) + 1) (by omega) (by omega)]
        show ∃ m', _
        exact ⟨4 - (i + 1), by omega, i + 1, (nxC (numC cc), acc), rfl, by omega, hk3, by simp only; omega, hf, rfl⟩
    · have hi4 : i = 4 := by
        have := of_decide_eq_false hlt
        simp only [List.length_map, vars, List.length_cons, List.length_nil] at this
        omega
      subst hi4
      have hf : st = vars.foldl linS (c1, []) := hf
      repeat (first | refine WX.step tab_eq rfl rfl trivial ?_ | refine WX.step tab_eq rfl rfl (by decide) ?_ | refine WX.nil ?_ | refine W.seq ?_ | refine W.region ?_ | refine W.regionD ?_ | refine W.block ?_ | refine W.skip ?_ | refine W.exit ?_ | refine W.ret ?_ | refine W.condT rfl ?_ | refine W.condF rfl ?_ | refine WX.skip rfl ?_)
      rw [← hf]
      rfl
end Go.PE
namespace Go.PE
open Go.RowKit Go.Proofs.Tryz
set_option maxRecDepth 100000
variable {k : Nat}
theorem linS_ok (st : Ch × List Trm) (x : Bs) (h : okCh st.1) : okCh (linS st x).1 := okCh_nx (okCh_num h)
theorem foldl_ok (l : List Bs) : ∀ st : Ch × List Trm, okCh st.1 → okCh (l.foldl linS st).1 := by
  induction l with
  | nil => intro st h; exact h
  | cons x l ih => intro st h; rw [List.foldl_cons]; exact ih _ (linS_ok st x h)
theorem linG_ok (c : Ch) (h : okCh c) : okCh (linG c).2.1 := foldl_ok vars _ (okCh_num h)
theorem foldl_sm (l : List Bs) (hl : ∀ x ∈ l, x.length < 100) : ∀ st : Ch × List Trm, (∀ t ∈ st.2, smallT t) → ∀ t ∈ (l.foldl linS st).2, smallT t := by
  induction l with
  | nil => intro st h; exact h
  | cons x l ih =>
    intro st h; rw [List.foldl_cons]
    refine ih (fun y hy => hl y (List.mem_cons_of_mem _ hy)) _ ?_
    intro t ht
    unfold linS at ht
    simp only at ht
    split at ht
    · rw [List.mem_append, List.mem_singleton] at ht
      rcases ht with ht | rfl
      · exact h t ht
      · have := hl x (List.mem_cons_self ..)
        have h2 := numQ_len st.1
        exact ⟨by simp only; omega, by simp only; omega⟩
    · exact h t ht
theorem linG_sm (c : Ch) : ∀ t ∈ (linG c).2.2, smallT t := foldl_sm vars (by decide) _ (fun t ht => by cases ht)
theorem foldl_len (l : List Bs) : ∀ st : Ch × List Trm, (l.foldl linS st).2.length ≤ st.2.length + l.length := by
  induction l with
  | nil => intro st; exact Nat.le_refl _
  | cons x l ih =>
    intro st; rw [List.foldl_cons]
    have := ih (linS st x)
    have h2 : (linS st x).2.length ≤ st.2.length + 1 := by
      unfold linS; simp only; split <;> simp
    rw [List.length_cons]; omega
theorem linG_len (c : Ch) : (linG c).2.2.length ≤ 4 := by
  have := foldl_len vars (numC c, [])
  exact this
theorem linG_c (c : Ch) : (linG c).1.length ≤ 100 := numQ_len c
structure Con where
  rel : Int
  kind : Int
  ts : List Trm
  c : Bs
  m : Bs
def conP (x : Con) : List PV := [.int .i64 x.rel, .int .i64 x.kind, .imm 2 (trow x.ts), .str x.c, .str x.m]
def conG (c : Ch) : Con × Ch :=
  let r := 1 + nxV c 5
  let kd := 2 + nxV (nxC c) 2
  let l := linG (nxC (nxC c))
  if 4 ≤ r then (⟨r, 2, l.2.2, l.1, rs ((1 + nxV l.2.1 12 : Int) : Rat)⟩, nxC l.2.1) else (⟨r, kd, l.2.2, l.1, []⟩, l.2.1)
theorem conG_T (c : Ch) (h : okCh c) : T (k + 11) 20 [.box (0, 0) (chC c)] = some (.agg (conP (conG c).1), [chC (conG c).2]) := by
  have n1 := next_T (k := k + 8) c 5 (by omega) (by omega) h.1 h.2
  have b1 := nx_lt c (n := 5) (by omega) (by omega)
  have h2 := okCh_nx h
  have n2 := next_T (k := k + 8) (nxC c) 2 (by omega) (by omega) h2.1 h2.2
  have b2 := nx_lt (nxC c) (n := 2) (by omega) (by omega)
  have h3 := okCh_nx h2
  unfold conG
  simp only
  generalize nxV c 5 = v1 at *
  generalize nxV (nxC c) 2 = v2 at *
  generalize nxC (nxC c) = c2 at *
  generalize nxC c = c1 at *
  have h4 := linG_ok c2 h3
  have n4 := next_T (k := k + 8) (linG c2).2.1 12 (by omega) (by omega) h4.1 h4.2
  have b4 := nx_lt (linG c2).2.1 (n := 12) (by omega) (by omega)
  by_cases hr : 4 ≤ 1 + v1
  · have n3 := linear_T (k := k) c2 h3 2
    rw [if_pos hr]
    generalize linG c2 = l at *
    obtain ⟨lc, ch, ts⟩ := l
    simp only at *
    generalize nxV ch 12 = v4 at *
    refine enter rfl func20 rfl (by decide) (by kernel_rfl) rfl rfl ?_
    repeat (first | refine WX.step tab_eq rfl rfl trivial ?_ | refine WX.step tab_eq rfl rfl (by decide) ?_ | refine WX.nil ?_ | refine W.seq ?_ | refine W.region ?_ | refine W.regionD ?_ | refine W.block ?_ | refine W.skip ?_ | refine W.exit ?_ | refine W.ret ?_ | refine W.condT rfl ?_ | refine W.condF rfl ?_ | refine WX.skip rfl ?_)
    refine WX.call tab_eq rfl rfl rfl rfl rfl (n1) rfl rfl ?_
    repeat (first | refine WX.step tab_eq rfl rfl trivial ?_ | refine WX.step tab_eq rfl rfl (by decide) ?_ | refine WX.nil ?_ | refine W.seq ?_ | refine W.region ?_ | refine W.regionD ?_ | refine W.block ?_ | refine W.skip ?_ | refine W.exit ?_ | refine W.ret ?_ | refine W.condT rfl ?_ | refine W.condF rfl ?_ | refine WX.skip rfl ?_)
    rw [wrap_i64 (x := 1 + v1) (by omega) (by omega)]
    refine WX.call tab_eq rfl rfl rfl rfl rfl (n2) rfl rfl ?_
    repeat (first | refine WX.step tab_eq rfl rfl trivial ?_ | refine WX.step tab_eq rfl rfl (by decide) ?_ | refine WX.nil ?_ | refine W.seq ?_ | refine W.region ?_ | refine W.regionD ?_ | refine W.block ?_ | refine W.skip ?_ | refine W.exit ?_ | refine W.ret ?_ | refine W.condT rfl ?_ | refine W.condF rfl ?_ | refine WX.skip rfl ?_)
    refine W.cond rfl (fun c1 => ?_) (fun c1 => ?_)
    · repeat (first | refine WX.step tab_eq rfl rfl trivial ?_ | refine WX.step tab_eq rfl rfl (by decide) ?_ | refine WX.nil ?_ | refine W.seq ?_ | refine W.region ?_ | refine W.regionD ?_ | refine W.block ?_ | refine W.skip ?_ | refine W.exit ?_ | refine W.ret ?_ | refine W.condT rfl ?_ | refine W.condF rfl ?_ | refine WX.skip rfl ?_)
      refine WX.call tab_eq rfl rfl rfl rfl rfl (n3) rfl rfl ?_
      repeat (first | refine WX.step tab_eq rfl rfl trivial ?_ | refine WX.step tab_eq rfl rfl (by decide) ?_ | refine WX.nil ?_ | refine W.seq ?_ | refine W.region ?_ | refine W.regionD ?_ | refine W.block ?_ | refine W.skip ?_ | refine W.exit ?_ | refine W.ret ?_ | refine W.condT rfl ?_ | refine W.condF rfl ?_ | refine WX.skip rfl ?_)
      refine W.cond rfl (fun c2 => ?_) (fun c2 => ?_)
      · repeat (first | refine WX.step tab_eq rfl rfl trivial ?_ | refine WX.step tab_eq rfl rfl (by decide) ?_ | refine WX.nil ?_ | refine W.seq ?_ | refine W.region ?_ | refine W.regionD ?_ | refine W.block ?_ | refine W.skip ?_ | refine W.exit ?_ | refine W.ret ?_ | refine W.condT rfl ?_ | refine W.condF rfl ?_ | refine WX.skip rfl ?_)
        refine WX.call tab_eq rfl rfl rfl rfl rfl (n4) rfl rfl ?_
        repeat (first | refine WX.step tab_eq rfl rfl trivial ?_ | refine WX.step tab_eq rfl rfl (by decide) ?_ | refine WX.nil ?_ | refine W.seq ?_ | refine W.region ?_ | refine W.regionD ?_ | refine W.block ?_ | refine W.skip ?_ | refine W.exit ?_ | refine W.ret ?_ | refine W.condT rfl ?_ | refine W.condF rfl ?_ | refine WX.skip rfl ?_)
        rw [wrap_i64 (x := 1 + v4) (by omega) (by omega)]
        refine WX.call tab_eq rfl rfl rfl rfl rfl (fromInt_T (k := k + 9) (1 + v4) (by omega) (by omega)) rfl rfl ?_
        repeat (first | refine WX.step tab_eq rfl rfl trivial ?_ | refine WX.step tab_eq rfl rfl (by decide) ?_ | refine WX.nil ?_ | refine W.seq ?_ | refine W.region ?_ | refine W.regionD ?_ | refine W.block ?_ | refine W.skip ?_ | refine W.exit ?_ | refine W.ret ?_ | refine W.condT rfl ?_ | refine W.condF rfl ?_ | refine WX.skip rfl ?_)
        rfl
      · exact absurd hr (of_decide_eq_false c2)
    · exact absurd hr (of_decide_eq_false c1)
  · have n3 := linear_T (k := k) c2 h3 (2 + v2)
    rw [if_neg hr]
    generalize linG c2 = l at *
    obtain ⟨lc, ch, ts⟩ := l
    simp only at *
    refine enter rfl func20 rfl (by decide) (by kernel_rfl) rfl rfl ?_
    repeat (first | refine WX.step tab_eq rfl rfl trivial ?_ | refine WX.step tab_eq rfl rfl (by decide) ?_ | refine WX.nil ?_ | refine W.seq ?_ | refine W.region ?_ | refine W.regionD ?_ | refine W.block ?_ | refine W.skip ?_ | refine W.exit ?_ | refine W.ret ?_ | refine W.condT rfl ?_ | refine W.condF rfl ?_ | refine WX.skip rfl ?_)
    refine WX.call tab_eq rfl rfl rfl rfl rfl (n1) rfl rfl ?_
    repeat (first | refine WX.step tab_eq rfl rfl trivial ?_ | refine WX.step tab_eq rfl rfl (by decide) ?_ | refine WX.nil ?_ | refine W.seq ?_ | refine W.region ?_ | refine W.regionD ?_ | refine W.block ?_ | refine W.skip ?_ | refine W.exit ?_ | refine W.ret ?_ | refine W.condT rfl ?_ | refine W.condF rfl ?_ | refine WX.skip rfl ?_)
    rw [wrap_i64 (x := 1 + v1) (by omega) (by omega)]
    refine WX.call tab_eq rfl rfl rfl rfl rfl (n2) rfl rfl ?_
    repeat (first | refine WX.step tab_eq rfl rfl trivial ?_ | refine WX.step tab_eq rfl rfl (by decide) ?_ | refine WX.nil ?_ | refine W.seq ?_ | refine W.region ?_ | refine W.regionD ?_ | refine W.block ?_ | refine W.skip ?_ | refine W.exit ?_ | refine W.ret ?_ | refine W.condT rfl ?_ | refine W.condF rfl ?_ | refine WX.skip rfl ?_)
    rw [wrap_i64 (x := 2 + v2) (by omega) (by omega)]
    refine W.cond rfl (fun c1 => ?_) (fun c1 => ?_)
    · exact absurd (of_decide_eq_true c1) hr
    · repeat (first | refine WX.step tab_eq rfl rfl trivial ?_ | refine WX.step tab_eq rfl rfl (by decide) ?_ | refine WX.nil ?_ | refine W.seq ?_ | refine W.region ?_ | refine W.regionD ?_ | refine W.block ?_ | refine W.skip ?_ | refine W.exit ?_ | refine W.ret ?_ | refine W.condT rfl ?_ | refine W.condF rfl ?_ | refine WX.skip rfl ?_)
      refine WX.call tab_eq rfl rfl rfl rfl rfl (n3) rfl rfl ?_
      repeat (first | refine WX.step tab_eq rfl rfl trivial ?_ | refine WX.step tab_eq rfl rfl (by decide) ?_ | refine WX.nil ?_ | refine W.seq ?_ | refine W.region ?_ | refine W.regionD ?_ | refine W.block ?_ | refine W.skip ?_ | refine W.exit ?_ | refine W.ret ?_ | refine W.condT rfl ?_ | refine W.condF rfl ?_ | refine WX.skip rfl ?_)
      refine W.cond rfl (fun c2 => ?_) (fun c2 => ?_)
      · exact absurd (of_decide_eq_true c2) hr
      · repeat (first | refine WX.step tab_eq rfl rfl trivial ?_ | refine WX.step tab_eq rfl rfl (by decide) ?_ | refine WX.nil ?_ | refine W.seq ?_ | refine W.region ?_ | refine W.regionD ?_ | refine W.block ?_ | refine W.skip ?_ | refine W.exit ?_ | refine W.ret ?_ | refine W.condT rfl ?_ | refine W.condF rfl ?_ | refine WX.skip rfl ?_)
        rfl
end Go.PE
namespace Go.PE
open Go.RowKit Go.Proofs.Tryz
set_option maxRecDepth 100000
variable {k : Nat}
def smT (t : Trm) : Bool := decide (t.1.length ≤ 60) && decide (t.2.length ≤ 40)
def smB (ts : List Trm) (c : Bs) : Bool := decide (ts.length ≤ 8) && (decide (c.length ≤ 40) && (List.range ts.length).all fun i => smT (ts.getD i ([], [])))
theorem smB_spec {ts : List Trm} {c : Bs} (h : smB ts c = true) : ts.length ≤ 8 ∧ c.length ≤ 40 ∧ ∀ t ∈ ts, smallT t := by
  unfold smB at h
  simp only [Bool.and_eq_true, decide_eq_true_eq, List.all_eq_true, List.mem_range] at h
  refine ⟨h.1, h.2.1, fun t ht => ?_⟩
  obtain ⟨i, hi, rfl⟩ := List.mem_iff_getElem.1 ht
  have := h.2.2 i hi
  unfold smT at this
  simp only [List.getD, List.getElem?_eq_getElem hi, Option.getD_some, Bool.and_eq_true, decide_eq_true_eq] at this
  exact ⟨by omega, by omega⟩
theorem small_T (kind : Int) (ts : List Trm) (c : Bs) : T (k + 1) 17 [.agg [.int .i64 kind, .imm 2 (trow ts), .str c]] = some (.bool (smB ts c), []) := by
  refine enter rfl func17 rfl (by decide) (by kernel_rfl) rfl rfl ?_
  repeat (first | refine WX.step tab_eq rfl rfl trivial ?_ | refine WX.step tab_eq rfl rfl (by decide) ?_ | refine WX.nil ?_ | refine W.seq ?_ | refine W.region ?_ | refine W.regionD ?_ | refine W.block ?_ | refine W.skip ?_ | refine W.exit ?_ | refine W.ret ?_ | refine W.condT rfl ?_ | refine W.condF rfl ?_ | refine WX.skip rfl ?_)
  rw [trow_len]
  refine WX.boolM rfl rfl (fun b1 => ?_) (fun b1 => ?_)
  · have b1 := of_decide_eq_true b1
    repeat (first | refine WX.step tab_eq rfl rfl trivial ?_ | refine WX.step tab_eq rfl rfl (by decide) ?_ | refine WX.nil ?_ | refine W.seq ?_ | refine W.region ?_ | refine W.regionD ?_ | refine W.block ?_ | refine W.skip ?_ | refine W.exit ?_ | refine W.ret ?_ | refine W.condT rfl ?_ | refine W.condF rfl ?_ | refine WX.skip rfl ?_)
    (refine (congrArg (fun b => some (PV.bool b, [])) ?_ : some (PV.bool _, []) = some (PV.bool _, [])); (unfold smB; rw [decide_eq_false (p := ts.length ≤ 8) (by omega)]; rfl))
  · have b1 := of_decide_eq_false b1
    repeat (first | refine WX.step tab_eq rfl rfl trivial ?_ | refine WX.step tab_eq rfl rfl (by decide) ?_ | refine WX.nil ?_ | refine W.seq ?_ | refine W.region ?_ | refine W.regionD ?_ | refine W.block ?_ | refine W.skip ?_ | refine W.exit ?_ | refine W.ret ?_ | refine W.condT rfl ?_ | refine W.condF rfl ?_ | refine WX.skip rfl ?_)
    refine W.cond rfl (fun b2 => ?_) (fun b2 => ?_)
    · have b2 := of_decide_eq_true b2
      repeat (first | refine WX.step tab_eq rfl rfl trivial ?_ | refine WX.step tab_eq rfl rfl (by decide) ?_ | refine WX.nil ?_ | refine W.seq ?_ | refine W.region ?_ | refine W.regionD ?_ | refine W.block ?_ | refine W.skip ?_ | refine W.exit ?_ | refine W.ret ?_ | refine W.condT rfl ?_ | refine W.condF rfl ?_ | refine WX.skip rfl ?_)
      (refine (congrArg (fun b => some (PV.bool b, [])) ?_ : some (PV.bool _, []) = some (PV.bool _, [])); (unfold smB; rw [decide_eq_false (p := c.length ≤ 40) (by omega)]; simp))
    · have b2 := of_decide_eq_false b2
      have hsm : smB ts c = (List.range ts.length).all fun i => smT (ts.getD i ([], [])) := by
        unfold smB; rw [decide_eq_true (show ts.length ≤ 8 by omega), decide_eq_true (show c.length ≤ 40 by omega)]; rfl
      rw [hsm]
      repeat (first | refine WX.step tab_eq rfl rfl trivial ?_ | refine WX.step tab_eq rfl rfl (by decide) ?_ | refine WX.nil ?_ | refine W.seq ?_ | refine W.region ?_ | refine W.regionD ?_ | refine W.block ?_ | refine W.skip ?_ | refine W.exit ?_ | refine W.ret ?_ | refine W.condT rfl ?_ | refine W.condF rfl ?_ | refine WX.skip rfl ?_)
      refine W.loop (fun e m => ∃ (i : Nat), e = [(1, .box (0, 0) [.int .i64 kind, .imm 2 (trow ts), .str c]), (3, .int .i64 i)] ∧ i ≤ ts.length ∧ ((List.range i).all fun i => smT (ts.getD i ([], []))) = true ∧ m = ts.length - i) ts.length ?_ ?_ ?_
      · exact ⟨0, rfl, by omega, rfl, by omega⟩
      · show _ < 4611686018427387904; omega
      · rintro e m ⟨i, rfl, hi, hd, rfl⟩
        repeat (first | refine WX.step tab_eq rfl rfl trivial ?_ | refine WX.step tab_eq rfl rfl (by decide) ?_ | refine WX.nil ?_ | refine W.seq ?_ | refine W.region ?_ | refine W.regionD ?_ | refine W.block ?_ | refine W.skip ?_ | refine W.exit ?_ | refine W.ret ?_ | refine W.condT rfl ?_ | refine W.condF rfl ?_ | refine WX.skip rfl ?_)
        rw [trow_len]
        refine W.cond rfl (fun hlt => ?_) (fun hlt => ?_)
        · have hlt := of_decide_eq_true hlt
          have hg := trow_get (ts := ts) (i := i) (by omega)
          have hgo := @range_step i (fun i => smT (ts.getD i ([], []))) hd
          have hno := @range_stop ts.length i (fun i => smT (ts.getD i ([], []))) (by omega)
          simp only [smT] at hgo hno
          repeat (first | refine WX.step tab_eq rfl rfl trivial ?_ | refine WX.step tab_eq rfl rfl (by decide) ?_ | refine WX.nil ?_ | refine W.seq ?_ | refine W.region ?_ | refine W.regionD ?_ | refine W.block ?_ | refine W.skip ?_ | refine W.exit ?_ | refine W.ret ?_ | refine W.condT rfl ?_ | refine W.condF rfl ?_ | refine WX.skip rfl ?_)
          refine WX.idxImm tab_eq rfl rfl rfl rfl rfl rfl (by omega) (hg) ?_
          repeat (first | refine WX.step tab_eq rfl rfl trivial ?_ | refine WX.step tab_eq rfl rfl (by decide) ?_ | refine WX.nil ?_ | refine W.seq ?_ | refine W.region ?_ | refine W.regionD ?_ | refine W.block ?_ | refine W.skip ?_ | refine W.exit ?_ | refine W.ret ?_ | refine W.condT rfl ?_ | refine W.condF rfl ?_ | refine WX.skip rfl ?_)
          refine WX.boolM rfl rfl (fun b3 => ?_) (fun b3 => ?_)
          · have b3 := of_decide_eq_true b3
            repeat (first | refine WX.step tab_eq rfl rfl trivial ?_ | refine WX.step tab_eq rfl rfl (by decide) ?_ | refine WX.nil ?_ | refine W.seq ?_ | refine W.region ?_ | refine W.regionD ?_ | refine W.block ?_ | refine W.skip ?_ | refine W.exit ?_ | refine W.ret ?_ | refine W.condT rfl ?_ | refine W.condF rfl ?_ | refine WX.skip rfl ?_)
            (refine (congrArg (fun b => some (PV.bool b, [])) ?_ : some (PV.bool _, []) = some (PV.bool _, [])); exact (hno (by rw [decide_eq_false (p := (ts.getD i ([], [])).1.length ≤ 60) (by omega)]; rfl)).symm)
          · have b3 := of_decide_eq_false b3
            repeat (first | refine WX.step tab_eq rfl rfl trivial ?_ | refine WX.step tab_eq rfl rfl (by decide) ?_ | refine WX.nil ?_ | refine W.seq ?_ | refine W.region ?_ | refine W.regionD ?_ | refine W.block ?_ | refine W.skip ?_ | refine W.exit ?_ | refine W.ret ?_ | refine W.condT rfl ?_ | refine W.condF rfl ?_ | refine WX.skip rfl ?_)
            refine WX.idxImm tab_eq rfl rfl rfl rfl rfl rfl (by omega) (hg) ?_
            repeat (first | refine WX.step tab_eq rfl rfl trivial ?_ | refine WX.step tab_eq rfl rfl (by decide) ?_ | refine WX.nil ?_ | refine W.seq ?_ | refine W.region ?_ | refine W.regionD ?_ | refine W.block ?_ | refine W.skip ?_ | refine W.exit ?_ | refine W.ret ?_ | refine W.condT rfl ?_ | refine W.condF rfl ?_ | refine WX.skip rfl ?_)
            refine W.cond rfl (fun b4 => ?_) (fun b4 => ?_)
            · have b4 := of_decide_eq_true b4
              repeat (first | refine WX.step tab_eq rfl rfl trivial ?_ | refine WX.step tab_eq rfl rfl (by decide) ?_ | refine WX.nil ?_ | refine W.seq ?_ | refine W.region ?_ | refine W.regionD ?_ | refine W.block ?_ | refine W.skip ?_ | refine W.exit ?_ | refine W.ret ?_ | refine W.condT rfl ?_ | refine W.condF rfl ?_ | refine WX.skip rfl ?_)
              (refine (congrArg (fun b => some (PV.bool b, [])) ?_ : some (PV.bool _, []) = some (PV.bool _, [])); exact (hno (by rw [decide_eq_false (p := (ts.getD i ([], [])).2.length ≤ 40) (by omega)]; simp)).symm)
            · have b4 := of_decide_eq_false b4
              repeat (first | refine WX.step tab_eq rfl rfl trivial ?_ | refine WX.step tab_eq rfl rfl (by decide) ?_ | refine WX.nil ?_ | refine W.seq ?_ | refine W.region ?_ | refine W.regionD ?_ | refine W.block ?_ | refine W.skip ?_ | refine W.exit ?_ | refine W.ret ?_ | refine W.condT rfl ?_ | refine W.condF rfl ?_ | refine WX.skip rfl ?_)
              rw [wrap_i64 (x := (i : Int) + 1) (by omega) (by omega)]
              show ∃ m', _
              exact ⟨ts.length - (i + 1), by omega, i + 1, rfl, by omega, hgo (by rw [decide_eq_true (show (ts.getD i ([], [])).1.length ≤ 60 by omega), decide_eq_true (show (ts.getD i ([], [])).2.length ≤ 40 by omega)]; rfl), rfl⟩
        · have hlt := of_decide_eq_false hlt
          have hie : i = ts.length := by omega
          subst hie
          repeat (first | refine WX.step tab_eq rfl rfl trivial ?_ | refine WX.step tab_eq rfl rfl (by decide) ?_ | refine WX.nil ?_ | refine W.seq ?_ | refine W.region ?_ | refine W.regionD ?_ | refine W.block ?_ | refine W.skip ?_ | refine W.exit ?_ | refine W.ret ?_ | refine W.condT rfl ?_ | refine W.condF rfl ?_ | refine WX.skip rfl ?_)
          (refine (congrArg (fun b => some (PV.bool b, [])) ?_ : some (PV.bool _, []) = some (PV.bool _, [])); exact hd.symm)
theorem conG_ts (c : Ch) : (conG c).1.ts = (linG (nxC (nxC c))).2.2 := by
  unfold conG; simp only
  by_cases h : 4 ≤ 1 + nxV c 5
  · rw [if_pos h]
  · rw [if_neg h]
theorem conG_c (c : Ch) : (conG c).1.c = (linG (nxC (nxC c))).1 := by
  unfold conG; simp only
  by_cases h : 4 ≤ 1 + nxV c 5
  · rw [if_pos h]
  · rw [if_neg h]
set_option maxHeartbeats 3200000 in
theorem law_T (kd : Int) (ts : List Trm) (c : Bs) (b : Con) (l : List Int) (hl : l.length ≤ 4611686018427387904) (hts : ts.length < 4611686018427387904) (aw : T 20 18 [] = some (.bool true, [])) :
    T 21 3 [.agg [.int .i64 kd, .imm 2 (trow ts), .str c], .agg (conP b), .imm 1 (zrow l)] = some (.bool true, []) := by
  have s1 := small_T (k := 19) kd ts c
  have s2 := small_T (k := 19) b.kind b.ts b.c
  have hA := @smB_spec ts c
  have hB := @smB_spec b.ts b.c
  generalize smB ts c = A at *
  generalize smB b.ts b.c = B at *
  refine enter rfl func3 rfl (by decide) (by kernel_rfl) rfl rfl ?_
  repeat (first | refine WX.step tab_eq rfl rfl trivial ?_ | refine WX.step tab_eq rfl rfl (by decide) ?_ | refine WX.nil ?_ | refine W.seq ?_ | refine W.region ?_ | refine W.regionD ?_ | refine W.block ?_ | refine W.skip ?_ | refine W.exit ?_ | refine W.ret ?_ | refine W.condT rfl ?_ | refine W.condF rfl ?_ | refine WX.skip rfl ?_)
  refine WX.call tab_eq rfl rfl rfl rfl rfl (s1) rfl rfl ?_
  repeat (first | refine WX.step tab_eq rfl rfl trivial ?_ | refine WX.step tab_eq rfl rfl (by decide) ?_ | refine WX.nil ?_ | refine W.seq ?_ | refine W.region ?_ | refine W.regionD ?_ | refine W.block ?_ | refine W.skip ?_ | refine W.exit ?_ | refine W.ret ?_ | refine W.condT rfl ?_ | refine W.condF rfl ?_ | refine WX.skip rfl ?_)
  cases A
  · repeat (first | refine WX.step tab_eq rfl rfl trivial ?_ | refine WX.step tab_eq rfl rfl (by decide) ?_ | refine WX.nil ?_ | refine W.seq ?_ | refine W.region ?_ | refine W.regionD ?_ | refine W.block ?_ | refine W.skip ?_ | refine W.exit ?_ | refine W.ret ?_ | refine W.condT rfl ?_ | refine W.condF rfl ?_ | refine WX.skip rfl ?_)
    refine WX.call tab_eq rfl rfl rfl rfl rfl (aw) rfl rfl ?_
    repeat (first | refine WX.step tab_eq rfl rfl trivial ?_ | refine WX.step tab_eq rfl rfl (by decide) ?_ | refine WX.nil ?_ | refine W.seq ?_ | refine W.region ?_ | refine W.regionD ?_ | refine W.block ?_ | refine W.skip ?_ | refine W.exit ?_ | refine W.ret ?_ | refine W.condT rfl ?_ | refine W.condF rfl ?_ | refine WX.skip rfl ?_)
    rfl
  · repeat (first | refine WX.step tab_eq rfl rfl trivial ?_ | refine WX.step tab_eq rfl rfl (by decide) ?_ | refine WX.nil ?_ | refine W.seq ?_ | refine W.region ?_ | refine W.regionD ?_ | refine W.block ?_ | refine W.skip ?_ | refine W.exit ?_ | refine W.ret ?_ | refine W.condT rfl ?_ | refine W.condF rfl ?_ | refine WX.skip rfl ?_)
    refine WX.call tab_eq rfl rfl rfl rfl rfl (s2) rfl rfl ?_
    repeat (first | refine WX.step tab_eq rfl rfl trivial ?_ | refine WX.step tab_eq rfl rfl (by decide) ?_ | refine WX.nil ?_ | refine W.seq ?_ | refine W.region ?_ | refine W.regionD ?_ | refine W.block ?_ | refine W.skip ?_ | refine W.exit ?_ | refine W.ret ?_ | refine W.condT rfl ?_ | refine W.condF rfl ?_ | refine WX.skip rfl ?_)
    cases B
    · repeat (first | refine WX.step tab_eq rfl rfl trivial ?_ | refine WX.step tab_eq rfl rfl (by decide) ?_ | refine WX.nil ?_ | refine W.seq ?_ | refine W.region ?_ | refine W.regionD ?_ | refine W.block ?_ | refine W.skip ?_ | refine W.exit ?_ | refine W.ret ?_ | refine W.condT rfl ?_ | refine W.condF rfl ?_ | refine WX.skip rfl ?_)
      refine WX.call tab_eq rfl rfl rfl rfl rfl (aw) rfl rfl ?_
      repeat (first | refine WX.step tab_eq rfl rfl trivial ?_ | refine WX.step tab_eq rfl rfl (by decide) ?_ | refine WX.nil ?_ | refine W.seq ?_ | refine W.region ?_ | refine W.regionD ?_ | refine W.block ?_ | refine W.skip ?_ | refine W.exit ?_ | refine W.ret ?_ | refine W.condT rfl ?_ | refine W.condF rfl ?_ | refine WX.skip rfl ?_)
      rfl
    · repeat (first | refine WX.step tab_eq rfl rfl trivial ?_ | refine WX.step tab_eq rfl rfl (by decide) ?_ | refine WX.nil ?_ | refine W.seq ?_ | refine W.region ?_ | refine W.regionD ?_ | refine W.block ?_ | refine W.skip ?_ | refine W.exit ?_ | refine W.ret ?_ | refine W.condT rfl ?_ | refine W.condF rfl ?_ | refine WX.skip rfl ?_)
      refine W.cond rfl (fun c1 => ?_) (fun c1 => ?_)
      · repeat (first | refine WX.step tab_eq rfl rfl trivial ?_ | refine WX.step tab_eq rfl rfl (by decide) ?_ | refine WX.nil ?_ | refine W.seq ?_ | refine W.region ?_ | refine W.regionD ?_ | refine W.block ?_ | refine W.skip ?_ | refine W.exit ?_ | refine W.ret ?_ | refine W.condT rfl ?_ | refine W.condF rfl ?_ | refine WX.skip rfl ?_)
        refine WX.call tab_eq rfl rfl rfl rfl rfl (aw) rfl rfl ?_
        repeat (first | refine WX.step tab_eq rfl rfl trivial ?_ | refine WX.step tab_eq rfl rfl (by decide) ?_ | refine WX.nil ?_ | refine W.seq ?_ | refine W.region ?_ | refine W.regionD ?_ | refine W.block ?_ | refine W.skip ?_ | refine W.exit ?_ | refine W.ret ?_ | refine W.condT rfl ?_ | refine W.condF rfl ?_ | refine WX.skip rfl ?_)
        rfl
      · have c1 := of_decide_eq_false c1
        repeat (first | refine WX.step tab_eq rfl rfl trivial ?_ | refine WX.step tab_eq rfl rfl (by decide) ?_ | refine WX.nil ?_ | refine W.seq ?_ | refine W.region ?_ | refine W.regionD ?_ | refine W.block ?_ | refine W.skip ?_ | refine W.exit ?_ | refine W.ret ?_ | refine W.condT rfl ?_ | refine W.condF rfl ?_ | refine WX.skip rfl ?_)
        obtain ⟨a1, a2, a3⟩ := hA rfl
        obtain ⟨e1, e2, e3⟩ := hB rfl
        have hc0 : okCh (l.take 400, 0) := ⟨by simp only [List.length_take]; omega, by simp only; omega⟩
        have g1 := new_T (k := 19) l hl
        have g2 := conG_T (k := 9) (l.take 400, 0) hc0
        have g3 := linear_T (k := 10) (l.take 400, 0) hc0 2
        have v1 := linValid_T (k := 13) kd ts c a3 (by omega) (by omega)
        have v2 := rlinValid_T (k := 12) kd ts c a3 (by omega) (by omega)
        have v3 := con_T (k := 12) b.rel b.kind b.ts b.c b.m e3 (by omega) (by omega) (by omega)
        have v4 := rcon_T (k := 11) b.rel b.kind b.ts b.c b.m e3 (by omega) (by omega) (by omega)
        have x1 := linG_sm (nxC (nxC (l.take 400, 0)))
        have x2 := linG_len (nxC (nxC (l.take 400, 0)))
        have x3 := linG_c (nxC (nxC (l.take 400, 0)))
        have y1 := linG_sm (l.take 400, 0)
        have y2 := linG_len (l.take 400, 0)
        have y3 := linG_c (l.take 400, 0)
        have hts5 : (conG (l.take 400, 0)).1.ts = (linG (nxC (nxC (l.take 400, 0)))).2.2 := conG_ts _
        have hc5 : (conG (l.take 400, 0)).1.c = (linG (nxC (nxC (l.take 400, 0)))).1 := conG_c _
        rw [← hts5] at x1 x2
        rw [← hc5] at x3
        clear hts5 hc5
        generalize conG (l.take 400, 0) = G at *
        generalize linG (l.take 400, 0) = H at *
        obtain ⟨⟨gr, gk, gts, gc, gm⟩, gch⟩ := G
        obtain ⟨hc, hch, hts2⟩ := H
        obtain ⟨br, bk, bts, bc, bm⟩ := b
        simp only at *
        have v5 := con_T (k := 12) gr gk gts gc bm x1 (by omega) (by omega) (by omega)
        have v6 := rcon_T (k := 11) gr gk gts gc bm x1 (by omega) (by omega) (by omega)
        have v7 := con_T (k := 12) br 2 hts2 hc bm y1 (by omega) (by omega) (by omega)
        have v8 := rcon_T (k := 11) br 2 hts2 hc bm y1 (by omega) (by omega) (by omega)
        generalize linB kd ts c = L1 at v1 v2
        generalize conB br bk bts bc bm = L2 at v3 v4
        generalize conB gr gk gts gc bm = L3 at v5 v6
        generalize conB br 2 hts2 hc bm = L4 at v7 v8
        repeat (first | refine WX.step tab_eq rfl rfl trivial ?_ | refine WX.step tab_eq rfl rfl (by decide) ?_ | refine WX.nil ?_ | refine W.seq ?_ | refine W.region ?_ | refine W.regionD ?_ | refine W.block ?_ | refine W.skip ?_ | refine W.exit ?_ | refine W.ret ?_ | refine W.condT rfl ?_ | refine W.condF rfl ?_ | refine WX.skip rfl ?_)
        refine WX.call tab_eq rfl rfl rfl rfl rfl (g1) rfl rfl ?_
        repeat (first | refine WX.step tab_eq rfl rfl trivial ?_ | refine WX.step tab_eq rfl rfl (by decide) ?_ | refine WX.nil ?_ | refine W.seq ?_ | refine W.region ?_ | refine W.regionD ?_ | refine W.block ?_ | refine W.skip ?_ | refine W.exit ?_ | refine W.ret ?_ | refine W.condT rfl ?_ | refine W.condF rfl ?_ | refine WX.skip rfl ?_)
        refine WX.call tab_eq rfl rfl rfl rfl rfl (g2) rfl rfl ?_
        repeat (first | refine WX.step tab_eq rfl rfl trivial ?_ | refine WX.step tab_eq rfl rfl (by decide) ?_ | refine WX.nil ?_ | refine W.seq ?_ | refine W.region ?_ | refine W.regionD ?_ | refine W.block ?_ | refine W.skip ?_ | refine W.exit ?_ | refine W.ret ?_ | refine W.condT rfl ?_ | refine W.condF rfl ?_ | refine WX.skip rfl ?_)
        refine WX.call tab_eq rfl rfl rfl rfl rfl (g1) rfl rfl ?_
        repeat (first | refine WX.step tab_eq rfl rfl trivial ?_ | refine WX.step tab_eq rfl rfl (by decide) ?_ | refine WX.nil ?_ | refine W.seq ?_ | refine W.region ?_ | refine W.regionD ?_ | refine W.block ?_ | refine W.skip ?_ | refine W.exit ?_ | refine W.ret ?_ | refine W.condT rfl ?_ | refine W.condF rfl ?_ | refine WX.skip rfl ?_)
        refine WX.call tab_eq rfl rfl rfl rfl rfl (g3) rfl rfl ?_
        repeat (first | refine WX.step tab_eq rfl rfl trivial ?_ | refine WX.step tab_eq rfl rfl (by decide) ?_ | refine WX.nil ?_ | refine W.seq ?_ | refine W.region ?_ | refine W.regionD ?_ | refine W.block ?_ | refine W.skip ?_ | refine W.exit ?_ | refine W.ret ?_ | refine W.condT rfl ?_ | refine W.condF rfl ?_ | refine WX.skip rfl ?_)
        repeat (first | refine WX.stepD tab_eq rfl rfl trivial ?_ | refine WX.stepD tab_eq rfl rfl (by decide) ?_ | refine WX.skipD rfl ?_)
        refine WX.callD tab_eq rfl rfl rfl rfl rfl (v1) rfl rfl ?_
        repeat (first | refine WX.stepD tab_eq rfl rfl trivial ?_ | refine WX.stepD tab_eq rfl rfl (by decide) ?_ | refine WX.skipD rfl ?_)
        refine WX.callD tab_eq rfl rfl rfl rfl rfl (v2) rfl rfl ?_
        repeat (first | refine WX.stepD tab_eq rfl rfl trivial ?_ | refine WX.stepD tab_eq rfl rfl (by decide) ?_ | refine WX.skipD rfl ?_)
        refine WX.boolMD rfl rfl (fun d1 => ?_) (fun d1 => ?_)
        · repeat (first | refine WX.stepD tab_eq rfl rfl trivial ?_ | refine WX.stepD tab_eq rfl rfl (by decide) ?_ | refine WX.skipD rfl ?_)
          refine WX.callD tab_eq rfl rfl rfl rfl rfl (v3) rfl rfl ?_
          repeat (first | refine WX.stepD tab_eq rfl rfl trivial ?_ | refine WX.stepD tab_eq rfl rfl (by decide) ?_ | refine WX.skipD rfl ?_)
          refine WX.callD tab_eq rfl rfl rfl rfl rfl (v4) rfl rfl ?_
          repeat (first | refine WX.stepD tab_eq rfl rfl trivial ?_ | refine WX.stepD tab_eq rfl rfl (by decide) ?_ | refine WX.skipD rfl ?_)
          refine WX.boolMD rfl rfl (fun d2 => ?_) (fun d2 => ?_)
          · repeat (first | refine WX.stepD tab_eq rfl rfl trivial ?_ | refine WX.stepD tab_eq rfl rfl (by decide) ?_ | refine WX.skipD rfl ?_)
            refine WX.callD tab_eq rfl rfl rfl rfl rfl (v5) rfl rfl ?_
            repeat (first | refine WX.stepD tab_eq rfl rfl trivial ?_ | refine WX.stepD tab_eq rfl rfl (by decide) ?_ | refine WX.skipD rfl ?_)
            refine WX.callD tab_eq rfl rfl rfl rfl rfl (v6) rfl rfl ?_
            repeat (first | refine WX.stepD tab_eq rfl rfl trivial ?_ | refine WX.stepD tab_eq rfl rfl (by decide) ?_ | refine WX.skipD rfl ?_)
            refine WX.boolMD rfl rfl (fun d3 => ?_) (fun d3 => ?_)
            · repeat (first | refine WX.stepD tab_eq rfl rfl trivial ?_ | refine WX.stepD tab_eq rfl rfl (by decide) ?_ | refine WX.skipD rfl ?_)
              refine WX.callD tab_eq rfl rfl rfl rfl rfl (v7) rfl rfl ?_
              repeat (first | refine WX.stepD tab_eq rfl rfl trivial ?_ | refine WX.stepD tab_eq rfl rfl (by decide) ?_ | refine WX.skipD rfl ?_)
              refine WX.callD tab_eq rfl rfl rfl rfl rfl (v8) rfl rfl ?_
              repeat (first | refine WX.stepD tab_eq rfl rfl trivial ?_ | refine WX.stepD tab_eq rfl rfl (by decide) ?_ | refine WX.skipD rfl ?_)
              refine WX.boolMD rfl rfl (fun d4 => ?_) (fun d4 => ?_)
              · repeat (first | refine WX.stepD tab_eq rfl rfl trivial ?_ | refine WX.stepD tab_eq rfl rfl (by decide) ?_ | refine WX.skipD rfl ?_)
                refine WX.callD tab_eq rfl rfl rfl rfl rfl (aw) rfl rfl ?_
                repeat (first | refine WX.stepD tab_eq rfl rfl trivial ?_ | refine WX.stepD tab_eq rfl rfl (by decide) ?_ | refine WX.skipD rfl ?_)
                refine WX.nilD (by kernel_rfl) ?_
                repeat (first | refine WX.step tab_eq rfl rfl trivial ?_ | refine WX.step tab_eq rfl rfl (by decide) ?_ | refine WX.nil ?_ | refine W.seq ?_ | refine W.region ?_ | refine W.regionD ?_ | refine W.block ?_ | refine W.skip ?_ | refine W.exit ?_ | refine W.ret ?_ | refine W.condT rfl ?_ | refine W.condF rfl ?_ | refine WX.skip rfl ?_)
                rfl
              · exact absurd d4 (by simp)
            · exact absurd d3 (by simp)
          · exact absurd d2 (by simp)
        · exact absurd d1 (by simp)
end Go.PE
namespace Go.PE
theorem limbsN_lval : ∀ {l : List Nat}, okL l = true → limbsN l.length (lval l) = l
  | [], _ => rfl
  | a :: l, h => by
    rw [okL_cons] at h
    rw [List.length_cons, limbsN, lval, show (a + 1000000000 * lval l) % 1000000000 = a by omega, show (a + 1000000000 * lval l) / 1000000000 = lval l by omega, limbsN_lval h.2]
/-- A guess that is too great. -/
theorem guess_gt {g S top u1 p U V U' V' : Nat} (hV : V = S * p + V') (hU : U = (top * 1000000000 + u1) * p + U') (hU' : U' < p) (h : top * 1000000000 + u1 + 1 ≤ g * S) : U / V < g := by
  have h1 : (top * 1000000000 + u1 + 1) * p ≤ g * S * p := Nat.mul_le_mul_right _ h
  rw [Nat.add_mul, Nat.one_mul] at h1
  have h2 : g * S * p ≤ g * V := by rw [hV, Nat.mul_add, Nat.mul_assoc]; omega
  apply Nat.div_lt_of_lt_mul
  rw [Nat.mul_comm]
  omega
/-- A guess that is too great by 1 at most. -/
theorem guess_le {g S top u1 p U V U' V' : Nat} (hV : V = S * p + V') (hU : U = (top * 1000000000 + u1) * p + U') (hV' : V' < p) (hS : 1000000000 ≤ S) (hg : g < 1000000000) (h : g * S ≤ top * 1000000000 + u1) : g ≤ U / V + 1 := by
  rcases Nat.eq_zero_or_pos g with h0 | h0
  · rw [h0]; exact Nat.zero_le _
  have h1 : g * S * p ≤ (top * 1000000000 + u1) * p := Nat.mul_le_mul_right _ h
  have h2 : g * V = g * S * p + g * V' := by rw [hV, Nat.mul_add, Nat.mul_assoc]
  have h3 : g * V' ≤ g * p := Nat.mul_le_mul_left _ (by omega)
  have h4 : g * p < 1000000000 * p := Nat.mul_lt_mul_of_pos_right hg (by omega)
  have h5 : 1000000000 * p ≤ S * p := Nat.mul_le_mul_right _ hS
  have h6 : (g - 1) * V ≤ U := by
    rw [Nat.sub_mul, Nat.one_mul]; omega
  have h7 : 0 < V := by omega
  have := (Nat.le_div_iff_mul_le h7).2 h6
  omega
/-- The two last limbs of a divisor. -/
theorem split2 {v : List Nat} {m : Nat} (h : okL v = true) (hl : v.length = m + 2) : lval v = (v.getD (m + 1) 0 * 1000000000 + v.getD m 0) * 1000000000 ^ m + lval (v.take m) ∧ lval (v.take m) < 1000000000 ^ m := by
  have h1 := lval_take_drop v m (by omega)
  rw [drop_getD (l := v) (i := m) (by omega), drop_getD (l := v) (i := m + 1) (by omega), List.drop_of_length_le (by omega)] at h1
  simp only [lval, Nat.mul_zero, Nat.add_zero] at h1
  have h2 := lval_lt (okL_take h m)
  rw [List.length_take, Nat.min_eq_left (by omega)] at h2
  refine ⟨?_, h2⟩
  rw [h1, Nat.mul_comm (1000000000 ^ m), Nat.add_comm, Nat.mul_comm 1000000000 (v.getD (m + 1) 0), Nat.add_comm (v.getD m 0)]
theorem split3 {u : List Nat} {m : Nat} (h : okL u = true) (hl : u.length = m + 3) :
    lval u = ((u.getD (m + 2) 0 * 1000000000 + u.getD (m + 1) 0) * 1000000000 + u.getD m 0) * 1000000000 ^ m + lval (u.take m) ∧ lval (u.take m) < 1000000000 ^ m := by
  have h1 := lval_take_drop u m (by omega)
  rw [drop_getD (l := u) (i := m) (by omega), drop_getD (l := u) (i := m + 1) (by omega), drop_getD (l := u) (i := m + 1 + 1) (by omega), List.drop_of_length_le (by omega)] at h1
  simp only [lval, Nat.mul_zero, Nat.add_zero] at h1
  have h2 := lval_lt (okL_take h m)
  rw [List.length_take, Nat.min_eq_left (by omega)] at h2
  refine ⟨?_, h2⟩
  rw [h1, Nat.mul_comm (1000000000 ^ m), Nat.add_comm]
  congr 2
  generalize u.getD (m + 2) 0 = a
  generalize u.getD (m + 1) 0 = b
  generalize u.getD m 0 = c
  omega
theorem three (a b c : Nat) : a * 1000000000 * 1000000000 ≤ (a * 1000000000 + b) * 1000000000 + c := by omega
/-- The first limb is not greater than the divisor's. -/
theorem top_le {u v : List Nat} {m : Nat} (hu : okL u = true) (hv : okL v = true) (lu : u.length = m + 3) (lv : v.length = m + 2) (hlt : lval u < 1000000000 * lval v) : u.getD (m + 2) 0 ≤ v.getD (m + 1) 0 := by
  obtain ⟨h1, h2⟩ := split2 hv lv
  obtain ⟨h3, h4⟩ := split3 hu lu
  have hb := okL_getD hv m
  generalize lval (v.take m) = V' at *
  generalize lval (u.take m) = U' at *
  generalize u.getD (m + 2) 0 = a at *
  generalize u.getD (m + 1) 0 = b at *
  generalize u.getD m 0 = c at *
  generalize v.getD (m + 1) 0 = d at *
  generalize v.getD m 0 = e at *
  generalize 1000000000 ^ m = p at *
  rcases Nat.lt_or_ge d a with h | h
  · exfalso
    have k1 : (d * 1000000000 + e + 1) * p ≤ (d + 1) * 1000000000 * p := Nat.mul_le_mul_right _ (by omega)
    have k2 : (d + 1) * 1000000000 * p ≤ a * 1000000000 * p := Nat.mul_le_mul_right _ (Nat.mul_le_mul_right _ (by omega))
    have k3 : a * 1000000000 * p * 1000000000 ≤ ((a * 1000000000 + b) * 1000000000 + c) * p := by
      exact Nat.le_trans (Nat.le_of_eq (Nat.mul_right_comm _ _ _)) (Nat.mul_le_mul_right p (three a b c))
    have k4 : (d * 1000000000 + e + 1) * p = (d * 1000000000 + e) * p + p := by rw [Nat.add_mul, Nat.one_mul]
    have k5 : lval v < a * 1000000000 * p := by omega
    omega
  · exact h
/-- One step of the loop that lowers a guess. -/
theorem guess_step {v1 v2 u1 top g rest q : Nat} (hg : g * v1 + rest = top) (hbig : 1000000000 ≤ g ∨ rest * 1000000000 + u1 < g * v2) (hq1 : q < 1000000000)
    (hq2 : ∀ g, top * 1000000000 + u1 + 1 ≤ g * (v1 * 1000000000 + v2) → q < g) : q < g := by
  rcases hbig with h | h
  · omega
  · apply hq2
    rw [Nat.mul_add, ← Nat.mul_assoc, ← hg, Nat.add_mul]
    omega
theorem guess_final {v1 v2 u1 top g rest : Nat} (hg : g * v1 + rest = top) (h : g * v2 ≤ rest * 1000000000 + u1) : g * (v1 * 1000000000 + v2) ≤ top * 1000000000 + u1 := by
  rw [Nat.mul_add, ← Nat.mul_assoc, ← hg, Nat.add_mul]
  omega
/-- Out of the loop by the break. -/
theorem guess_break {v1 v2 u1 u2 u3 g rest : Nat} (hg : g * v1 + rest = u3 * 1000000000 + u2) (h3 : u3 ≤ v1) (h2 : u2 < 1000000000) (hv2 : v2 < 1000000000) (hr : 1000000000 ≤ rest) : g < 1000000000 ∧ g * v2 ≤ rest * 1000000000 + u1 := by
  have hlt : g < 1000000000 := by
    rcases Nat.lt_or_ge g 1000000000 with h | h
    · exact h
    · exfalso
      have := Nat.mul_le_mul_right v1 h
      omega
  refine ⟨hlt, ?_⟩
  have : g * v2 ≤ 1000000000 * 1000000000 := Nat.mul_le_mul (by omega) (by omega)
  omega
end Go.PE
namespace Go.PE
open Go.Shelf Go.Proofs Go.Proofs.Tryz
set_option maxRecDepth 100000
/-! ### strings.Builder: the library's numbers at this program -/
def renB : Shelf.Ren := ⟨fun | 166 => 240 | 240 => 280 | 276 => 315 | 169 => 243 | n => n, fun | 70 => 235 | 72 => 237 | 37 => 108 | 3 => 3 | 4 => 4 | 9 => 9 | 5 => 5 | 0 => 0 | 20 => 20 | 75 => 225 | 164 => 305 | 127 => 278 | 80 => 48 | n => n, fun n => n⟩
theorem lays166 : Proofs.Lays.n166 prog renB where
  mixed := by kernel_rfl
  f166 := func240.trans (congrArg some (by kernel_rfl))
  f240 := func280.trans (congrArg some (by kernel_rfl))
  f276 := func315.trans (congrArg some (by kernel_rfl))
  t0 := underlying0
  a0 := isAgg0
  z0 := sizeOf0
  v0 := zeroValue0
  t3 := underlying3
  a3 := isAgg3
  z3 := sizeOf3
  v3 := zeroValue3
  t4 := underlying4
  a4 := isAgg4
  z4 := sizeOf4
  v4 := zeroValue4
  t9 := underlying9
  a9 := isAgg9
  z9 := sizeOf9
  v9 := zeroValue9
  t20 := underlying20
  a20 := isAgg20
  z20 := sizeOf20
  v20 := zeroValue20
  t37 := underlying108
  a37 := isAgg108
  z37 := sizeOf108
  v37 := zeroValue108
  t70 := underlying235
  a70 := isAgg235
  z70 := sizeOf235
  v70 := zeroValue235
  t72 := underlying237
  a72 := isAgg237
  z72 := sizeOf237
  v72 := zeroValue237
  t75 := underlying225
  a75 := isAgg225
  z75 := sizeOf225
  v75 := zeroValue225
  t164 := underlying305
  a164 := isAgg305
  z164 := sizeOf305
  v164 := zeroValue305
theorem lays169 : Proofs.Lays.n169 prog renB where
  mixed := by kernel_rfl
  f169 := func243.trans (congrArg some (by kernel_rfl))
  t0 := underlying0
  a0 := isAgg0
  z0 := sizeOf0
  v0 := zeroValue0
  t3 := underlying3
  a3 := isAgg3
  z3 := sizeOf3
  v3 := zeroValue3
  t9 := underlying9
  a9 := isAgg9
  z9 := sizeOf9
  v9 := zeroValue9
  t37 := underlying108
  a37 := isAgg108
  z37 := sizeOf108
  v37 := zeroValue108
  t70 := underlying235
  a70 := isAgg235
  z70 := sizeOf235
  v70 := zeroValue235
  t72 := underlying237
  a72 := isAgg237
  z72 := sizeOf237
  v72 := zeroValue237
  t127 := underlying278
  a127 := isAgg278
  z127 := sizeOf278
  v127 := zeroValue278
theorem extraB : Proofs.Builder.Extra prog renB where
  sizeBuilder := by kernel_rfl
  liesBuilder := by kernel_rfl
  t5 := underlying5
  a5 := isAgg5
  z5 := sizeOf5
  v5 := zeroValue5
  infoByte := by kernel_rfl
  cellsByte := by kernel_rfl
  sizeByte := by kernel_rfl
  neB5 := by decide
end Go.PE
