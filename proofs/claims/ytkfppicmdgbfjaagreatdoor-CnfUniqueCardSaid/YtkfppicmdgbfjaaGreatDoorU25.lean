/-
  A part of the proof that the law's function returns true and leaves its arguments as they were, for every input (no condition): own lemmas of the proof, in the order of their use.
-/
import Derived.Test.YtkfppicmdgbfjaaGreatDoorU24
set_option linter.all false
namespace Go.PE
open Go.RowKit Go.Proofs.Tryz
set_option maxRecDepth 100000
variable {k : Nat}
def nrow (t : List Node) : List (List PV) := t.map nodeP
theorem nrow_len (t : List Node) : (nrow t).length = t.length := by simp [nrow]
def noNode : Node := ⟨0, 0, 0, [], []⟩
theorem nrow_get {t : List Node} {i : Nat} (h : i < t.length) : (nrow t)[i]? = some (nodeP (t.getD i noNode)) := by
  unfold nrow
  rw [List.getElem?_map, List.getElem?_eq_getElem h]
  simp [List.getD, List.getElem?_eq_getElem h]
structure Part where
  (sort depth fin : Int)
def partP (p : Part) : List PV := [.int .i64 p.sort, .int .i64 p.depth, .int .i64 p.fin]
def prow (l : List Part) : List (List PV) := l.map partP
theorem prow_len (l : List Part) : (prow l).length = l.length := by simp [prow]
def noPart : Part := ⟨0, 0, 0⟩
theorem prow_get {l : List Part} {i : Nat} (h : i < l.length) : (prow l)[i]? = some (partP (l.getD i noPart)) := by
  unfold prow
  rw [List.getElem?_map, List.getElem?_eq_getElem h]
  simp [List.getD, List.getElem?_eq_getElem h]
theorem prow_rep (n : Nat) : List.replicate n [PV.int .i64 0, PV.int .i64 0, PV.int .i64 0] = prow (List.replicate n noPart) := by simp [prow, partP, noPart]
/-! ### term.look -/
/-- What the children give: their sorts, the depth, the end. -/
def kidStep (ps : List Part) (a : List Int × Int × Int) (z : Int) : List Int × Int × Int := (a.1 ++ [(ps.getD z.toNat noPart).sort], max a.2.1 ((ps.getD z.toNat noPart).depth + 1), (ps.getD z.toNat noPart).fin)
def kidsAll (ps : List Part) (i : Int) (ks : List Int) : List Int × Int × Int := ks.foldl (kidStep ps) ([], 1, i + 1)
/-- The roots of a node's children, the first one first. -/
def kidsOf (rs : List Int) (m : Nat) : List Int := (rs.drop (rs.length - m)).reverse
def badNode (n : Node) (len : Nat) : Bool := ((decide (n.kids < 0) || decide ((len : Int) < n.kids)) || !fieldsB n) || !countB n.op n.kids
def lkStep (t : List Node) (i : Nat) (ps : List Part) (rs : List Int) : Option (List Part × List Int) :=
  let n := t.getD i noNode
  if badNode n rs.length then none else
  let q := kidsAll ps i (kidsOf rs n.kids.toNat)
  let s := sortV n.op n.sort q.1
  if s = 0 ∨ (n.op = 15 ∧ (t.getD (i + 1) noNode).op ≠ 3) then none
  else some (ps.set i ⟨s, q.2.1, q.2.2⟩, rs.take (rs.length - n.kids.toNat) ++ [(i : Int)])
def lkGo (t : List Node) : Nat → List Part → List Int → Option (List Part × List Int)
  | 0, ps, rs => some (ps, rs)
  | i + 1, ps, rs => match lkStep t i ps rs with
    | some (ps', rs') => lkGo t i ps' rs'
    | none => none
def lookV (t : List Node) : Option (List Part × List Int) := lkGo t t.length (List.replicate t.length noPart) []
def lookP (t : List Node) : PV := match lookV t with
  | some (ps, rs) => .tup [.iptr [.imm 5 (nrow t), .imm 3 (prow ps)] 0, .bool (decide (rs.length = 1))]
  | none => .tup [.nilp, .bool false]
/-- What holds while the nodes from i on have been examined. -/
structure LkInv (t : List Node) (i : Nat) (ps : List Part) (rs : List Int) : Prop where
  len : ps.length = t.length
  rts : ∀ z ∈ rs, (i : Int) ≤ z ∧ z < t.length
  nrs : rs.length ≤ t.length - i
  dep : ∀ j, j < t.length → 0 ≤ (ps.getD j noPart).depth ∧ (ps.getD j noPart).depth ≤ (t.length : Int) - j
theorem lk_next {t : List Node} {i m : Nat} {ps : List Part} {rs : List Int} {so d f : Int} (h : LkInv t (i + 1) ps rs) (hi : i + 1 ≤ t.length) (hd1 : 1 ≤ d) (hd2 : d ≤ (t.length : Int) - i) : LkInv t i (ps.set i ⟨so, d, f⟩) (rs.take (rs.length - m) ++ [(i : Int)]) := by
  have hn := h.nrs
  refine ⟨by rw [List.length_set]; exact h.len, fun z hz => ?_, by simp; omega, fun j hj => ?_⟩
  · rw [List.mem_append, List.mem_singleton] at hz
    rcases hz with hz | rfl
    · have := h.rts z (List.mem_of_mem_take hz)
      omega
    · omega
  · have hl := h.len
    by_cases hji : i = j
    · subst hji
      have e : (ps.set i ⟨so, d, f⟩).getD i noPart = ⟨so, d, f⟩ := by simp [List.getD, List.getElem?_set, show i < ps.length by omega]
      rw [e]
      simp only
      omega
    · have e : (ps.set i ⟨so, d, f⟩).getD j noPart = ps.getD j noPart := by simp [List.getD, List.getElem?_set, hji]
      rw [e]
      exact h.dep j hj
theorem pset (ps : List Part) (i : Nat) (a b c : Int) : (prow ps).set i [.int .i64 a, .int .i64 b, .int .i64 c] = prow (ps.set i ⟨a, b, c⟩) := by simp [prow, partP, List.map_set]
theorem ztake (l : List Int) (n : Nat) : (zrow l).take n = zrow (l.take n) := by simp [zrow]
theorem zsnoc (l : List Int) (x : Int) : zrow l ++ [[.int .i64 x]] = zrow (l ++ [x]) := by simp [zrow]
theorem kids_take (rs : List Int) {m j : Nat} (hm : m ≤ rs.length) (hj : j < m) : (kidsOf rs m).take (m - j) = (kidsOf rs m).take (m - (j + 1)) ++ [rs.getD (rs.length - m + j) 0] := by
  have hl : (kidsOf rs m).length = m := by simp [kidsOf]; omega
  have h := take_snocG (us := kidsOf rs m) (i := m - (j + 1)) (d := 0) (by omega)
  rw [show m - (j + 1) + 1 = m - j by omega] at h
  rw [h]
  congr 1
  congr 1
  unfold kidsOf
  simp only [List.getD]
  rw [List.getElem?_reverse (by simp; omega), List.getElem?_drop]
  congr 2
  simp
  omega
theorem fields_op {n : Node} (h : fieldsB n = true) : 1 ≤ n.op ∧ n.op ≤ 20 := by
  unfold fieldsB at h
  split at h
  · omega
  · split at h
    · omega
    · split at h
      · omega
      · simp only [Bool.and_eq_true, decide_eq_true_eq] at h
        exact ⟨h.1, h.2.1⟩
set_option maxHeartbeats 4000000 in
theorem look_T (t : List Node) (h0 : t.length ≤ 20000) (hs : ∀ n ∈ t, n.name.length < 150994900 ∧ n.num.length < 150994900) : T (k + 9) 120 [.imm 5 (nrow t)] = some (lookP t, []) := by
  refine enter rfl func120 rfl (by decide) (by kernel_rfl) rfl rfl ?_
  refine zs0 ?_
  rw [nrow_len]
  refine WX.step tab_eq rfl rfl (by refine ⟨?_, ?_⟩ <;> omega) ?_
  refine zs0 ?_
  rw [nrow_len, wrap_i64 (x := (t.length : Int) - 1) (by omega) (by omega)]
  refine W.loop (fun e m => ∃ (i : Nat) (ps : List Part) (rs : List Int), e = [(4, .pvar 18 (0, 0)), (0, .imm 5 (nrow t)), (6, .int .i64 ((i : Int) - 1)), (5, .own (0, 0) 1 (zrow rs)), (18, .box (0, 0) [.imm 5 (nrow t), .own (0, 0) 3 (prow ps)]), (137, .dead)] ∧
    i ≤ t.length ∧ LkInv t i ps rs ∧ lookV t = lkGo t i ps rs ∧ m = i + 1) (t.length + 1) ?_ ?_ ?_
  · refine ⟨t.length, List.replicate t.length noPart, [], ?_, Nat.le_refl _, ⟨by simp, by simp, by simp, fun j hj => ?_⟩, rfl, rfl⟩
    · rw [← prow_rep]
      rfl
    · simp [List.getD, hj, noPart]
      omega
  · show _ < 4611686018427387904; omega
  · rintro e m ⟨i, ps, rs, rfl, hi, hI, hL, rfl⟩
    refine zs0 ?_
    refine W.cond rfl (fun hlt => ?_) (fun hlt => ?_)
    · have hlt := of_decide_eq_true hlt
      obtain ⟨i, rfl⟩ : ∃ i', i = i' + 1 := ⟨i - 1, by omega⟩
      rw [show ((i + 1 : Nat) : Int) - 1 = i by omega]
      have hg := nrow_get (t := t) (i := i) (by omega)
      have hm := mem_getD (l := t) (i := i) noNode (by omega)
      obtain ⟨hs1, hs2⟩ := hs _ hm
      have hF := fields_T (k := k) (t.getD i noNode) hs1 hs2
      have hst : lkGo t (i + 1) ps rs = match lkStep t i ps rs with | some (ps', rs') => lkGo t i ps' rs' | none => none := rfl
      have hsp : lkStep t i ps rs = if badNode (t.getD i noNode) rs.length then none else
        (if sortV (t.getD i noNode).op (t.getD i noNode).sort (kidsAll ps i (kidsOf rs (t.getD i noNode).kids.toNat)).1 = 0 ∨ ((t.getD i noNode).op = 15 ∧ (t.getD (i + 1) noNode).op ≠ 3) then none
        else some (ps.set i ⟨sortV (t.getD i noNode).op (t.getD i noNode).sort (kidsAll ps i (kidsOf rs (t.getD i noNode).kids.toNat)).1, (kidsAll ps i (kidsOf rs (t.getD i noNode).kids.toNat)).2.1, (kidsAll ps i (kidsOf rs (t.getD i noNode).kids.toNat)).2.2⟩, rs.take (rs.length - (t.getD i noNode).kids.toNat) ++ [(i : Int)])) := rfl
      generalize t.getD i noNode = n at *
      obtain ⟨op, srt, kids, nm, num⟩ := n
      simp only at hsp hs1 hs2
      have hbd : badNode ⟨op, srt, kids, nm, num⟩ rs.length = (((decide (kids < 0) || decide ((rs.length : Int) < kids)) || !fieldsB ⟨op, srt, kids, nm, num⟩) || !countB op kids) := rfl
      have hg : (nrow t)[i]? = some [.int .i64 op, .int .i64 srt, .str nm, .str num, .int .i64 kids] := hg
      have hC := count_T (k := k + 7) op kids
      have hfo : fieldsB ⟨op, srt, kids, nm, num⟩ = true → 1 ≤ op ∧ op ≤ 20 := fields_op
      rw [hbd] at hsp
      have hF : T (k + 8) 143 [.agg [.int .i64 op, .int .i64 srt, .str nm, .str num, .int .i64 kids]] = some (.bool (fieldsB ⟨op, srt, kids, nm, num⟩), []) := hF
      have hnone : lkStep t i ps rs = none → lookP t = .tup [.nilp, .bool false] := fun h => by
        unfold lookP
        rw [hL, hst, h]
      have hcb : countB op kids = true → countB op kids.toNat = true ∨ kids < 0 := fun h => by
        rcases Int.lt_or_le kids 0 with h' | h'
        · exact .inr h'
        · left; rw [Int.toNat_of_nonneg h']; exact h
      generalize fieldsB ⟨op, srt, kids, nm, num⟩ = fb at *
      generalize hcn : countB op kids = cb at *
      refine zs0 ?_
      refine WX.idxImm tab_eq rfl rfl rfl rfl rfl rfl (by omega) (hg) ?_
      refine zs0 ?_
      refine WX.boolM rfl rfl (fun c1 => ?_) (fun c1 => ?_)
      · rw [hnone (by rw [hsp, show decide (kids < 0) = true from c1]; simp)]
        refine zs0 ?_
        rfl
      · have d1 : ¬ kids < 0 := of_decide_eq_false c1
        refine zs0 ?_
        rw [zrow_len]
        refine WX.boolM rfl rfl (fun c2 => ?_) (fun c2 => ?_)
        · have c2 : decide ((rs.length : Int) < kids) = true := c2
          rw [hnone (by rw [hsp, c2]; simp)]
          refine zs0 ?_
          rfl
        · have c2 : decide ((rs.length : Int) < kids) = false := c2
          have d2 := of_decide_eq_false c2
          refine zs1 hF ?_
          cases fb with
          | false =>
            rw [hnone (by rw [hsp]; simp)]
            refine zs0 ?_
            rfl
          | true =>
            refine zs1 hC ?_
            cases cb with
            | false =>
              rw [hnone (by rw [hsp]; simp)]
              refine zs0 ?_
              rfl
            | true =>
              obtain ⟨o1, o2⟩ := hfo rfl
              have hcb := (hcb rfl).resolve_right d1
              rw [show decide (kids < 0) = false from decide_eq_false d1, c2] at hsp
              simp only [Bool.or_self, Bool.not_true, Bool.false_eq_true, if_false] at hsp
              obtain ⟨m, rfl⟩ : ∃ m : Nat, kids = m := ⟨kids.toNat, by omega⟩
              rw [Int.toNat_natCast] at hsp hcb
              have hnr := hI.nrs
              refine zs0 ?_
              rw [zrow_len, wrap_i64 (x := (rs.length : Int) - (m : Int)) (by omega) (by omega), show (rs.length : Int) - m = ((rs.length - m : Nat) : Int) by omega]
              refine WX.step tab_eq rfl rfl (by simp [zrow_len] <;> omega) ?_
              refine zs0 ?_
              rw [wrap_i64 (x := (i : Int) + 1) (by omega) (by omega)]
              refine zs0 ?_
              have hkl : (kidsOf rs m).length = m := by simp [kidsOf]; omega
              have hlen : rs.length - ((rs.length - m : Nat) : Int).toNat = m := by omega
              refine W.range (fun j e => ∃ (ss : List Int) (d f : Int), e = [(9, .box (0, 0) [.int .i64 0, .int .i64 d, .int .i64 f]), (4, .pvar 18 (0, 0)), (10, .box (0, 0) [.own (0, 0) 1 (zrow ss)]), (0, .imm 5 (nrow t)), (6, .int .i64 i), (7, .box (0, 0) [.int .i64 op, .int .i64 srt, .str nm, .str num, .int .i64 m]), (5, .own (0, 0) 1 (zrow rs)),
                (64, .back 173 5 none (0, 0) (0 + ((rs.length - m : Nat) : Int).toNat) (rs.length - ((rs.length - m : Nat) : Int).toNat)), (18, .box (0, 0) [.imm 5 (nrow t), .own (0, 0) 3 (prow ps)]), (137, .dead)] ∧
                j ≤ m ∧ ((kidsOf rs m).take (m - j)).foldl (kidStep ps) ([], 1, (i : Int) + 1) = (ss, d, f) ∧ ss.length = m - j ∧ 1 ≤ d ∧ d ≤ (t.length : Int) - i) (by decide) rfl ?_ ?_ ?_
              · refine ⟨[], 1, (i : Int) + 1, rfl, by omega, ?_, by simp; omega, by omega, by omega⟩
                rw [hlen, Nat.sub_self]
                rfl
              · rintro j e hj ⟨ss, d, f, rfl, hjm, hfold, hssl, hd1, hd2⟩
                rw [hlen] at hj
                have hzg := zrow_get (l := rs) (i := rs.length - m + j) (by omega)
                have hzm := hI.rts _ (mem_getD (l := rs) (i := rs.length - m + j) 0 (by omega))
                refine ⟨rs.getD (rs.length - m + j) 0, ?_, ?_⟩
                · show (match (zrow rs)[0 + ((rs.length - m : Nat) : Int).toNat + j]? with | some [.int .i64 z] => some (PV.int .i64 z) | _ => none) = _
                  rw [Nat.zero_add, Int.toNat_natCast, hzg]
                · generalize hz : rs.getD (rs.length - m + j) 0 = z at *
                  have hpl := hI.len
                  have hpg := prow_get (l := ps) (i := z.toNat) (by rw [hI.len]; omega)
                  have hpd := hI.dep z.toNat (by omega)
                  have hstep : kidStep ps (ss, d, f) z = (ss ++ [(ps.getD z.toNat noPart).sort], max d ((ps.getD z.toNat noPart).depth + 1), (ps.getD z.toNat noPart).fin) := rfl
                  generalize hp : ps.getD z.toNat noPart = p at *
                  obtain ⟨p1, p2, p3⟩ := p
                  simp only at hpd hstep
                  have hpg : (prow ps)[z.toNat]? = some [.int .i64 p1, .int .i64 p2, .int .i64 p3] := hpg
                  refine zd8 ?_
                  refine WX.stepD tab_eq rfl rfl (by simp [prow_len] <;> omega) ?_
                  refine zd0 ?_
                  refine WX.ldElemD tab_eq rfl rfl rfl (by rw [Nat.zero_add]; exact hpg) rfl rfl rfl rfl ?_
                  refine zd0 ?_
                  refine WX.stepD tab_eq rfl rfl (by simp [zrow_len] <;> omega) ?_
                  refine zd7 ?_
                  refine zd0 ?_
                  refine WX.stepD tab_eq rfl rfl (by simp [prow_len] <;> omega) ?_
                  refine zd0 ?_
                  refine WX.ldElemD tab_eq rfl rfl rfl (by rw [Nat.zero_add]; exact hpg) rfl rfl rfl rfl ?_
                  refine zd0 ?_
                  rw [wrap_i64 (x := p2 + 1) (by omega) (by omega)]
                  refine zd7 ?_
                  refine WX.step tab_eq rfl rfl (by simp [prow_len] <;> omega) ?_
                  refine zs0 ?_
                  refine WX.ldElem tab_eq rfl rfl rfl (by rw [Nat.zero_add]; exact hpg) rfl rfl rfl rfl ?_
                  refine zs0 ?_
                  rw [List.take_length, zsnoc]
                  refine ⟨rfl, ss ++ [p1], max d (p2 + 1), p3, rfl, by omega, ?_, by rw [List.length_append, hssl]; simp; omega, by omega, by omega⟩
                  rw [kids_take rs (by omega) (by omega), List.foldl_append, hfold, hz]
                  exact hstep
              · rintro e ⟨ss, d, f, rfl, _, hfold, hssl, hd1, hd2⟩
                rw [Nat.sub_zero] at hfold hssl
                rw [List.take_of_length_le (show (kidsOf rs m).length ≤ m by omega)] at hfold
                have hka : kidsAll ps i (kidsOf rs m) = (ss, d, f) := hfold
                rw [hka] at hsp
                simp only at hsp
                have hcc : countB op ss.length = true := by rw [hssl]; exact hcb
                have hSO := sortOf_T (k := k + 3) ⟨op, srt, m, nm, num⟩ ss (by omega) o1 o2 hcc
                have hSO : T (k + 8) 146 [.agg [.int .i64 op, .int .i64 srt, .str nm, .str num, .int .i64 m], .imm 1 (List.take (zrow ss).length (List.drop 0 (zrow ss)))] = some (.int .i64 (sortV op srt ss), []) := by rw [List.drop_zero, List.take_length]; exact hSO
                generalize sortV op srt ss = so at *
                refine zs1 hSO ?_
                refine WX.boolM rfl rfl (fun e1 => ?_) (fun e1 => ?_)
                · rw [hnone (by rw [hsp, if_pos (.inl (of_decide_eq_true e1))])]
                  refine zs0 ?_
                  rfl
                · have e1 : ¬ so = 0 := of_decide_eq_false e1
                  refine zs0 ?_
                  refine WX.boolM rfl rfl (fun e2 => ?_) (fun e2 => ?_)
                  · have e2 : op = 15 := of_decide_eq_true e2
                    subst e2
                    have hm2 : m = 2 := by simp [countB] at hcb; omega
                    have hg1 := nrow_get (t := t) (i := i + 1) (by omega)
                    refine zs0 ?_
                    rw [wrap_i64 (x := (i : Int) + 1) (by omega) (by omega)]
                    refine WX.idxImm tab_eq rfl rfl rfl rfl rfl rfl (by omega) (by rw [show ((i : Int) + 1).toNat = i + 1 by omega]; exact hg1) ?_
                    refine zs0 ?_
                    refine W.cond rfl (fun e3 => ?_) (fun e3 => ?_)
                    · rw [hnone (by rw [hsp, if_pos (.inr ⟨rfl, of_decide_eq_true e3⟩)])]
                      refine zs0 ?_
                      rfl
                    · have e3 : (t.getD (i + 1) noNode).op = 3 := by have := of_decide_eq_false e3; omega
                      rw [if_neg (by rintro (h | h); exact e1 h; exact h.2 e3)] at hsp
                      have hpl := hI.len
                      have hpgi := prow_get (l := ps) (i := i) (by omega)
                      refine zd8 ?_
                      refine WX.stepD tab_eq rfl rfl (by simp [prow_len] <;> omega) ?_
                      refine zd0 ?_
                      refine WX.stElemD tab_eq rfl rfl rfl (by rw [Nat.zero_add, Int.toNat_natCast]; exact hpgi) rfl rfl rfl ?_
                      refine zd7 ?_
                      rw [zrow_len, wrap_i64 (x := (rs.length : Int) - (m : Int)) (by omega) (by omega), show (rs.length : Int) - m = ((rs.length - m : Nat) : Int) by omega]
                      refine WX.step tab_eq rfl rfl (by simp [zrow_len] <;> omega) ?_
                      refine zs0 ?_
                      refine WX.step tab_eq rfl rfl (by simp [zrow_len] <;> omega) ?_
                      refine zs0 ?_
                      rw [wrap_i64 (x := (i : Int) - 1) (by omega) (by omega), Int.toNat_natCast, Int.toNat_natCast, Nat.zero_add i, pset, ztake, zsnoc]
                      rw [hsp] at hst
                      show ∃ m', _
                      exact ⟨i + 1, by omega, i, ps.set i ⟨so, d, f⟩, rs.take (rs.length - m) ++ [(i : Int)], rfl, by omega, lk_next hI (by omega) hd1 hd2, by rw [hL, hst], rfl⟩
                  · have e2 : ¬ op = 15 := of_decide_eq_false e2
                    rw [if_neg (by rintro (h | h); exact e1 h; exact e2 h.1)] at hsp
                    have hpl := hI.len
                    have hpgi := prow_get (l := ps) (i := i) (by omega)
                    refine zd8 ?_
                    refine WX.stepD tab_eq rfl rfl (by simp [prow_len] <;> omega) ?_
                    refine zd0 ?_
                    refine WX.stElemD tab_eq rfl rfl rfl (by rw [Nat.zero_add, Int.toNat_natCast]; exact hpgi) rfl rfl rfl ?_
                    refine zd7 ?_
                    rw [zrow_len, wrap_i64 (x := (rs.length : Int) - (m : Int)) (by omega) (by omega), show (rs.length : Int) - m = ((rs.length - m : Nat) : Int) by omega]
                    refine WX.step tab_eq rfl rfl (by simp [zrow_len] <;> omega) ?_
                    refine zs0 ?_
                    refine WX.step tab_eq rfl rfl (by simp [zrow_len] <;> omega) ?_
                    refine zs0 ?_
                    rw [wrap_i64 (x := (i : Int) - 1) (by omega) (by omega), Int.toNat_natCast, Int.toNat_natCast, Nat.zero_add i, pset, ztake, zsnoc]
                    rw [hsp] at hst
                    show ∃ m', _
                    exact ⟨i + 1, by omega, i, ps.set i ⟨so, d, f⟩, rs.take (rs.length - m) ++ [(i : Int)], rfl, by omega, lk_next hI (by omega) hd1 hd2, by rw [hL, hst], rfl⟩
    · have hlt := of_decide_eq_false hlt
      have : i = 0 := by omega
      subst this
      have hP : lookP t = .tup [.iptr [.imm 5 (nrow t), .imm 3 (prow ps)] 0, .bool (decide (rs.length = 1))] := by
        unfold lookP
        rw [hL]
        rfl
      rw [hP, ← zrow_len rs]
      refine zs0 ?_
      refine congrArg (fun b => some (PV.tup [.iptr [.imm 5 (nrow t), .imm 3 (prow ps)] 0, .bool b], [])) ?_
      exact decide_eq_decide.2 (by omega)
end Go.PE
namespace Go.PE
open Go.RowKit Go.Proofs.Tryz
set_option maxRecDepth 100000
variable {k : Nat}
/-! ### A view -/
def viewP (t : List Node) (ps : List Part) : PV := .iptr [.imm 5 (nrow t), .imm 3 (prow ps)] 0
def largeB (t : List Node) (ps : List Part) : Bool := decide (20000 < t.length) || decide (257 < (ps.getD 0 noPart).depth)
theorem large_T (t : List Node) (ps : List Part) (h0 : 0 < ps.length) : T (k + 1) 121 [viewP t ps] = some (.bool (largeB t ps), []) := by
  have hg := prow_get (l := ps) (i := 0) h0
  unfold largeB viewP
  refine enter rfl func121 rfl (by decide) (by kernel_rfl) rfl rfl ?_
  refine zs0 ?_
  rw [nrow_len]
  refine WX.boolM rfl rfl (fun c1 => ?_) (fun c1 => ?_)
  · refine zs0 ?_
    (refine (congrArg (fun b => some (PV.bool b, [])) ?_ : some (PV.bool _, []) = some (PV.bool _, [])); (rw [show decide (20000 < t.length) = true from decide_eq_true (by have := of_decide_eq_true c1; omega)]; rfl))
  · refine zs0 ?_
    refine WX.idxImm tab_eq rfl rfl rfl rfl rfl rfl (by omega) (hg) ?_
    refine zs0 ?_
    (refine (congrArg (fun b => some (PV.bool b, [])) ?_ : some (PV.bool _, []) = some (PV.bool _, [])); (rw [show decide (20000 < t.length) = false from decide_eq_false (by have := of_decide_eq_false c1; omega)]; rfl))
/-- m children, the first one at a. -/
def kidsV (ps : List Part) : Nat → Int → List Int
  | 0, _ => []
  | m + 1, a => a :: kidsV ps m (ps.getD a.toNat noPart).fin
def endKd (ps : List Part) : Nat → Int → Int
  | 0, a => a
  | m + 1, a => endKd ps m (ps.getD a.toNat noPart).fin
theorem kidsV_succ (ps : List Part) : ∀ (m : Nat) (a : Int), kidsV ps (m + 1) a = kidsV ps m a ++ [endKd ps m a]
  | 0, _ => rfl
  | m + 1, a => by
    rw [kidsV, kidsV_succ ps m, kidsV, List.cons_append]
    rfl
theorem endKd_succ (ps : List Part) : ∀ (m : Nat) (a : Int), endKd ps (m + 1) a = (ps.getD (endKd ps m a).toNat noPart).fin
  | 0, _ => rfl
  | m + 1, a => by
    rw [endKd, endKd_succ ps m]
    rfl
theorem kidsV_len (ps : List Part) : ∀ (m : Nat) (a : Int), (kidsV ps m a).length = m
  | 0, _ => rfl
  | m + 1, a => by rw [kidsV, List.length_cons, kidsV_len]
theorem kidsV_mem (ps : List Part) {m j : Nat} {a : Int} (h : j < m) : endKd ps j a ∈ kidsV ps m a := by
  induction m with
  | zero => omega
  | succ m ih =>
    rw [kidsV_succ, List.mem_append, List.mem_singleton]
    by_cases hj : j = m
    · right; rw [hj]
    · left; exact ih (by omega)
/-! ### Signatures -/
structure Fsig where
  (name : Bs) (args : List Int) (result : Int)
def sigP (f : Fsig) : List PV := [.str f.name, .imm 1 (zrow f.args), .int .i64 f.result]
def sameB (f g : Fsig) : Bool := decide (f.name = g.name) && (decide (f.result = g.result) && decide (f.args = g.args))
def sigV (t : List Node) (ps : List Part) (i : Nat) : Fsig := ⟨(t.getD i noNode).name, (kidsV ps (t.getD i noNode).kids.toNat ((i : Int) + 1)).map fun z => (ps.getD z.toNat noPart).sort, (t.getD i noNode).sort⟩
end Go.PE
namespace Go.PE
open Go.RowKit Go.Proofs.Tryz
set_option maxRecDepth 100000
variable {k : Nat}
/-! ### term.names, where no function is applied -/
/-! ### Rules for maps whose contents are not known -/
section
variable {P : Program} {Φ : FuncId → List PV → Option (PV × List (List PV))} {keep : List Nat} {td : TypeId → TD} {ops : Array Oper} {rid i : Nat} {r : List Oper} {e : List (Nat × PV)} {K : List (Nat × PV) → Prop} {ty : TypeId} {pos : String} {after : Array Edge} {guard : Option (Nat × Bool)}
theorem WX.mvM {d s : Nat} {st : Stamp} {ks : MKeys} {vs : List (List PV)} (hg : guardOf ops { dst := some d, op := .move (.tmp s), type := ty, pos := pos, after := after, guard := guard } (lookup e) = some true)
    (hx : opv (lookup e) (.tmp s) = .omap st ks vs) (hd : s ≠ d) (k : WX P Φ keep ops rid (i + 1) r ((d, .mref s none st) :: e) none K) :
    WX P Φ keep ops rid i ({ dst := some d, op := .move (.tmp s), type := ty, pos := pos, after := after, guard := guard } :: r) e none K := by
  refine WX.rawN hg (u := [(d, .mref s none st)]) ?_ (by rw [onUps_eq]; exact k)
  show moveS false keep (rid, i) d (.tmp s) (res (lookup e) (.tmp s)) = _
  have hr : res (lookup e) (.tmp s) = (.omap st ks vs, .dead) := by unfold res; rw [hx]; rfl
  rw [hr]
  unfold moveS
  simp [hd]
theorem ups_go {d : Nat} {v : PV} {e : List (Nat × PV)} {q : List (Nat × PV) → Prop} (h : q ((d, v) :: e)) : onUps [(d, v)] e q := by rw [onUps_eq]; exact h
end
abbrev Vr := Bs × Int
def vrow (vs : List Vr) : List (List PV) := vs.map fun v => [.str v.1, .int .i64 v.2]
theorem vrow_len (vs : List Vr) : (vrow vs).length = vs.length := by simp [vrow]
theorem vsnoc (vs : List Vr) (x : Vr) : vrow vs ++ [[.str x.1, .int .i64 x.2]] = vrow (vs ++ [x]) := by simp [vrow]
/-- The sort under a name. -/
def getV : List Vr → Bs → Option Int
  | [], _ => none
  | v :: vs, x => if v.1 = x then some v.2 else getV vs x
theorem get_some : ∀ {vs : List Vr} {x : Bs} {s : Int}, getV vs x = some s → mapGet (vs.map (·.1)) (vrow vs) x = some [.str x, .int .i64 s]
  | [], _, _, h => by cases h
  | v :: vs, x, s, h => by
    unfold getV at h
    show (if v.1 = x then some [PV.str v.1, PV.int .i64 v.2] else mapGet (vs.map (·.1)) (vrow vs) x) = _
    split at h
    · rename_i hv
      cases h
      rw [if_pos hv, hv]
    · rename_i hv
      rw [if_neg hv]
      exact get_some h
theorem get_none : ∀ {vs : List Vr} {x : Bs}, getV vs x = none → mapGet (vs.map (·.1)) (vrow vs) x = none
  | [], _, _ => rfl
  | v :: vs, x, h => by
    unfold getV at h
    show (if v.1 = x then some [PV.str v.1, PV.int .i64 v.2] else mapGet (vs.map (·.1)) (vrow vs) x) = _
    split at h
    · cases h
    · rename_i hv
      rw [if_neg hv]
      exact get_none h
theorem put_none : ∀ {vs : List Vr} {x : Bs} (s : Int), getV vs x = none → mapPut (vs.map (·.1)) (vrow vs) x [.str x, .int .i64 s] = ((vs ++ [(x, s)]).map (·.1), vrow (vs ++ [(x, s)]))
  | [], _, _, _ => rfl
  | v :: vs, x, s, h => by
    unfold getV at h
    split at h
    · cases h
    · rename_i hv
      have ih := put_none s h
      show (if v.1 = x then _ else (v.1 :: (mapPut (vs.map (·.1)) (vrow vs) x [.str x, .int .i64 s]).1, [PV.str v.1, PV.int .i64 v.2] :: (mapPut (vs.map (·.1)) (vrow vs) x [.str x, .int .i64 s]).2)) = _
      rw [if_neg hv, ih]
      rfl
def nmStep (vs : List Vr) (n : Node) : Option (List Vr) :=
  if n.op = 4 then match getV vs n.name with
    | none => some (vs ++ [(n.name, n.sort)])
    | some s => if s = n.sort then some vs else none
  else some vs
def nmGo : List Node → List Vr → Option (List Vr)
  | [], vs => some vs
  | n :: l, vs => match nmStep vs n with
    | some vs' => nmGo l vs'
    | none => none
def namesP (t : List Node) : PV := match nmGo t [] with
  | some vs => .tup [.imm 2 (vrow vs), .imm 3 [], .bool true]
  | none => .tup [.imm 2 [], .imm 3 [], .bool false]
theorem drop_consG {α : Type} {l : List α} {i : Nat} (d : α) (h : i < l.length) : l.drop i = l.getD i d :: l.drop (i + 1) := by
  rw [List.drop_eq_getElem_cons h]
  simp [List.getD, List.getElem?_eq_getElem h]
set_option maxHeartbeats 2000000 in
theorem names_T (t : List Node) (ps : List Part) (ht : t.length ≤ 20000) (h5 : ∀ n ∈ t, n.op ≠ 5) : T (k + 3) 122 [viewP t ps] = some (namesP t, []) := by
  unfold viewP
  refine enter rfl func122 rfl (by decide) (by kernel_rfl) rfl rfl ?_
  refine zs0 ?_
  rw [nrow_len]
  refine W.loop (fun e q => ∃ (i : Nat) (vs : List Vr), e = [(6, .omap (0, 0) (true, []) []), (5, .omap (0, 0) (true, vs.map (·.1)) (vrow vs)), (8, .own (0, 0) 3 []), (0, .iptr [.imm 5 (nrow t), .imm 3 (prow ps)] 0), (25, .imm 5 (nrow t)), (26, .int .i64 t.length), (27, .int .i64 i), (7, .own (0, 0) 2 (vrow vs)), (95, .dead),
    (24, .iptr [.imm 5 (nrow t), .imm 3 (prow ps)] 0), (57, .dead), (23, .iptr [.imm 5 (nrow t), .imm 3 (prow ps)] 0), (22, .iptr [.imm 5 (nrow t), .imm 3 (prow ps)] 0)] ∧ i ≤ t.length ∧ nmGo t [] = nmGo (t.drop i) vs ∧ vs.length ≤ i ∧ q = t.length - i) t.length ?_ ?_ ?_
  · exact ⟨0, [], rfl, by omega, rfl, by simp, by omega⟩
  · show _ < 4611686018427387904; omega
  · rintro e q ⟨i, vs, rfl, hi, hL, hvl, rfl⟩
    refine zs0 ?_
    refine W.cond rfl (fun hlt => ?_) (fun hlt => ?_)
    · have hlt := of_decide_eq_true hlt
      have hg := nrow_get (t := t) (i := i) (by omega)
      have hop := h5 _ (mem_getD (l := t) (i := i) noNode (by omega))
      rw [drop_consG noNode (show i < t.length by omega)] at hL
      generalize t.getD i noNode = n at *
      obtain ⟨op, srt, kids, nm, num⟩ := n
      simp only at hop
      have hg : (nrow t)[i]? = some [.int .i64 op, .int .i64 srt, .str nm, .str num, .int .i64 kids] := hg
      have hst : nmGo (⟨op, srt, kids, nm, num⟩ :: t.drop (i + 1)) vs = match nmStep vs ⟨op, srt, kids, nm, num⟩ with | some vs' => nmGo (t.drop (i + 1)) vs' | none => none := rfl
      have hsp : nmStep vs ⟨op, srt, kids, nm, num⟩ = if op = 4 then (match getV vs nm with | none => some (vs ++ [(nm, srt)]) | some s => if s = srt then some vs else none) else some vs := rfl
      rw [hst, hsp] at hL
      refine zs0 ?_
      refine WX.idxImm tab_eq rfl rfl rfl rfl rfl rfl (by omega) (hg) ?_
      refine zs0 ?_
      refine W.cond rfl (fun c4 => ?_) (fun c4 => ?_)
      · have c4 : op = 4 := of_decide_eq_true c4
        subst c4
        rw [if_pos rfl] at hL
        cases hgv : getV vs nm with
        | none =>
          rw [hgv] at hL
          have h1 := get_none hgv
          have h2 := put_none srt hgv
          refine zs0 ?_
          refine WX.mvM rfl rfl (by decide) ?_
          refine zs0 ?_
          rw [show mapGet (true, vs.map (·.1)).2 (vrow vs) nm = none from h1]
          refine zs0 ?_
          refine WX.mvM rfl rfl (by decide) ?_
          refine zs0 ?_
          rw [show mapPut (vs.map (·.1)) (vrow vs) nm [.str nm, .int .i64 srt] = _ from h2]
          refine ups_go ?_
          refine zs0 ?_
          refine WX.step tab_eq rfl rfl (by simp [vrow_len] <;> omega) ?_
          refine zs0 ?_
          refine W.cond rfl (fun c6 => ?_) (fun c6 => ?_)
          · exact absurd (of_decide_eq_true c6) (by simp)
          · refine zs0 ?_
            rw [wrap_i64 (x := (i : Int) + 1) (by omega) (by omega), List.take_length, show vrow vs ++ [[.str nm, .int .i64 srt]] = vrow (vs ++ [(nm, srt)]) from vsnoc vs (nm, srt)]
            show ∃ m', _
            exact ⟨t.length - (i + 1), by omega, i + 1, vs ++ [(nm, srt)], rfl, by omega, hL, by simp; omega, rfl⟩
        | some s =>
          rw [hgv] at hL
          have h1 := get_some hgv
          refine zs0 ?_
          refine WX.mvM rfl rfl (by decide) ?_
          refine zs0 ?_
          rw [show mapGet (true, vs.map (·.1)).2 (vrow vs) nm = some [.str nm, .int .i64 s] from h1]
          refine zs0 ?_
          refine W.cond rfl (fun c6 => ?_) (fun c6 => ?_)
          · have c6 : ¬ s = srt := by have := of_decide_eq_true c6; omega
            simp only [if_neg c6] at hL
            rw [show namesP t = .tup [.imm 2 [], .imm 3 [], .bool false] by unfold namesP; rw [hL]]
            refine zs0 ?_
            rfl
          · have c6 : s = srt := by have := of_decide_eq_false c6; omega
            simp only [if_pos c6] at hL
            refine zs0 ?_
            rw [wrap_i64 (x := (i : Int) + 1) (by omega) (by omega)]
            show ∃ m', _
            exact ⟨t.length - (i + 1), by omega, i + 1, vs, rfl, by omega, hL, by omega, rfl⟩
      · have c4 : ¬ op = 4 := of_decide_eq_false c4
        rw [if_neg c4] at hL
        refine zs0 ?_
        refine W.cond rfl (fun c5 => ?_) (fun c5 => ?_)
        · exact absurd (of_decide_eq_true c5) hop
        · refine zs0 ?_
          rw [wrap_i64 (x := (i : Int) + 1) (by omega) (by omega)]
          show ∃ m', _
          exact ⟨t.length - (i + 1), by omega, i + 1, vs, rfl, by omega, hL, by omega, rfl⟩
    · have hlt := of_decide_eq_false hlt
      have : i = t.length := by omega
      subst this
      rw [List.drop_length] at hL
      have hP : namesP t = .tup [.imm 2 (vrow vs), .imm 3 [], .bool true] := by
        unfold namesP
        rw [hL]
        rfl
      rw [hP]
      refine zs0 ?_
      rw [List.take_length, List.take_length]
      show some _ = some _
      rfl
end Go.PE
namespace Go.PE
open Go.RowKit Go.Proofs.Tryz
set_option maxRecDepth 100000
variable {k : Nat}
/-! ### term.known, Valid, SortOf; spans.Formula -/
theorem lk_len {t : List Node} {i : Nat} {ps ps' : List Part} {rs rs' : List Int} (h : lkStep t i ps rs = some (ps', rs')) : ps'.length = ps.length := by
  unfold lkStep at h
  simp only at h
  split at h
  · cases h
  · split at h
    · cases h
    · cases h
      rw [List.length_set]
theorem lkGo_len {t : List Node} : ∀ {i : Nat} {ps ps' : List Part} {rs rs' : List Int}, lkGo t i ps rs = some (ps', rs') → ps'.length = ps.length
  | 0, _, _, _, _, h => by cases h; rfl
  | i + 1, ps, ps', rs, rs', h => by
    unfold lkGo at h
    split at h
    · rename_i h1
      rw [lkGo_len h, lk_len h1]
    · cases h
theorem lookV_len {t : List Node} {ps : List Part} {rs : List Int} (h : lookV t = some (ps, rs)) : ps.length = t.length := by
  rw [lkGo_len h, List.length_replicate]
def knownV (t : List Node) : Option (List Part) :=
  if t = [] ∨ 20000 < t.length then none else match lookV t with
    | some (ps, rs) => if rs.length = 1 ∧ largeB t ps = false ∧ (nmGo t []).isSome = true then some ps else none
    | none => none
def knownP (t : List Node) : PV := match knownV t with
  | some ps => .tup [viewP t ps, .bool true]
  | none => .tup [.nilp, .bool false]
theorem known_T (t : List Node) (hl : t.length ≤ 4611686018427380000) (hs : ∀ n ∈ t, n.name.length < 150994900 ∧ n.num.length < 150994900) (h5 : ∀ n ∈ t, n.op ≠ 5) : T (k + 10) 87 [.imm 5 (nrow t)] = some (knownP t, []) := by
  have hno : (t = [] ∨ 20000 < t.length) → knownP t = .tup [.nilp, .bool false] := fun h => by
    unfold knownP knownV
    rw [if_pos h]
  refine enter rfl func87 rfl (by decide) (by kernel_rfl) rfl rfl ?_
  refine zs0 ?_
  rw [nrow_len]
  refine WX.boolM rfl rfl (fun c1 => ?_) (fun c1 => ?_)
  · have c1 : t.length = 0 := by have := of_decide_eq_true c1; omega
    rw [hno (.inl (List.length_eq_zero_iff.1 c1))]
    refine zs0 ?_
    rfl
  · have c1 : t.length ≠ 0 := by have := of_decide_eq_false c1; omega
    refine zs0 ?_
    rw [nrow_len]
    refine W.cond rfl (fun c2 => ?_) (fun c2 => ?_)
    · rw [hno (.inr (by have := of_decide_eq_true c2; omega))]
      refine zs0 ?_
      rfl
    · have c2 : t.length ≤ 20000 := by have := of_decide_eq_false c2; omega
      have hL := look_T (k := k) t c2 hs
      have hk : knownV t = match lookV t with
          | some (ps, rs) => if rs.length = 1 ∧ largeB t ps = false ∧ (nmGo t []).isSome = true then some ps else none
          | none => none := by
        unfold knownV
        rw [if_neg (by rintro (rfl | h); exact c1 rfl; omega)]
      unfold lookP at hL
      unfold knownP
      rw [hk]
      clear hk hno
      cases hlv : lookV t with
      | none =>
        rw [hlv] at hL
        refine zs1 hL ?_
        rfl
      | some q =>
        obtain ⟨ps, rs⟩ := q
        have hpl := lookV_len hlv
        rw [hlv] at hL
        have hG := large_T (k := k + 8) t ps (by omega)
        have hN := names_T (k := k + 6) t ps c2 h5
        simp only at hL
        unfold viewP at hG hN ⊢
        refine zs1 hL ?_
        refine WX.boolM rfl rfl (fun c3 => ?_) (fun c3 => ?_)
        · have c3 : rs.length = 1 := of_decide_eq_true c3
          refine zs1 hG ?_
          cases hlb : largeB t ps with
          | true =>
            simp only [c3, hlb, true_and, Bool.true_eq_false, false_and, if_false]
            refine zs0 ?_
            rfl
          | false =>
            simp only [c3, hlb, true_and]
            unfold namesP at hN
            cases hnm : nmGo t [] with
            | none =>
              rw [hnm] at hN
              simp only at hN
              refine zs1 hN ?_
              rfl
            | some vs =>
              rw [hnm] at hN
              simp only at hN
              refine zs1 hN ?_
              rfl
        · have c3 : ¬ rs.length = 1 := of_decide_eq_false c3
          simp only [c3, false_and, if_false]
          refine zs0 ?_
          rfl
/-- The sort of a term; 0 of what is none. -/
def srtV (t : List Node) : Int := match knownV t with
  | some ps => (ps.getD 0 noPart).sort
  | none => 0
theorem knownV_len {t : List Node} {ps : List Part} (h : knownV t = some ps) : ps.length = t.length ∧ t ≠ [] := by
  unfold knownV at h
  split at h
  · cases h
  · rename_i hc
    split at h
    · rename_i hl
      split at h
      · cases h
        exact ⟨lookV_len hl, fun e => hc (.inl e)⟩
      · cases h
    · cases h
theorem srt_T (t : List Node) (hl : t.length ≤ 4611686018427380000) (hs : ∀ n ∈ t, n.name.length < 150994900 ∧ n.num.length < 150994900) (h5 : ∀ n ∈ t, n.op ≠ 5) : T (k + 11) 80 [.imm 5 (nrow t)] = some (.int .i64 (srtV t), []) := by
  have hK := known_T (k := k) t hl hs h5
  unfold knownP at hK
  unfold srtV
  cases hkv : knownV t with
  | none =>
    rw [hkv] at hK
    simp only at hK ⊢
    refine enter rfl func80 rfl (by decide) (by kernel_rfl) rfl rfl ?_
    refine zs1 hK ?_
    rfl
  | some ps =>
    obtain ⟨h1, h2⟩ := knownV_len hkv
    have hp : 0 < ps.length := by rw [h1]; exact List.length_pos_iff.2 h2
    have hg := prow_get (l := ps) (i := 0) hp
    have hg : (prow ps)[0]? = some [.int .i64 (ps.getD 0 noPart).sort, .int .i64 (ps.getD 0 noPart).depth, .int .i64 (ps.getD 0 noPart).fin] := hg
    rw [hkv] at hK
    unfold viewP at hK
    simp only at hK ⊢
    refine enter rfl func80 rfl (by decide) (by kernel_rfl) rfl rfl ?_
    refine zs1 hK ?_
    refine WX.idxImm tab_eq rfl rfl rfl rfl rfl rfl (by omega) (hg) ?_
    refine zs0 ?_
    rfl
def formV (t : List Node) : Bool := ((List.range t.length).all fun i => !decide ((t.getD i noNode).op = 5)) && decide (srtV t = 1)
theorem form_T (t : List Node) (hl : t.length ≤ 1000000) (hs : ∀ n ∈ t, n.name.length < 150994900 ∧ n.num.length < 150994900) : T (k + 12) 50 [.imm 5 (nrow t)] = some (.bool (formV t), []) := by
  refine enter rfl func50 rfl (by decide) (by kernel_rfl) rfl rfl ?_
  refine zs0 ?_
  rw [nrow_len]
  refine W.loop (fun e m => ∃ (i : Nat), e = [(5, .imm 5 (nrow t)), (0, .imm 5 (nrow t)), (6, .int .i64 t.length), (7, .int .i64 i)] ∧ i ≤ t.length ∧ (List.range i).all (fun i => !decide ((t.getD i noNode).op = 5)) = true ∧ m = t.length - i) t.length ?_ ?_ ?_
  · exact ⟨0, rfl, by omega, rfl, by omega⟩
  · show _ < 4611686018427387904; omega
  · rintro e m ⟨i, rfl, hi, hd, rfl⟩
    refine zs0 ?_
    refine W.cond rfl (fun hlt => ?_) (fun hlt => ?_)
    · have hlt := of_decide_eq_true hlt
      have hg := nrow_get (t := t) (i := i) (by omega)
      have hgo := @range_step i (fun i => !decide ((t.getD i noNode).op = 5)) hd
      have hno := @range_stop t.length i (fun i => !decide ((t.getD i noNode).op = 5)) (by omega)
      generalize hn : t.getD i noNode = n at *
      obtain ⟨op, srt, kids, nm, num⟩ := n
      have hg : (nrow t)[i]? = some [.int .i64 op, .int .i64 srt, .str nm, .str num, .int .i64 kids] := hg
      simp only at hgo hno
      refine zs0 ?_
      refine WX.idxImm tab_eq rfl rfl rfl rfl rfl rfl (by omega) (hg) ?_
      refine zs0 ?_
      refine W.cond rfl (fun c1 => ?_) (fun c1 => ?_)
      · refine zs0 ?_
        (refine (congrArg (fun b => some (PV.bool b, [])) ?_ : some (PV.bool _, []) = some (PV.bool _, [])); exact (by rw [formV, hno (by rw [show decide (op = 5) = true from c1]; rfl)]; rfl))
      · refine zs0 ?_
        rw [wrap_i64 (x := (i : Int) + 1) (by omega) (by omega)]
        show ∃ m', _
        exact ⟨t.length - (i + 1), by omega, i + 1, rfl, by omega, hgo (by rw [show decide (op = 5) = false from c1]; rfl), rfl⟩
    · have hlt := of_decide_eq_false hlt
      have : i = t.length := by omega
      subst this
      have h5 : ∀ n ∈ t, n.op ≠ 5 := fun n hn => by
        obtain ⟨j, hj⟩ := List.getElem?_of_mem hn
        have hlt := (List.getElem?_eq_some_iff.1 hj).1
        have := List.all_eq_true.1 hd j (List.mem_range.2 hlt)
        simpa [List.getD, hj] using this
      have hS := srt_T (k := k) t (by omega) hs h5
      refine zs1 hS ?_
      (refine (congrArg (fun b => some (PV.bool b, [])) ?_ : some (PV.bool _, []) = some (PV.bool _, [])); exact (by rw [formV, hd, Bool.true_and]))
end Go.PE
namespace Go.PE
open Go.RowKit Go.Proofs.Tryz
set_option maxRecDepth 100000
/-! ### What a term is that has been looked at: a tree -/
def chain (ps : List Part) : List Int → Int → Int → Prop
  | [], a, b => a = b
  | z :: l, a, b => z = a ∧ chain ps l (ps.getD z.toNat noPart).fin b
theorem chain_append {ps : List Part} : ∀ {l1 l2 : List Int} {a b : Int}, chain ps (l1 ++ l2) a b → ∃ c, chain ps l1 a c ∧ chain ps l2 c b
  | [], l2, a, b, h => ⟨a, rfl, h⟩
  | z :: l1, l2, a, b, h => by
    obtain ⟨h1, h2⟩ := h
    obtain ⟨c, h3, h4⟩ := chain_append h2
    exact ⟨c, ⟨h1, h3⟩, h4⟩
theorem chain_kids {ps : List Part} : ∀ {l : List Int} {a b : Int}, chain ps l a b → l = kidsV ps l.length a ∧ b = endKd ps l.length a
  | [], a, b, h => ⟨rfl, h.symm⟩
  | z :: l, a, b, ⟨h1, h2⟩ => by
    subst h1
    obtain ⟨h3, h4⟩ := chain_kids h2
    refine ⟨?_, ?_⟩
    · rw [List.length_cons, kidsV, ← h3]
    · rw [List.length_cons, endKd, ← h4]
theorem fold_kids {ps : List Part} : ∀ {l : List Int} {ss : List Int} {d f b : Int}, chain ps l f b → (l.foldl (kidStep ps) (ss, d, f)).1 = ss ++ l.map (fun z => (ps.getD z.toNat noPart).sort) ∧ (l.foldl (kidStep ps) (ss, d, f)).2.2 = b
  | [], ss, d, f, b, h => ⟨by simp, h⟩
  | z :: l, ss, d, f, b, ⟨h1, h2⟩ => by
    obtain ⟨h3, h4⟩ := fold_kids (ss := ss ++ [(ps.getD z.toNat noPart).sort]) (d := max d ((ps.getD z.toNat noPart).depth + 1)) h2
    refine ⟨?_, h4⟩
    rw [List.foldl_cons]
    refine h3.trans ?_
    simp
theorem part_set_ne {ps : List Part} {i j : Nat} {p : Part} (h : i ≠ j) : (ps.set i p).getD j noPart = ps.getD j noPart := by simp [List.getD, List.getElem?_set, h]
theorem part_set_eq {ps : List Part} {i : Nat} {p : Part} (h : i < ps.length) : (ps.set i p).getD i noPart = p := by simp [List.getD, List.getElem?_set, h]
theorem chain_set {ps : List Part} {i : Nat} {p : Part} : ∀ {l : List Int} {a b : Int}, (∀ z ∈ l, (i : Int) < z) → chain ps l a b → chain (ps.set i p) l a b
  | [], _, _, _, h => h
  | z :: l, a, b, hz, ⟨h1, h2⟩ => by
    refine ⟨h1, ?_⟩
    rw [part_set_ne (by have := hz z (by simp); omega)]
    exact chain_set (fun y hy => hz y (by simp [hy])) h2
theorem kids_set {ps : List Part} {i : Nat} {p : Part} : ∀ {m : Nat} {a : Int}, (∀ z ∈ kidsV ps m a, (i : Int) < z) → kidsV (ps.set i p) m a = kidsV ps m a ∧ endKd (ps.set i p) m a = endKd ps m a
  | 0, _, _ => ⟨rfl, rfl⟩
  | m + 1, a, hz => by
    have ha : (i : Int) < a := hz a (by simp [kidsV])
    have e : (ps.set i p).getD a.toNat noPart = ps.getD a.toNat noPart := part_set_ne (by omega)
    obtain ⟨h1, h2⟩ := kids_set (p := p) (m := m) (a := (ps.getD a.toNat noPart).fin) fun y hy => hz y (by rw [kidsV]; exact List.mem_cons_of_mem _ hy)
    rw [kidsV, endKd, e, h1, h2]
    exact ⟨rfl, rfl⟩
/-- A node, its children, its end. -/
structure NodeAt (t : List Node) (ps : List Part) (j m : Nat) : Prop where
  kids : (t.getD j noNode).kids = m
  flds : fieldsB (t.getD j noNode) = true
  cnt : countB (t.getD j noNode).op m = true
  mem : ∀ z ∈ kidsV ps m ((j : Int) + 1), (j : Int) < z ∧ z < t.length
  fin : (ps.getD j noPart).fin = endKd ps m ((j : Int) + 1)
  srt : (ps.getD j noPart).sort = sortV (t.getD j noNode).op (t.getD j noNode).sort ((kidsV ps m ((j : Int) + 1)).map fun z => (ps.getD z.toNat noPart).sort)
  nz : (ps.getD j noPart).sort ≠ 0
  mul : (t.getD j noNode).op = 15 → (t.getD (j + 1) noNode).op = 3
  lt : (j : Int) < (ps.getD j noPart).fin
  le : (ps.getD j noPart).fin ≤ t.length
theorem NodeAt.set {t : List Node} {ps : List Part} {i j m : Nat} {p : Part} (h : NodeAt t ps j m) (hij : i < j) : NodeAt t (ps.set i p) j m := by
  obtain ⟨h1, h2⟩ := kids_set (p := p) (i := i) (m := m) (a := (j : Int) + 1) (ps := ps) fun z hz => by have := (h.mem z hz).1; omega
  have e : (ps.set i p).getD j noPart = ps.getD j noPart := part_set_ne (by omega)
  have em : ((kidsV ps m ((j : Int) + 1)).map fun z => ((ps.set i p).getD z.toNat noPart).sort) = (kidsV ps m ((j : Int) + 1)).map fun z => (ps.getD z.toNat noPart).sort := by
    refine List.map_congr_left fun z hz => ?_
    rw [part_set_ne (by have := (h.mem z hz).1; omega)]
  refine ⟨h.kids, h.flds, h.cnt, by rw [h1]; exact h.mem, by rw [e, h2]; exact h.fin, by rw [e, h1, em]; exact h.srt, by rw [e]; exact h.nz, h.mul, by rw [e]; exact h.lt, by rw [e]; exact h.le⟩
structure LkTree (t : List Node) (i : Nat) (ps : List Part) (rs : List Int) : Prop where
  inv : LkInv t i ps rs
  ch : chain ps rs.reverse i t.length
  nodes : ∀ j, i ≤ j → j < t.length → ∃ m, NodeAt t ps j m
theorem kidsOf_rev (rs : List Int) (m : Nat) (hm : m ≤ rs.length) : rs.reverse = kidsOf rs m ++ (rs.take (rs.length - m)).reverse := by
  unfold kidsOf
  rw [← List.reverse_append, List.take_append_drop]
theorem kidsOf_len (rs : List Int) (m : Nat) (hm : m ≤ rs.length) : (kidsOf rs m).length = m := by
  unfold kidsOf
  simp
  omega
theorem dep_fold {ps : List Part} {B : Int} : ∀ {l : List Int} {ss : List Int} {d f : Int}, 1 ≤ d → d ≤ B → (∀ z ∈ l, (ps.getD z.toNat noPart).depth + 1 ≤ B) → 1 ≤ (l.foldl (kidStep ps) (ss, d, f)).2.1 ∧ (l.foldl (kidStep ps) (ss, d, f)).2.1 ≤ B
  | [], _, _, _, h1, h2, _ => ⟨h1, h2⟩
  | z :: l, ss, d, f, h1, h2, hz => by
    rw [List.foldl_cons]
    have h3 := hz z (by simp)
    exact dep_fold (l := l) (show 1 ≤ max d ((ps.getD z.toNat noPart).depth + 1) by omega) (show max d ((ps.getD z.toNat noPart).depth + 1) ≤ B by omega) fun y hy => hz y (by simp [hy])
theorem tree_step {t : List Node} {i : Nat} {ps ps' : List Part} {rs rs' : List Int} (h : LkTree t (i + 1) ps rs) (hi : i + 1 ≤ t.length) (hs : lkStep t i ps rs = some (ps', rs')) : LkTree t i ps' rs' := by
  unfold lkStep at hs
  simp only at hs
  split at hs
  · cases hs
  · rename_i hb
    split at hs
    · cases hs
    · rename_i hn
      cases hs
      have hb : badNode (t.getD i noNode) rs.length = false := by simpa using hb
      unfold badNode at hb
      simp only [Bool.or_eq_false_iff, Bool.not_eq_false', decide_eq_false_iff_not] at hb
      obtain ⟨⟨⟨hk0, hk1⟩, hfl⟩, hct⟩ := hb
      obtain ⟨m, hm⟩ : ∃ m : Nat, (t.getD i noNode).kids = m := ⟨(t.getD i noNode).kids.toNat, by omega⟩
      rw [hm] at hk1 hct hn ⊢
      rw [Int.toNat_natCast] at hn ⊢
      have hmr : m ≤ rs.length := by omega
      have hlen := h.inv.len
      obtain ⟨c, hc1, hc2⟩ := chain_append (by rw [← kidsOf_rev rs m hmr]; exact h.ch)
      have hkm : ∀ z ∈ kidsOf rs m, (i : Int) < z ∧ z < t.length := fun z hz => by
        have hz' : z ∈ rs := by
          unfold kidsOf at hz
          exact List.mem_of_mem_drop (List.mem_reverse.1 hz)
        have := h.inv.rts z hz'
        omega
      have hrm : ∀ z ∈ (rs.take (rs.length - m)).reverse, (i : Int) < z ∧ z < t.length := fun z hz => by
        have := h.inv.rts z (List.mem_of_mem_take (List.mem_reverse.1 hz))
        omega
      obtain ⟨hk2, hk3⟩ := chain_kids hc1
      rw [kidsOf_len rs m hmr] at hk2 hk3
      obtain ⟨hf1, hf2⟩ := fold_kids (ss := []) (d := 1) (show chain ps (kidsOf rs m) ((i : Int) + 1) c by simpa using hc1)
      have hq1 : (kidsAll ps i (kidsOf rs m)).1 = (kidsOf rs m).map (fun z => (ps.getD z.toNat noPart).sort) := by
        have := hf1
        simpa [kidsAll] using this
      have hq2 : (kidsAll ps i (kidsOf rs m)).2.2 = c := hf2
      have hcle : c ≤ t.length := by
        cases hr : (rs.take (rs.length - m)).reverse with
        | nil => rw [hr] at hc2; have : c = (t.length : Int) := hc2; omega
        | cons z l =>
          rw [hr] at hc2
          have h1 : z = c := hc2.1
          have := hrm z (by rw [hr]; simp)
          omega
      have hclt : (i : Int) < c := by
        have hcc : ∀ (l : List Int) (a b : Int), (i : Int) < a → (∀ z ∈ l, (i : Int) < z ∧ z < t.length) → chain ps l a b → (i : Int) < b := by
          intro l
          induction l with
          | nil => intro a b ha _ hch; have : a = b := hch; omega
          | cons z l ih =>
            intro a b ha hz hch
            obtain ⟨hh1, hh2⟩ := hch
            obtain ⟨q1, q2⟩ := hz z (by simp)
            obtain ⟨mz, hN⟩ := h.nodes z.toNat (by omega) (by omega)
            have hl := hN.lt
            exact ih _ _ (by omega) (fun y hy => hz y (by simp [hy])) hh2
        exact hcc _ _ _ (by omega) hkm hc1
      have hset : ∀ p : Part, kidsV (ps.set i p) m ((i : Int) + 1) = kidsOf rs m ∧ endKd (ps.set i p) m ((i : Int) + 1) = c := fun p => by
        have hk2' : kidsOf rs m = kidsV ps m ((i : Int) + 1) := by simpa using hk2
        have hk3' : c = endKd ps m ((i : Int) + 1) := by simpa using hk3
        obtain ⟨e1, e2⟩ := kids_set (p := p) (i := i) (m := m) (a := (i : Int) + 1) (ps := ps) fun z hz => (hkm z (by rw [hk2']; exact hz)).1
        rw [e1, e2, ← hk2', ← hk3']
        exact ⟨rfl, rfl⟩
      rw [hq1] at hn
      have hnz : ¬ sortV (t.getD i noNode).op (t.getD i noNode).sort ((kidsOf rs m).map fun z => (ps.getD z.toNat noPart).sort) = 0 := fun e => hn (.inl e)
      have hml : (t.getD i noNode).op = 15 → (t.getD (i + 1) noNode).op = 3 := fun e => by
        by_cases e2 : (t.getD (i + 1) noNode).op = 3
        · exact e2
        · exact absurd (.inr ⟨e, e2⟩) hn
      have hdep : 1 ≤ (kidsAll ps i (kidsOf rs m)).2.1 ∧ (kidsAll ps i (kidsOf rs m)).2.1 ≤ (t.length : Int) - i := by
        refine dep_fold (Int.le_refl 1) (by omega) fun z hz => ?_
        obtain ⟨q1, q2⟩ := hkm z hz
        have := (h.inv.dep z.toNat (by omega)).2
        omega
      rw [hq1, hq2]
      generalize (kidsAll ps i (kidsOf rs m)).2.1 = d at *
      have hlt : i < ps.length := by omega
      refine ⟨lk_next h.inv hi hdep.1 hdep.2, ?_, fun j hj1 hj2 => ?_⟩
      · rw [List.reverse_append]
        refine ⟨rfl, ?_⟩
        rw [Int.toNat_natCast, part_set_eq hlt]
        exact chain_set (fun z hz => (hrm z hz).1) hc2
      · by_cases hji : j = i
        · subst hji
          have e := part_set_eq (p := ⟨sortV (t.getD j noNode).op (t.getD j noNode).sort ((kidsOf rs m).map fun z => (ps.getD z.toNat noPart).sort), d, c⟩) hlt
          obtain ⟨h1, h2⟩ := hset ⟨sortV (t.getD j noNode).op (t.getD j noNode).sort ((kidsOf rs m).map fun z => (ps.getD z.toNat noPart).sort), d, c⟩
          refine ⟨m, hm, hfl, hct, by rw [h1]; exact hkm, by rw [e, h2], ?_, by rw [e]; exact hnz, hml, by rw [e]; exact hclt, by rw [e]; exact hcle⟩
          rw [e, h1]
          refine congrArg (sortV (t.getD j noNode).op (t.getD j noNode).sort) (List.map_congr_left fun z hz => ?_)
          rw [part_set_ne (by have := (hkm z hz).1; omega)]
        · obtain ⟨m', hN⟩ := h.nodes j (by omega) hj2
          exact ⟨m', hN.set (by omega)⟩
theorem tree_go {t : List Node} : ∀ {i : Nat} {ps ps' : List Part} {rs rs' : List Int}, LkTree t i ps rs → i ≤ t.length → lkGo t i ps rs = some (ps', rs') → LkTree t 0 ps' rs'
  | 0, _, _, _, _, h, _, hg => by cases hg; exact h
  | i + 1, ps, ps', rs, rs', h, hi, hg => by
    unfold lkGo at hg
    split at hg
    · rename_i h1
      exact tree_go (tree_step h hi h1) (by omega) hg
    · cases hg
theorem look_tree {t : List Node} {ps : List Part} {rs : List Int} (h : lookV t = some (ps, rs)) : LkTree t 0 ps rs := by
  refine tree_go (i := t.length) (ps := List.replicate t.length noPart) (rs := []) ⟨⟨by simp, by simp, by simp, fun j hj => ?_⟩, rfl, fun j h1 h2 => by omega⟩ (Nat.le_refl _) h
  simp [List.getD, hj, noPart]
  omega
end Go.PE
