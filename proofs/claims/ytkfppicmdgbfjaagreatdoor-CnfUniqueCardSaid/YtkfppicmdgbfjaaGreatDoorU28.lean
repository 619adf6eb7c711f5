/-
  A part of the proof that the law's function returns true and leaves its arguments as they were, for every input (no condition): own lemmas of the proof, in the order of their use.
-/
import Derived.Test.YtkfppicmdgbfjaaGreatDoorU27
import Derived.Test.YtkfppicmdgbfjaaGreatDoorU17
import Derived.Test.YtkfppicmdgbfjaaGreatDoorU15
import Derived.Lib.ItoaNum
import Derived.Test.YtkfppicmdgbfjaaGreatDoorRows
import Derived.ProofKit
import Derived.LaidMore
import Derived.OpenShut
import Derived.Stop.Joined
import Derived.Lib.LaidTab
import Derived.Carry
set_option linter.all false
namespace Go.PE
open Go.RowKit Go.Proofs.Tryz
set_option maxRecDepth 100000
variable {k : Nat}
/-! ### junction, clauses -/
theorem take_map {α : Type} (g : Int → α) (l : List Int) {i : Nat} (h : i < l.length) : (l.take (i + 1)).map g = (l.take i).map g ++ [g (l.getD i 0)] := by
  rw [List.take_add_one, List.map_append, List.getElem?_eq_getElem h]
  simp [List.getD, List.getElem?_eq_getElem h]
set_option maxHeartbeats 4000000 in
theorem junc_T (y s : Int) (l : List Int) (hy : y.natAbs ≤ 1000) (hs : s = 1 ∨ s = -1) (hl : l.length ≤ 1000) (hx : ∀ x ∈ l, x.natAbs ≤ 1000) : T (k + 1) 53 [.int .i64 y, .int .i64 s, .imm 1 (zrow l)] = some (.own (0, 0) 1 (crow (junc y s l)), []) := by
  refine enter rfl func53 rfl (by decide) (by kernel_rfl) rfl rfl ?_
  refine zs0 ?_
  rw [zrow_len]
  refine W.loop (fun e q => ∃ (j : Nat), e = [(1, .int .i64 s), (0, .int .i64 y), (13, .imm 1 (zrow l)), (14, .int .i64 l.length), (15, .int .i64 j), (8, .own (0, 0) 1 (zrow (y :: (l.take j).map fun k => -s * k))), (7, .own (0, 0) 1 (crow ((l.take j).map fun k => [-y, s * k]))), (2, .imm 1 (zrow l)), (12, .dead), (34, .dead), (27, .dead)] ∧ j ≤ l.length ∧ q = l.length - j) l.length ?_ ?_ ?_
  · exact ⟨0, rfl, by omega, by omega⟩
  · show _ < 4611686018427387904; omega
  · rintro e q ⟨j, rfl, hj, rfl⟩
    refine zs0 ?_
    refine W.cond rfl (fun hlt => ?_) (fun hlt => ?_)
    · have hlt := of_decide_eq_true hlt
      have hg := zrow_get (l := l) (i := j) (by omega)
      have h1 := take_map (fun k => [-y, s * k]) l (i := j) (by omega)
      have h2 := take_map (fun k => -s * k) l (i := j) (by omega)
      have hk := hx (l.getD j 0) (mem_getD _ (by omega))
      have c1 := crow_snoc ((l.take j).map fun k => [-y, s * k]) [-y, s * l.getD j 0]
      have c2 := zsnoc (y :: (l.take j).map fun k => -s * k) (-s * l.getD j 0)
      generalize l.getD j 0 = z at *
      have e1 : s * z = z ∨ s * z = -z := by rcases hs with rfl | rfl <;> omega
      have e2 : (0 - s) * z = -s * z := by rcases hs with rfl | rfl <;> omega
      have e3 : -s * z = z ∨ -s * z = -z := by rcases hs with rfl | rfl <;> omega
      have e4 : IntKind.i64.wrap (0 - s) = 0 - s := wrap_i64 (by omega) (by omega)
      refine zs0 ?_
      refine WX.idxImm tab_eq rfl rfl rfl rfl rfl rfl (by omega) (hg) ?_
      refine zs0 ?_
      rw [wrap_i64 (x := 0 - y) (by omega) (by omega), wrap_i64 (x := s * z) (by omega) (by omega)]
      refine WX.step tab_eq rfl rfl (by simp [crow_len] <;> omega) ?_
      refine zs0 ?_
      rw [e4, e2, wrap_i64 (x := -s * z) (by omega) (by omega)]
      refine WX.step tab_eq rfl rfl (by simp [zrow_len] <;> omega) ?_
      refine zs0 ?_
      rw [wrap_i64 (x := (j : Int) + 1) (by omega) (by omega), Int.zero_sub y, List.take_length, List.take_length]
      show ∃ m', _
      refine ⟨l.length - (j + 1), by omega, j + 1, ?_, by omega, rfl⟩
      rw [h1, h2, ← c1, ← List.cons_append, ← c2]
      rfl
    · have hlt := of_decide_eq_false hlt
      have : j = l.length := by omega
      subst this
      refine zs0 ?_
      refine WX.step tab_eq rfl rfl (by simp [crow_len] <;> omega) ?_
      refine zs0 ?_
      rw [List.take_length, List.take_length, List.drop_zero, List.take_length, crow_snoc]
      rfl
/-- The clauses of variable v. -/
def clA (t : List Node) (ps : List Part) (S : Enc) (v : Nat) : List (List Int) := if connB t ps (S.fs.getD v 0) = true then clV (t.getD (S.fs.getD v 0) noNode).op ((v : Int) + 1) (S.kd.getD v []) else []
theorem zrow_tl (c : Int) (l : List Int) : zrow (c :: l) = [.int .i64 c] :: zrow l := rfl
section
variable {t : List Node} {ps : List Part} {rs : List Int}
theorem kd_lit {S : Enc} (hG : EncG t ps S) {v : Nat} (hv : v < S.ky.length) (hc : connB t ps (S.fs.getD v 0) = true) : (S.kd.getD v []).length = (t.getD (S.fs.getD v 0) noNode).kids.toNat ∧ ∀ x ∈ S.kd.getD v [], x ≠ 0 ∧ x.natAbs ≤ 200 := by
  have hF := hG.full v hv
  unfold Full at hF
  rw [if_pos hc] at hF
  refine ⟨hF.1, fun x hx => ?_⟩
  obtain ⟨h1, h2, _⟩ := hF.2 x hx
  have := hG.le
  exact ⟨h1, by omega⟩
set_option maxHeartbeats 16000000 in
theorem clauses_T (hI : LkTree t 0 ps rs) (hs : Sm t) (hp : ps.length = t.length) {root : Int} {S : Enc} (hG : EncG t ps S) {v : Nat} (hv : v < S.ky.length) : T (k + 2) 33 [.iptr (encI t ps (root, S)) 0, .int .i64 ((v : Int) + 1)] = some (.own (0, 0) 1 (crow (clA t ps S v)), []) := by
  have hl := hs.len
  have l1 := hG.inv.l1
  have l2 := hG.inv.l2
  have hle := hG.le
  obtain ⟨a1, a2, a3⟩ := hG.inv.at' v hv
  obtain ⟨m, hn⟩ := hI.nodes _ (Nat.zero_le _) a1
  have hcon := conn_T (k := k) hn a1 (by omega) hp
  have hg := nrow_get (t := t) a1
  have hfg := frow_get (l := S.fs) (i := v) (by omega)
  have hkg := crow_get (l := S.kd) (i := v) (by omega)
  have hkl := kd_le hI hs hG hv
  have hop := conn_ops hI hG hv
  have hkd := kd_lit hG hv
  have hct := hn.cnt
  have hnk := hn.kids
  unfold encI
  unfold treeP at *
  unfold clA
  generalize connB t ps (S.fs.getD v 0) = c at *
  refine enter rfl func33 rfl (by decide) (by kernel_rfl) rfl rfl ?_
  refine zd8 ?_
  rw [wrap_i64 (x := (v : Int) + 1 - 1) (by omega) (by omega), show (v : Int) + 1 - 1 = v by omega]
  refine WX.idxImmD tab_eq rfl rfl rfl rfl rfl rfl (by omega) (hfg) ?_
  refine zd0 ?_
  rw [wrap_i64 (x := (v : Int) + 1 - 1) (by omega) (by omega), show (v : Int) + 1 - 1 = v by omega]
  refine WX.idxImmD tab_eq rfl rfl rfl rfl rfl rfl (by omega) (hkg) ?_
  refine zd7 ?_
  refine zs2 hcon ?_
  refine W.cond rfl (fun c1 => ?_) (fun c1 => ?_)
  · have c1 := not_true c1
    subst c1
    refine zs0 ?_
    rfl
  · have c1 := not_false c1
    subst c1
    have hop := hop rfl
    obtain ⟨hk1, hk2⟩ := hkd rfl
    rw [hnk, Int.toNat_natCast] at hk1
    generalize S.kd.getD v [] = l at *
    generalize t.getD (S.fs.getD v 0) noNode = n at *
    obtain ⟨op, srt, kids, nm, num⟩ := n
    have hg : (nrow t)[S.fs.getD v 0]? = some [.int .i64 op, .int .i64 srt, .str nm, .str num, .int .i64 kids] := hg
    simp only at hop hct
    rcases hop with rfl | rfl | rfl | rfl | rfl | rfl | rfl
    · refine zs0 ?_
      refine WX.idxImm tab_eq rfl rfl rfl rfl rfl rfl (by omega) (hg) ?_
      refine zs0 ?_
      rfl
    · refine zs0 ?_
      refine WX.idxImm tab_eq rfl rfl rfl rfl rfl rfl (by omega) (hg) ?_
      refine zs0 ?_
      rw [wrap_i64 (x := 0 - ((v : Int) + 1)) (by omega) (by omega), Int.zero_sub]
      rfl
    · refine zs0 ?_
      refine WX.idxImm tab_eq rfl rfl rfl rfl rfl rfl (by omega) (hg) ?_
      refine zs0 ?_
      refine WX.call tab_eq rfl rfl rfl rfl rfl (junc_T (k := k) ((v : Int) + 1) 1 l (by omega) (.inl rfl) (by omega) (fun x hx => by have := (hk2 x hx).2; omega)) rfl rfl ?_
      refine zs0 ?_
      rfl
    · refine zs0 ?_
      refine WX.idxImm tab_eq rfl rfl rfl rfl rfl rfl (by omega) (hg) ?_
      refine zs0 ?_
      rw [wrap_i64 (x := 0 - ((v : Int) + 1)) (by omega) (by omega), Int.zero_sub]
      refine WX.call tab_eq rfl rfl rfl rfl rfl (junc_T (k := k) (-((v : Int) + 1)) (-1) l (by omega) (.inr rfl) (by omega) (fun x hx => by have := (hk2 x hx).2; omega)) rfl rfl ?_
      refine zs0 ?_
      rfl
    · obtain rfl : m = 2 := by simp [countB] at hct; omega
      match l, hk1 with
      | [a, b], _ =>
        obtain ⟨ha, ha'⟩ := hk2 a (by simp)
        obtain ⟨hb, hb'⟩ := hk2 b (by simp)
        rw [zrow_tl, zrow_tl]
        refine zs0 ?_
        refine WX.idxImm tab_eq rfl rfl rfl rfl rfl rfl (by omega) (hg) ?_
        refine zd8 ?_
        iterate 4 (refine WX.idxImmD tab_eq rfl rfl rfl rfl rfl rfl (by omega) (rfl) ?_; refine zd0 ?_)
        refine WX.nilD (by kernel_rfl) ?_
        refine zs0 ?_
        rw [wrap_i64 (x := 0 - ((v : Int) + 1)) (by omega) (by omega), wrap_i64 (x := 0 - a) (by omega) (by omega), wrap_i64 (x := 0 - b) (by omega) (by omega), Int.zero_sub, Int.zero_sub, Int.zero_sub]
        rfl
    · obtain rfl : m = 3 := by simp [countB] at hct; omega
      match l, hk1 with
      | [a, b, c], _ =>
        obtain ⟨ha, ha'⟩ := hk2 a (by simp)
        obtain ⟨hb, hb'⟩ := hk2 b (by simp)
        obtain ⟨hc, hc'⟩ := hk2 c (by simp)
        rw [zrow_tl, zrow_tl, zrow_tl]
        refine zs0 ?_
        refine WX.idxImm tab_eq rfl rfl rfl rfl rfl rfl (by omega) (hg) ?_
        refine zd8 ?_
        iterate 8 (refine WX.idxImmD tab_eq rfl rfl rfl rfl rfl rfl (by omega) (rfl) ?_; refine zd0 ?_)
        refine WX.nilD (by kernel_rfl) ?_
        refine zs0 ?_
        rw [wrap_i64 (x := 0 - ((v : Int) + 1)) (by omega) (by omega), wrap_i64 (x := 0 - a) (by omega) (by omega), wrap_i64 (x := 0 - b) (by omega) (by omega), wrap_i64 (x := 0 - c) (by omega) (by omega), Int.zero_sub, Int.zero_sub, Int.zero_sub, Int.zero_sub]
        rfl
    · obtain rfl : m = 2 := by simp [countB] at hct; omega
      match l, hk1 with
      | [a, b], _ =>
        obtain ⟨ha, ha'⟩ := hk2 a (by simp)
        obtain ⟨hb, hb'⟩ := hk2 b (by simp)
        rw [zrow_tl, zrow_tl]
        refine zs0 ?_
        refine WX.idxImm tab_eq rfl rfl rfl rfl rfl rfl (by omega) (hg) ?_
        refine zd8 ?_
        iterate 8 (refine WX.idxImmD tab_eq rfl rfl rfl rfl rfl rfl (by omega) (rfl) ?_; refine zd0 ?_)
        refine WX.nilD (by kernel_rfl) ?_
        refine zs0 ?_
        rw [wrap_i64 (x := 0 - ((v : Int) + 1)) (by omega) (by omega), wrap_i64 (x := 0 - a) (by omega) (by omega), wrap_i64 (x := 0 - b) (by omega) (by omega), Int.zero_sub, Int.zero_sub, Int.zero_sub]
        rfl
end
end Go.PE
namespace Go.PE
open Go.RowKit Go.Proofs.Tryz
set_option maxRecDepth 100000
variable {k : Nat}
/-! ### Of -/
def arow (l : List (Nat × List Node)) : List (List PV) := l.map fun p => [.int .i64 ((p.1 : Int) + 1), .imm 5 (nrow p.2)]
theorem arow_snoc (l : List (Nat × List Node)) (p : Nat × List Node) : arow l ++ [[.int .i64 ((p.1 : Int) + 1), .imm 5 (nrow p.2)]] = arow (l ++ [p]) := by simp [arow]
theorem arow_len (l : List (Nat × List Node)) : (arow l).length = l.length := by simp [arow]
theorem crow_app (l m : List (List Int)) : crow l ++ crow m = crow (l ++ m) := by simp [crow]
def allC (t : List Node) (ps : List Part) (S : Enc) : Nat → List (List Int)
  | 0 => []
  | v + 1 => allC t ps S v ++ clA t ps S v
def atmS (t : List Node) (ps : List Part) (S : Enc) (n : Nat) : List (Nat × List Node) := (atmL t ps S n).map fun v => (v, subT t ps (S.fs.getD v 0))
theorem atmS_succ {t : List Node} {ps : List Part} {S : Enc} (v : Nat) : atmS t ps S (v + 1) = atmS t ps S v ++ if connB t ps (S.fs.getD v 0) = true then [] else [(v, subT t ps (S.fs.getD v 0))] := by
  unfold atmS
  rw [atmL_succ, List.map_append]
  unfold atmB
  cases connB t ps (S.fs.getD v 0) <;> rfl
theorem atmL_le {t : List Node} {ps : List Part} {S : Enc} (n : Nat) : (atmL t ps S n).length ≤ n := by
  unfold atmL
  have := List.length_filter_le (atmB t ps S) (List.range n)
  rwa [List.length_range] at this
section
variable {t : List Node} {ps : List Part} {rs : List Int}
theorem clA_le (hI : LkTree t 0 ps rs) (hs : Sm t) {S : Enc} (hG : EncG t ps S) {v : Nat} (hv : v < S.ky.length) : (clA t ps S v).length ≤ 201 := by
  have h := kd_le hI hs hG hv
  unfold clA
  split
  · unfold clV
    generalize (t.getD (S.fs.getD v 0) noNode).op = o
    generalize S.kd.getD v [] = l at *
    repeat' split
    all_goals simp [junc]
    all_goals omega
  · simp
theorem allC_le (hI : LkTree t 0 ps rs) (hs : Sm t) {S : Enc} (hG : EncG t ps S) : ∀ v, v ≤ S.ky.length → (allC t ps S v).length ≤ 201 * v
  | 0, _ => Nat.le_refl _
  | v + 1, h => by
    have h1 := allC_le hI hs hG v (by omega)
    have h2 := clA_le hI hs hG (v := v) (by omega)
    rw [allC, List.length_append]
    omega
end
def ofV (t : List Node) (ps : List Part) (R : Int × Enc) : PV := .agg [.int .i64 R.2.ky.length, .imm 1 (crow (allC t ps R.2 R.2.ky.length ++ [[R.1]])), .imm 2 (arow (atmS t ps R.2 R.2.ky.length))]
def ofP (t : List Node) : PV := match prepV t with
  | some ps => .tup [ofV t ps (encV t ps), .int .i64 0]
  | none => .tup [.agg [.int .i64 0, .imm 1 [], .imm 2 []], .int .i64 (if formV t = true then 6 else 1)]
set_option maxHeartbeats 8000000 in
theorem of_T {t : List Node} (hs : Sm t) : T (k + 207) 15 [.imm 5 (nrow t)] = some (ofP t, []) := by
  have hP := prep_T (k := k) hs
  have hl := hs.len
  unfold prepP at hP
  unfold ofP
  cases hpv : prepV t with
  | none =>
    rw [hpv] at hP
    simp only at hP ⊢
    cases hf : formV t
    all_goals (
      rw [hf] at hP
      simp only [Bool.false_eq_true, if_false, if_true] at hP ⊢
      refine enter rfl func15 rfl (by decide) (by kernel_rfl) rfl rfl ?_
      refine zs0 ?_
      refine zs3 hP ?_
      repeat (first | refine WX.step tab_eq rfl rfl trivial ?_ | refine WX.step tab_eq rfl rfl (by decide) ?_ | refine WX.nil ?_ | refine W.seq ?_ | refine W.region ?_ | refine W.regionD ?_ | refine W.block ?_ | refine W.skip ?_ | refine W.exit ?_ | refine W.ret ?_ | refine W.condT rfl ?_ | refine W.condF rfl ?_ | refine WX.skip rfl ?_))
    all_goals (show some _ = some _; rfl)
  | some ps =>
    rw [hpv] at hP
    simp only at hP ⊢
    obtain ⟨rs, h1, h2, h3⟩ := prep_some hpv
    have hI := look_tree h1
    have hG := enc_g hI hs h3
    unfold ofV
    generalize encV t ps = R at *
    obtain ⟨root, S⟩ := R
    simp only at *
    have l1 := hG.inv.l1
    have l2 := hG.inv.l2
    have hle := hG.le
    have hcl := fun v hv => clauses_T (k := k + 204) hI hs h2 (root := root) hG (v := v) hv
    have hst := fun i hi => tsub_T (k := k + 204) hI hs (i := i) hi h2
    unfold encI at *
    unfold treeP at *
    refine enter rfl func15 rfl (by decide) (by kernel_rfl) rfl rfl ?_
    refine zs1 hP ?_
    rw [frow_len, l1]
    refine W.loop (fun e q => ∃ (v : Nat), e = [(6, .box (0, 0) [.int .i64 S.ky.length, .own (0, 0) 1 (crow (allC t ps S v)), .own (0, 0) 2 (arow (atmS t ps S v))]), (4, .iptr [.iptr [.imm 5 (nrow t), .imm 1 (zrow (finL ps)), .imm 1 (zrow (srtL ps))] 0, .imap (false, S.ky) (numR 0 S.ky.length), .imm 1 (frow S.fs), .imm 1 (crow S.kd), .int .i64 root, .bool false] 0), (2, .box (0, 0) [.int .i64 0, .own (0, 0) 1 [], .own (0, 0) 2 []]), (7, .int .i64 ((v : Int) + 1)), (12, .iptr [.iptr [.imm 5 (nrow t), .imm 1 (zrow (finL ps)), .imm 1 (zrow (srtL ps))] 0, .imap (false, S.ky) (numR 0 S.ky.length), .imm 1 (frow S.fs), .imm 1 (crow S.kd), .int .i64 root, .bool false] 0)] ∧ v ≤ S.ky.length ∧ q = S.ky.length - v) S.ky.length ?_ ?_ ?_
    · exact ⟨0, rfl, by omega, by omega⟩
    · show _ < 4611686018427387904; omega
    · rintro e q ⟨v, rfl, hv, rfl⟩
      have hcle := allC_le hI hs hG v hv
      refine zs0 ?_
      refine W.cond rfl (fun hlt => ?_) (fun hlt => ?_)
      · have hlt : v < S.ky.length := by have := of_decide_eq_true hlt; omega
        have hcl := hcl v hlt
        have hca := clA_le hI hs hG hlt
        obtain ⟨a1, a2, a3⟩ := hG.inv.at' v hlt
        have hst := hst _ a1
        obtain ⟨m, hn⟩ := hI.nodes _ (Nat.zero_le _) a1
        have hcon := conn_T (k := k + 205) hn a1 (by omega) h2
        have hfg := frow_get (l := S.fs) (i := v) (by omega)
        have hms := atmS_succ (t := t) (ps := ps) (S := S) v
        have hmc : allC t ps S (v + 1) = allC t ps S v ++ clA t ps S v := rfl
        have haml : (atmS t ps S v).length ≤ v := by unfold atmS; rw [List.length_map]; exact atmL_le v
        have hms2 := arow_snoc (atmS t ps S v) (v, subT t ps (S.fs.getD v 0))
        unfold treeP at hcon
        refine zd8 ?_
        refine zd4 hcl ?_
        refine WX.stepD tab_eq rfl rfl (by simp [crow_len] <;> omega) ?_
        refine zd7 ?_
        rw [wrap_i64 (x := (v : Int) + 1 - 1) (by omega) (by omega), show (v : Int) + 1 - 1 = v by omega]
        refine WX.idxImm tab_eq rfl rfl rfl rfl rfl rfl (by omega) (hfg) ?_
        refine zs1 hcon ?_
        rw [List.take_length, crow_app, ← hmc]
        cases hcb : connB t ps (S.fs.getD v 0) with
        | true =>
          rw [hcb, if_pos rfl, List.append_nil] at hms
          refine W.condF rfl ?_
          refine zs0 ?_
          rw [wrap_i64 (x := (v : Int) + 1 + 1) (by omega) (by omega)]
          show ∃ m', _
          refine ⟨S.ky.length - (v + 1), by omega, v + 1, ?_, by omega, rfl⟩
          rw [hms]
          rfl
        | false =>
          rw [hcb, if_neg (by decide)] at hms
          refine W.condT rfl ?_
          refine zd8 ?_
          refine zd4 hst ?_
          refine WX.stepD tab_eq rfl rfl (by simp [arow_len] <;> omega) ?_
          refine zd7 ?_
          rw [wrap_i64 (x := (v : Int) + 1 + 1) (by omega) (by omega)]
          show ∃ m', _
          refine ⟨S.ky.length - (v + 1), by omega, v + 1, ?_, by omega, rfl⟩
          rw [hms, List.take_length, ← hms2]
          rfl
      · have hlt : v = S.ky.length := by have := of_decide_eq_false hlt; omega
        subst hlt
        refine zd8 ?_
        refine WX.stepD tab_eq rfl rfl (by simp [crow_len] <;> omega) ?_
        refine zd7 ?_
        rw [List.take_length, show crow (allC t ps S S.ky.length) ++ [[PV.imm 1 [[PV.int .i64 root]]]] = crow (allC t ps S S.ky.length ++ [[root]]) from crow_snoc _ [root]]
        rfl
end Go.PE
namespace Go.PE
open Go.RowKit Go.Proofs.Tryz
set_option maxRecDepth 100000
variable {k : Nat}
/-! ### Extend -/
set_option maxHeartbeats 8000000 in
theorem ext_T {t : List Node} (hs : Sm t) {ps : List Part} (hpv : prepV t = some ps) {ar vs : List Bool} (ha : ar.length = (atmL t ps (encV t ps).2 (encV t ps).2.ky.length).length)
    (hX : Xc 37 [.iptr (encI t ps (encV t ps)) 0, .imm 1 (brow ar)] = some (.own (0, 0) 1 (brow vs), [])) : T (k + 207) 17 [.imm 5 (nrow t), .imm 1 (brow ar)] = some (.tup [.imm 1 (brow vs), .int .i64 0], []) := by
  have hP := prep_T (k := k) hs
  have hl := hs.len
  unfold prepP at hP
  rw [hpv] at hP
  simp only at hP
  obtain ⟨rs, h1, h2, h3⟩ := prep_some hpv
  have hI := look_tree h1
  have hG := enc_g hI hs h3
  have hX := byX (k := k + 206) hX
  generalize encV t ps = R at *
  obtain ⟨root, S⟩ := R
  simp only at *
  have l1 := hG.inv.l1
  have l2 := hG.inv.l2
  have hle := hG.le
  unfold encI at *
  unfold treeP at *
  refine enter rfl func17 rfl (by decide) (by kernel_rfl) rfl rfl ?_
  refine zs1 hP ?_
  rw [frow_len, l1]
  refine W.loop (fun e q => ∃ (v : Nat), e = [(6, .iptr [.iptr [.imm 5 (nrow t), .imm 1 (zrow (finL ps)), .imm 1 (zrow (srtL ps))] 0, .imap (false, S.ky) (numR 0 S.ky.length), .imm 1 (frow S.fs), .imm 1 (crow S.kd), .int .i64 root, .bool false] 0), (22, .imm 1 (frow S.fs)), (1, .imm 1 (brow ar)), (23, .int .i64 S.ky.length), (24, .int .i64 v), (8, .int .i64 (atmL t ps S v).length), (14, .iptr [.iptr [.imm 5 (nrow t), .imm 1 (zrow (finL ps)), .imm 1 (zrow (srtL ps))] 0, .imap (false, S.ky) (numR 0 S.ky.length), .imm 1 (frow S.fs), .imm 1 (crow S.kd), .int .i64 root, .bool false] 0), (21, .iptr [.iptr [.imm 5 (nrow t), .imm 1 (zrow (finL ps)), .imm 1 (zrow (srtL ps))] 0, .imap (false, S.ky) (numR 0 S.ky.length), .imm 1 (frow S.fs), .imm 1 (crow S.kd), .int .i64 root, .bool false] 2), (20, .iptr [.iptr [.imm 5 (nrow t), .imm 1 (zrow (finL ps)), .imm 1 (zrow (srtL ps))] 0, .imap (false, S.ky) (numR 0 S.ky.length), .imm 1 (frow S.fs), .imm 1 (crow S.kd), .int .i64 root, .bool false] 0), (19, .iptr [.iptr [.imm 5 (nrow t), .imm 1 (zrow (finL ps)), .imm 1 (zrow (srtL ps))] 0, .imap (false, S.ky) (numR 0 S.ky.length), .imm 1 (frow S.fs), .imm 1 (crow S.kd), .int .i64 root, .bool false] 0)] ∧ v ≤ S.ky.length ∧ q = S.ky.length - v) S.ky.length ?_ ?_ ?_
  · exact ⟨0, rfl, by omega, by omega⟩
  · show _ < 4611686018427387904; omega
  · rintro e q ⟨v, rfl, hv, rfl⟩
    refine zs0 ?_
    refine W.cond rfl (fun hlt => ?_) (fun hlt => ?_)
    · have hlt := of_decide_eq_true hlt
      obtain ⟨a1, a2, a3⟩ := hG.inv.at' v (by omega)
      obtain ⟨m, hn⟩ := hI.nodes _ (Nat.zero_le _) a1
      have hcon := conn_T (k := k + 205) hn a1 (by omega) h2
      have hfg := frow_get (l := S.fs) (i := v) (by omega)
      have hms := atmL_succ (t := t) (ps := ps) (S := S) v
      have hml := atmL_le (t := t) (ps := ps) (S := S) v
      unfold atmB at hms
      unfold treeP at hcon
      refine zs0 ?_
      refine WX.idxImm tab_eq rfl rfl rfl rfl rfl rfl (by omega) (hfg) ?_
      refine zs1 hcon ?_
      cases hcb : connB t ps (S.fs.getD v 0) with
      | true =>
        rw [hcb, if_neg (by decide), List.append_nil] at hms
        refine W.condF rfl ?_
        refine zs0 ?_
        rw [wrap_i64 (x := (v : Int) + 1) (by omega) (by omega)]
        show ∃ m', _
        exact ⟨S.ky.length - (v + 1), by omega, v + 1, by rw [hms]; rfl, by omega, rfl⟩
      | false =>
        rw [hcb, if_pos (by decide)] at hms
        refine W.condT rfl ?_
        refine zs0 ?_
        rw [wrap_i64 (x := ((atmL t ps S v).length : Int) + 1) (by omega) (by omega), wrap_i64 (x := (v : Int) + 1) (by omega) (by omega)]
        show ∃ m', _
        exact ⟨S.ky.length - (v + 1), by omega, v + 1, by rw [hms, List.length_append, List.length_singleton]; rfl, by omega, rfl⟩
    · have hlt := of_decide_eq_false hlt
      have : v = S.ky.length := by omega
      subst this
      refine zs0 ?_
      rw [brow_len, ha]
      refine W.cond rfl (fun c => absurd rfl (of_decide_eq_true c)) (fun _ => ?_)
      refine zs1 hX ?_
      rfl
end Go.PE
namespace Go.PE
open Go.RowKit Go.Proofs.Tryz
set_option maxRecDepth 100000
variable {k : Nat}
/-! ### The program's answer -/
theorem bad_lit {n : Nat} {y : Int} (h : y = 0 ∨ (n : Int) < y ∨ y < -(n : Int)) : okLit n y = false := by
  unfold okLit
  rcases h with h | h | h
  · rw [decide_eq_true h]; rfl
  · rw [decide_eq_true h]; simp
  · rw [decide_eq_true h]; simp
theorem good_lit {n : Nat} {y : Int} (h : y ≠ 0) (h1 : y ≤ n) (h2 : -(n : Int) ≤ y) : okLit n y = true := by
  unfold okLit
  rw [decide_eq_false h, decide_eq_false (show ¬ (n : Int) < y by omega), decide_eq_false (show ¬ y < -(n : Int) by omega)]; rfl
theorem max_neg {y : Int} (h0 : -9223372036854775808 ≤ y) (h1 : y ≤ 9223372036854775807) : (y = -9223372036854775808 ∧ max y (IntKind.i64.wrap (0 - y)) < 0) ∨ (-9223372036854775808 < y ∧ max y (IntKind.i64.wrap (0 - y)) = y.natAbs) := by
  by_cases h : y = -9223372036854775808
  · subst h
    exact .inl ⟨rfl, by decide⟩
  · rw [wrap_i64 (x := 0 - y) (by omega) (by omega)]
    exact .inr ⟨by omega, by omega⟩
def holdsB (n : Int) (cs : List (List Int)) (vs : List Bool) : Bool := decide (vs.length = n) && (List.range cs.length).all fun i => litsB n (cs.getD i []) && someT vs (cs.getD i [])
theorem holds_T (n : Int) (cs : List (List Int)) (vs : List Bool) (hv : vs.length ≤ 1000) (hc : cs.length ≤ 100000) (hl : ∀ l ∈ cs, l.length ≤ 1000 ∧ ∀ x ∈ l, fitI x) :
    T (k + 1) 9 [.agg [.int .i64 n, .imm 1 (crow cs), .imm 2 []], .imm 1 (brow vs)] = some (.bool (holdsB n cs vs), []) := by
  refine enter rfl func9 rfl (by decide) (by kernel_rfl) rfl rfl ?_
  refine zs0 ?_
  rw [brow_len]
  refine W.cond rfl (fun b0 => ?_) (fun b0 => ?_)
  · have b0 := of_decide_eq_true b0
    refine zs0 ?_
    (refine (congrArg (fun b => some (PV.bool b, [])) ?_ : some (PV.bool _, []) = some (PV.bool _, [])); exact (by rw [holdsB, decide_eq_false (show ¬ (vs.length : Int) = n by omega)]; rfl))
  · have b0 : (vs.length : Int) = n := by have := of_decide_eq_false b0; omega
    subst b0
    refine zs0 ?_
    rw [crow_len]
    refine W.loop (fun e m => ∃ (i : Nat), e = [(1, .imm 1 (brow vs)), (2, .box (0, 0) [.int .i64 vs.length, .imm 1 (crow cs), .imm 2 []]), (17, .imm 1 (crow cs)), (18, .int .i64 cs.length), (19, .int .i64 i), (16, .loc 2 (0, 0) 1)] ∧ i ≤ cs.length ∧
      (List.range i).all (fun i => litsB vs.length (cs.getD i []) && someT vs (cs.getD i [])) = true ∧ m = cs.length - i) cs.length ?_ ?_ ?_
    · exact ⟨0, rfl, by omega, rfl, by omega⟩
    · show _ < 4611686018427387904; omega
    · rintro e m ⟨i, rfl, hi, hd, rfl⟩
      refine zs0 ?_
      refine W.cond rfl (fun hlt => ?_) (fun hlt => ?_)
      · have hlt := of_decide_eq_true hlt
        have hg := crow_get (l := cs) (i := i) (by omega)
        have hgo := @range_step i (fun i => litsB vs.length (cs.getD i []) && someT vs (cs.getD i [])) hd
        have hno := @range_stop cs.length i (fun i => litsB vs.length (cs.getD i []) && someT vs (cs.getD i [])) (by omega)
        obtain ⟨hx1, hx2⟩ := hl (cs.getD i []) (mem_getD _ (by omega))
        generalize hx : cs.getD i [] = x at *
        refine zs0 ?_
        refine WX.idxImm tab_eq rfl rfl rfl rfl rfl rfl (by omega) (hg) ?_
        refine zs0 ?_
        rw [zrow_len]
        refine W.loop (fun e m => ∃ (j : Nat), e = [(1, .imm 1 (brow vs)), (2, .box (0, 0) [.int .i64 vs.length, .imm 1 (crow cs), .imm 2 []]), (23, .imm 1 (zrow x)), (17, .imm 1 (crow cs)), (18, .int .i64 cs.length), (19, .int .i64 i),
          (24, .int .i64 x.length), (25, .int .i64 j), (7, .bool (!(List.range j).all fun j => !litT vs (x.getD j 0))), (6, .imm 1 (zrow x)), (16, .loc 2 (0, 0) 1), (22, .imm 1 (zrow x)), (21, .iptr [.imm 1 (zrow x)] 0)] ∧ j ≤ x.length ∧
          (List.range j).all (fun j => okLit vs.length (x.getD j 0)) = true ∧ m = x.length - j) x.length ?_ ?_ ?_
        · exact ⟨0, rfl, by omega, rfl, by omega⟩
        · show _ < 4611686018427387904; omega
        · rintro e m ⟨j, rfl, hj, hdj, rfl⟩
          refine zs0 ?_
          refine W.cond rfl (fun hlj => ?_) (fun hlj => ?_)
          · have hlj := of_decide_eq_true hlj
            have hgj := zrow_get (l := x) (i := j) (by omega)
            have hgoj := @range_step j (fun j => okLit vs.length (x.getD j 0)) hdj
            have hnoj := @range_stop x.length j (fun j => okLit vs.length (x.getD j 0)) (by omega)
            have hfit := hx2 (x.getD j 0) (mem_getD _ (by omega))
            unfold fitI at hfit
            have hall : (List.range (j + 1)).all (fun j => !litT vs (x.getD j 0)) = ((List.range j).all (fun j => !litT vs (x.getD j 0)) && !litT vs (x.getD j 0)) := by
              rw [List.range_succ, List.all_append, List.all_cons, List.all_nil, Bool.and_true]
            generalize hy : x.getD j 0 = y at *
            generalize (List.range j).all (fun j => !litT vs (x.getD j 0)) = g at *
            refine zs0 ?_
            refine WX.idxImm tab_eq rfl rfl rfl rfl rfl rfl (by omega) (hgj) ?_
            refine zs0 ?_
            have hmx := max_neg hfit.1 hfit.2
            generalize max y (IntKind.i64.wrap (0 - y)) = mx at *
            refine WX.boolM rfl rfl (fun b1 => ?_) (fun b1 => ?_)
            · have b1 := of_decide_eq_true b1
              refine zs0 ?_
              (refine (congrArg (fun b => some (PV.bool b, [])) ?_ : some (PV.bool _, []) = some (PV.bool _, [])); exact (by rw [holdsB, hno (by rw [litsB, hnoj (by rw [okLit, decide_eq_true b1]; rfl)]; rfl), Bool.and_false]))
            · have b1 := of_decide_eq_false b1
              refine zs0 ?_
              refine WX.boolM rfl rfl (fun b2 => ?_) (fun b2 => ?_)
              · have b2 := of_decide_eq_true b2
                refine zs0 ?_
                (refine (congrArg (fun b => some (PV.bool b, [])) ?_ : some (PV.bool _, []) = some (PV.bool _, [])); exact (by rw [holdsB, hno (by rw [litsB, hnoj (bad_lit (by omega))]; rfl), Bool.and_false]))
              · have b2 := of_decide_eq_false b2
                refine zs0 ?_
                refine W.cond rfl (fun b3 => ?_) (fun b3 => ?_)
                · have b3 := of_decide_eq_true b3
                  refine zs0 ?_
                  (refine (congrArg (fun b => some (PV.bool b, [])) ?_ : some (PV.bool _, []) = some (PV.bool _, [])); exact (by rw [holdsB, hno (by rw [litsB, hnoj (bad_lit (by omega))]; rfl), Bool.and_false]))
                · have b3 := of_decide_eq_false b3
                  have hmx2 : mx = y.natAbs := by omega
                  subst hmx2
                  have hb := brow_get (l := vs) (i := y.natAbs - 1) (by omega)
                  have hlt0 : litT vs y = (vs.getD (y.natAbs - 1) false == decide (0 < y)) := rfl
                  generalize vs.getD (y.natAbs - 1) false = z at *
                  refine zs0 ?_
                  refine WX.boolM rfl rfl (fun b4 => ?_) (fun b4 => ?_)
                  · have b4 := not_true b4
                    subst b4
                    refine zs0 ?_
                    rw [wrap_i64 (x := (j : Int) + 1) (by omega) (by omega)]
                    show ∃ m', _
                    exact ⟨x.length - (j + 1), by omega, j + 1, by rw [hall]; rfl, by omega, hgoj (good_lit b1 (by omega) (by omega)), rfl⟩
                  · have b4 := not_false b4
                    subst b4
                    refine zs0 ?_
                    rw [wrap_i64 (x := (y.natAbs : Int) - 1) (by omega) (by omega)]
                    refine WX.idxImm tab_eq rfl rfl rfl rfl rfl rfl (by omega) (by rw [show ((y.natAbs : Int) - 1).toNat = y.natAbs - 1 by omega]; exact hb) ?_
                    refine zs0 ?_
                    rw [wrap_i64 (x := (j : Int) + 1) (by omega) (by omega)]
                    have hz : (!(true && !litT vs y)) = (z == decide (0 < y)) := by rw [hlt0]; simp
                    show ∃ m', _
                    exact ⟨x.length - (j + 1), by omega, j + 1, by rw [hall, hz]; rfl, by omega, hgoj (good_lit b1 (by omega) (by omega)), rfl⟩
          · have hlj := of_decide_eq_false hlj
            have : j = x.length := by omega
            subst this
            refine zs0 ?_
            have hs : someT vs x = !(List.range x.length).all fun j => !litT vs (x.getD j 0) := rfl
            refine WX.boolM rfl rfl (fun b5 => ?_) (fun b5 => ?_)
            · have b5 := not_true b5
              refine zs0 ?_
              rw [wrap_i64 (x := (i : Int) + 1) (by omega) (by omega)]
              show ∃ m', _
              exact ⟨cs.length - (i + 1), by omega, i + 1, rfl, by omega, hgo (by rw [hs, b5, litsB, hdj]; rfl), rfl⟩
            · have b5 := not_false b5
              refine zs0 ?_
              (refine (congrArg (fun b => some (PV.bool b, [])) ?_ : some (PV.bool _, []) = some (PV.bool _, [])); exact (by rw [holdsB, hno (by rw [hs, b5]; simp), Bool.and_false]))
      · have hlt := of_decide_eq_false hlt
        have : i = cs.length := by omega
        subst this
        refine zs0 ?_
        (refine (congrArg (fun b => some (PV.bool b, [])) ?_ : some (PV.bool _, []) = some (PV.bool _, [])); exact (by rw [holdsB, hd, decide_eq_true rfl]; rfl))
/-! ### What the laws ask first; lists of booleans -/
def okN (n : Node) : Bool := !decide (60 < n.name.length) && !decide (60 < n.num.length)
def bigT (t : List Node) (m : Nat) : Bool := decide (m < t.length) || !(List.range t.length).all fun i => okN (t.getD i noNode)
theorem largeT_T (t : List Node) (m : Nat) (hm : m ≤ 1000) (hl : t.length ≤ 4611686018427380000) : T (k + 1) 12 [.imm 5 (nrow t), .int .i64 m] = some (.bool (bigT t m), []) := by
  refine enter rfl func12 rfl (by decide) (by kernel_rfl) rfl rfl ?_
  refine zs0 ?_
  rw [nrow_len]
  refine W.cond rfl (fun c0 => ?_) (fun c0 => ?_)
  · have c0 := of_decide_eq_true c0
    refine zs0 ?_
    (refine (congrArg (fun b => some (PV.bool b, [])) ?_ : some (PV.bool _, []) = some (PV.bool _, [])); exact (by rw [bigT, decide_eq_true (show m < t.length by omega)]; rfl))
  · have c0 := of_decide_eq_false c0
    refine zs0 ?_
    refine W.loop (fun e q => ∃ (i : Nat), e = [(0, .imm 5 (nrow t)), (5, .int .i64 i)] ∧ i ≤ t.length ∧ (List.range i).all (fun i => okN (t.getD i noNode)) = true ∧ q = t.length - i) t.length ?_ ?_ ?_
    · exact ⟨0, rfl, by omega, rfl, by omega⟩
    · show _ < 4611686018427387904; omega
    · rintro e q ⟨i, rfl, hi, hd, rfl⟩
      refine zs0 ?_
      rw [nrow_len]
      refine W.cond rfl (fun hlt => ?_) (fun hlt => ?_)
      · have hlt := of_decide_eq_true hlt
        have hg := nrow_get (t := t) (i := i) (by omega)
        have hgo := @range_step i (fun i => okN (t.getD i noNode)) hd
        have hno := @range_stop t.length i (fun i => okN (t.getD i noNode)) (by omega)
        generalize t.getD i noNode = n at *
        obtain ⟨op, srt, kids, nm, num⟩ := n
        have hg : (nrow t)[i]? = some [.int .i64 op, .int .i64 srt, .str nm, .str num, .int .i64 kids] := hg
        have ho : okN ⟨op, srt, kids, nm, num⟩ = (!decide (60 < nm.length) && !decide (60 < num.length)) := rfl
        refine zs0 ?_
        refine WX.idxImm tab_eq rfl rfl rfl rfl rfl rfl (by omega) (hg) ?_
        refine zs0 ?_
        refine WX.boolM rfl rfl (fun b1 => ?_) (fun b1 => ?_)
        · have b1 := of_decide_eq_true b1
          refine zs0 ?_
          (refine (congrArg (fun b => some (PV.bool b, [])) ?_ : some (PV.bool _, []) = some (PV.bool _, [])); exact (by rw [bigT, hno (by rw [ho, decide_eq_true (show 60 < nm.length by omega)]; rfl)]; simp))
        · have b1 := of_decide_eq_false b1
          refine zs0 ?_
          refine WX.idxImm tab_eq rfl rfl rfl rfl rfl rfl (by omega) (hg) ?_
          refine zs0 ?_
          refine W.cond rfl (fun b2 => ?_) (fun b2 => ?_)
          · have b2 := of_decide_eq_true b2
            refine zs0 ?_
            (refine (congrArg (fun b => some (PV.bool b, [])) ?_ : some (PV.bool _, []) = some (PV.bool _, [])); exact (by rw [bigT, hno (by rw [ho, decide_eq_true (show 60 < num.length by omega)]; simp)]; simp))
          · have b2 := of_decide_eq_false b2
            refine zs0 ?_
            rw [wrap_i64 (x := (i : Int) + 1) (by omega) (by omega)]
            show ∃ m', _
            exact ⟨t.length - (i + 1), by omega, i + 1, rfl, by omega, hgo (by rw [ho, decide_eq_false (show ¬ 60 < nm.length by omega), decide_eq_false (show ¬ 60 < num.length by omega)]; rfl), rfl⟩
      · have hlt := of_decide_eq_false hlt
        have : i = t.length := by omega
        subst this
        refine zs0 ?_
        (refine (congrArg (fun b => some (PV.bool b, [])) ?_ : some (PV.bool _, []) = some (PV.bool _, [])); exact (by rw [bigT, hd, decide_eq_false (show ¬ m < t.length by omega)]; rfl))
theorem not_big {t : List Node} {m : Nat} (h : bigT t m = false) : t.length ≤ m ∧ ∀ n ∈ t, n.name.length ≤ 60 ∧ n.num.length ≤ 60 := by
  unfold bigT at h
  rw [Bool.or_eq_false_iff] at h
  have h1 := of_decide_eq_false h.1
  refine ⟨by omega, fun n hn => ?_⟩
  obtain ⟨i, hi⟩ := List.getElem?_of_mem hn
  have hlt := (List.getElem?_eq_some_iff.1 hi).1
  have := List.all_eq_true.1 (by have := h.2; simpa using this : (List.range t.length).all (fun i => okN (t.getD i noNode)) = true) i (List.mem_range.2 hlt)
  simp only [List.getD, hi, Option.getD_some, okN, Bool.and_eq_true, Bool.not_eq_true', decide_eq_false_iff_not] at this
  omega
theorem bools_T (a : List Bool) (ha : a.length ≤ 1000) : T (k + 1) 18 [.imm 1 (brow a), .imm 1 (brow a)] = some (.bool true, []) := by
  refine enter rfl func18 rfl (by decide) (by kernel_rfl) rfl rfl ?_
  refine zs0 ?_
  rw [brow_len]
  refine W.cond rfl (fun c => absurd rfl (of_decide_eq_true c)) (fun _ => ?_)
  refine zs0 ?_
  refine W.loop (fun e q => ∃ (i : Nat), e = [(1, .imm 1 (brow a)), (0, .imm 1 (brow a)), (5, .int .i64 i)] ∧ i ≤ a.length ∧ q = a.length - i) a.length ?_ ?_ ?_
  · exact ⟨0, rfl, by omega, by omega⟩
  · show _ < 4611686018427387904; omega
  · rintro e q ⟨i, rfl, hi, rfl⟩
    refine zs0 ?_
    rw [brow_len]
    refine W.cond rfl (fun hlt => ?_) (fun hlt => ?_)
    · have hlt := of_decide_eq_true hlt
      have hg := brow_get (l := a) (i := i) (by omega)
      generalize a.getD i false = b at *
      refine zd8 ?_
      refine WX.idxImmD tab_eq rfl rfl rfl rfl rfl rfl (by omega) (hg) ?_
      refine zd0 ?_
      refine WX.idxImmD tab_eq rfl rfl rfl rfl rfl rfl (by omega) (hg) ?_
      cases b
      all_goals repeat (first | refine WX.stepD tab_eq rfl rfl trivial ?_ | refine WX.stepD tab_eq rfl rfl (by decide) ?_ | refine WX.skipD rfl ?_)
      all_goals refine WX.nilD (by kernel_rfl) ?_
      all_goals repeat (first | refine WX.step tab_eq rfl rfl trivial ?_ | refine WX.step tab_eq rfl rfl (by decide) ?_ | refine WX.nil ?_ | refine W.seq ?_ | refine W.region ?_ | refine W.regionD ?_ | refine W.block ?_ | refine W.skip ?_ | refine W.exit ?_ | refine W.ret ?_ | refine W.condT rfl ?_ | refine W.condF rfl ?_ | refine WX.skip rfl ?_)
      all_goals rw [wrap_i64 (x := (i : Int) + 1) (by omega) (by omega)]
      all_goals show ∃ m', _
      all_goals exact ⟨a.length - (i + 1), by omega, i + 1, rfl, by omega, rfl⟩
    · have hlt := of_decide_eq_false hlt
      have : i = a.length := by omega
      subst this
      refine zs0 ?_
      rfl
end Go.PE
namespace Go.PE
open Go.RowKit Go.Proofs.Tryz
set_option maxRecDepth 100000
variable {k : Nat}
/-! ### Values that satisfy all clauses but the last are those of extend -/
theorem some_any {vs : List Bool} {l : List Int} (h : someT vs l = true) : l.any (litT vs) = true := by
  unfold someT at h
  rw [Bool.not_eq_true'] at h
  rw [List.any_eq_true]
  by_cases hx : ∃ i, i < l.length ∧ litT vs (l.getD i 0) = true
  · obtain ⟨i, h1, h2⟩ := hx
    exact ⟨_, mem_getD _ h1, h2⟩
  · exfalso
    have : (List.range l.length).all (fun i => !litT vs (l.getD i 0)) = true := by
      rw [List.all_eq_true]
      intro i hi
      cases hv : litT vs (l.getD i 0) with
      | true => exact absurd ⟨i, List.mem_range.1 hi, hv⟩ hx
      | false => rfl
    rw [this] at h
    cases h
theorem holds_any {n : Int} {cs : List (List Int)} {vs : List Bool} (h : holdsB n cs vs = true) : ∀ c ∈ cs, c.any (litT vs) = true := fun c hc => by
  unfold holdsB at h
  rw [Bool.and_eq_true, List.all_eq_true] at h
  obtain ⟨i, hi⟩ := List.getElem?_of_mem hc
  have hlt := (List.getElem?_eq_some_iff.1 hi).1
  have := h.2 i (List.mem_range.2 hlt)
  rw [Bool.and_eq_true] at this
  have h2 := some_any this.2
  simpa [List.getD, hi] using h2
section
variable {t : List Node} {ps : List Part} {rs : List Int} {S : Enc}
theorem clA_mem : ∀ {n v : Nat}, v < n → ∀ c ∈ clA t ps S v, c ∈ allC t ps S n
  | 0, v, h, _, _ => by omega
  | n + 1, v, h, c, hc => by
    rw [allC]
    by_cases e : v = n
    · subst e
      exact List.mem_append_right _ hc
    · exact List.mem_append_left _ (clA_mem (show v < n by omega) c hc)
theorem key_le (hI : LkTree t 0 ps rs) (hs : Sm t) (i : Nat) : (keyS t ps i).length ≤ 28000 := by
  have hm : ∀ n ∈ subT t ps i, NodeS n := fun n hn => hI.nodeS hs n (List.mem_of_mem_take (List.mem_of_mem_drop hn))
  have h1 := keys_le hm
  have h2 : (subT t ps i).length ≤ t.length := by unfold subT; simp; omega
  have h3 := hs.len
  have e : (subT t ps i).flatMap nkey = keyS t ps i := rfl
  rw [e] at h1
  omega
def atmV (t : List Node) (ps : List Part) (S : Enc) (vs : List Bool) (n : Nat) : List Bool := (atmL t ps S n).map fun v => vs.getD v false
theorem uniq (hI : LkTree t 0 ps rs) (hs : Sm t) (hp : ps.length = t.length) (hG : EncG t ps S) {root : Int} {vs : List Bool} (hv : vs.length = S.ky.length) (hh : holdsB S.ky.length (allC t ps S S.ky.length) vs = true) :
    Xc 37 [.iptr (encI t ps (root, S)) 0, .imm 1 (brow (atmV t ps S vs S.ky.length))] = some (.own (0, 0) 1 (brow vs), []) := by
  have hval := vv_val (vs := vs) hI (by have := hs.len; omega) hp hG.inv hG.full (fun v hv' hc c hcm => holds_any hh c (clA_mem hv' c (by unfold clA; rw [if_pos hc]; exact hcm))) 1000000
  have hall := allN_of (f := vv (nrow t) (zrow (srtL ps)) (frow S.fs) (crow S.kd) (brow (atmV t ps S vs S.ky.length)) 1000000) (vs := vs) S.ky.length (by omega) fun v hv' => hval v (by rw [(hG.inv.at' v hv').2.1]; have := key_le hI hs (S.fs.getD v 0); omega) hv'
  have hle := hG.le
  have l1 := hG.inv.l1
  show extendF [.iptr (encI t ps (root, S)) 0, .imm 1 (brow (atmV t ps S vs S.ky.length))] = _
  unfold extendF encI treeP
  have hpos := hG.pos
  show (if 0 < (frow S.fs).length ∧ (frow S.fs).length ≤ 1000000 ∧ (nrow t).length ≤ 1000000 then (match allN (vv (nrow t) (zrow (srtL ps)) (frow S.fs) (crow S.kd) (brow (atmV t ps S vs S.ky.length)) 1000000) (frow S.fs).length with | some bs => some (PV.own (0, 0) 1 (brow bs), ([] : List (List PV))) | none => none) else none) = _
  have hln := hs.len
  rw [frow_len, l1, nrow_len, if_pos ⟨hpos, by omega, by omega⟩, hall, ← hv, List.take_length]
end
end Go.PE
namespace Go.PE
open Go.RowKit Go.Proofs.Tryz
set_option maxRecDepth 100000
/-! ### The law CnfUnique -/
theorem zsub (l : List (List Int)) (c : List Int) {n : Nat} (h : n = (l ++ [c]).length) : List.take ((n : Int) - 1).toNat (crow (l ++ [c])) = crow l := by
  subst h
  rw [show (((l ++ [c]).length : Int) - 1).toNat = l.length by rw [List.length_append, List.length_singleton]; omega]
  simp [crow]
theorem lit_fit {t : List Node} {ps : List Part} {rs : List Int} {S : Enc} (hI : LkTree t 0 ps rs) (hs : Sm t) (hG : EncG t ps S) : ∀ n, n ≤ S.ky.length → ∀ c ∈ allC t ps S n, c.length ≤ 1000 ∧ ∀ x ∈ c, fitI x
  | 0, _, c, hc => by cases hc
  | n + 1, hn, c, hc => by
    rw [allC] at hc
    rcases List.mem_append.1 hc with hc | hc
    · exact lit_fit hI hs hG n (by omega) c hc
    · have hle := hG.le
      have hkl := kd_le hI hs hG (v := n) (by omega)
      have hkd := kd_lit hG (v := n) (by omega)
      unfold clA at hc
      split at hc
      · rename_i h0
        obtain ⟨hk1, hk2⟩ := hkd h0
        generalize S.kd.getD n [] = l at *
        have hg : ∀ i, (l.getD i 0).natAbs ≤ 200 := fun i => by
          by_cases hi : i < l.length
          · exact (hk2 _ (mem_getD 0 hi)).2
          · rw [show l.getD i 0 = 0 by simp [List.getD, List.getElem?_eq_none (show l.length ≤ i by omega)]]; decide
        have g0 := hg 0
        have g1 := hg 1
        have g2 := hg 2
        have hj : ∀ (y s : Int), y.natAbs ≤ 1000 → (s = 1 ∨ s = -1) → ∀ c ∈ junc y s l, c.length ≤ 1000 ∧ ∀ x ∈ c, fitI x := fun y s hy hs' c hc => by
          unfold junc at hc
          rcases List.mem_append.1 hc with hc | hc
          · obtain ⟨k, hk, rfl⟩ := List.mem_map.1 hc
            have := (hk2 k hk).2
            refine ⟨by simp, fun x hx => ?_⟩
            unfold fitI
            rcases List.mem_cons.1 hx with rfl | hx
            · omega
            · obtain rfl := List.mem_singleton.1 hx
              rcases hs' with rfl | rfl <;> omega
          · obtain rfl := List.mem_singleton.1 hc
            refine ⟨by simp; omega, fun x hx => ?_⟩
            unfold fitI
            rcases List.mem_cons.1 hx with rfl | hx
            · omega
            · obtain ⟨k, hk, rfl⟩ := List.mem_map.1 hx
              have := (hk2 k hk).2
              rcases hs' with rfl | rfl <;> omega
        unfold clV at hc
        generalize l.getD 0 0 = a at *
        generalize l.getD 1 0 = b at *
        generalize l.getD 2 0 = d at *
        have hc3 : ∀ cs : List (List Int), c ∈ cs → (∀ c ∈ cs, c.length ≤ 3 ∧ ∀ x ∈ c, x.natAbs ≤ 1000) → c.length ≤ 1000 ∧ ∀ x ∈ c, fitI x := fun cs h1 h2 => by
          obtain ⟨h3, h4⟩ := h2 c h1
          refine ⟨by omega, fun x hx => ?_⟩
          have := h4 x hx
          unfold fitI
          omega
        repeat' split at hc
        · refine hc3 _ hc ?_; simp; omega
        · refine hc3 _ hc ?_; simp; omega
        · exact hj _ _ (by omega) (.inl rfl) c hc
        · exact hj _ _ (by omega) (.inr rfl) c hc
        · refine hc3 _ hc ?_; simp; omega
        · refine hc3 _ hc ?_; simp; omega
        · refine hc3 _ hc ?_; simp; omega
      · cases hc
theorem arow_get {l : List (Nat × List Node)} {i : Nat} (h : i < l.length) : (arow l)[i]? = some [.int .i64 (((l.getD i (0, [])).1 : Int) + 1), .imm 5 (nrow (l.getD i (0, [])).2)] := by
  unfold arow
  rw [List.getElem?_map, List.getElem?_eq_getElem h]
  simp [List.getD, List.getElem?_eq_getElem h]
theorem brow_snoc (l : List Bool) (b : Bool) : brow l ++ [[.bool b]] = brow (l ++ [b]) := by simp [brow]
set_option maxHeartbeats 16000000 in
theorem law5_T (t : List Node) (vs : List Bool) (ht : t.length ≤ 4611686018427380000) (hvl : vs.length ≤ 4611686018427380000) (aw : T 220 8 [] = some (.bool true, [])) :
    T 221 5 [.imm 5 (nrow t), .imm 1 (brow vs)] = some (.bool true, []) := by
  have hL := largeT_T (k := 219) t 120 (by omega) ht
  refine enter rfl func5 rfl (by decide) (by kernel_rfl) rfl rfl ?_
  refine zs0 ?_
  refine zs3 hL ?_
  cases hb : bigT t 120 with
  | true =>
    refine zs1 aw ?_
    rfl
  | false =>
    obtain ⟨hl, htx⟩ := not_big hb
    have hs : Sm t := ⟨by omega, htx⟩
    have hO := of_T (k := 13) hs
    refine zs0 ?_
    rw [brow_len]
    refine W.cond rfl (fun b1 => ?_) (fun b1 => ?_)
    · refine zs1 aw ?_
      rfl
    · rw [cond_false] at b1
      have b1 := of_decide_eq_false b1
      unfold ofP at hO
      cases hpv : prepV t with
      | none =>
        rw [hpv] at hO
        simp only at hO
        cases hf : formV t
        all_goals (
          rw [hf] at hO
          simp only [Bool.false_eq_true, if_false, if_true] at hO
          refine zs1 hO ?_
          refine zs2 aw ?_
          rfl)
      | some ps =>
        rw [hpv] at hO
        simp only at hO
        obtain ⟨rs, h1, h2, h3⟩ := prep_some hpv
        have hI := look_tree h1
        have hG := enc_g hI hs h3
        have hX := fun ha hX => ext_T (k := 13) hs hpv (ar := atmV t ps (encV t ps).2 vs (encV t ps).2.ky.length) (vs := vs) ha hX
        have hU := fun hv hh => uniq hI hs h2 hG (root := (encV t ps).1) (vs := vs) hv hh
        have hX := fun hv hh => hX (by unfold atmV; rw [List.length_map]) (hU hv hh)
        clear hU
        unfold ofV at hO
        generalize encV t ps = R at *
        obtain ⟨root, S⟩ := R
        simp only at *
        have hle := hG.le
        have hcle := allC_le hI hs hG S.ky.length (Nat.le_refl _)
        have hfit := lit_fit hI hs hG S.ky.length (Nat.le_refl _)
        refine zs1 hO ?_
        rw [brow_len]
        refine WX.boolM rfl rfl (fun b2 => ?_) (fun b2 => ?_)
        · refine zs1 aw ?_
          rfl
        · rw [cond_false] at b2
          have b2 : vs.length = S.ky.length := by have := of_decide_eq_false b2; omega
          refine zs0 ?_
          rw [crow_len, List.length_append, List.length_singleton]
          refine W.cond rfl (fun c => ?_) (fun _ => ?_)
          · rw [cond_false] at c
            have := of_decide_eq_true c
            omega
          refine zd8 ?_
          rw [crow_len, List.length_append, List.length_singleton, wrap_i64 (x := (((allC t ps S S.ky.length).length + 1 : Nat) : Int) - 1) (by omega) (by omega)]
          refine WX.stepD tab_eq rfl rfl (by simp only [crow_len, List.length_append, List.length_singleton]; omega) ?_
          refine zd0 ?_
          rw [zsub (allC t ps S S.ky.length) [root] (n := (allC t ps S S.ky.length).length + 1) (by rw [List.length_append, List.length_singleton])]
          refine WX.callD tab_eq rfl rfl rfl rfl rfl (holds_T (k := 219) S.ky.length (allC t ps S S.ky.length) vs (by omega) (by omega) hfit) rfl rfl ?_
          refine zd0 ?_
          cases hh : holdsB S.ky.length (allC t ps S S.ky.length) vs with
          | false =>
            refine WX.nilD (by kernel_rfl) ?_
            refine zs1 aw ?_
            rfl
          | true =>
            have hX := hX b2 hh
            refine WX.nilD (by kernel_rfl) ?_
            refine zs0 ?_
            have hal : (atmS t ps S S.ky.length).length = (atmL t ps S S.ky.length).length := by unfold atmS; rw [List.length_map]
            have hall := atmL_le (t := t) (ps := ps) (S := S) S.ky.length
            refine W.loop (fun e q => ∃ (i : Nat), e = [(5, .box (0, 0) [.int .i64 S.ky.length, .imm 1 (crow (allC t ps S S.ky.length ++ [[root]])), .imm 2 (arow (atmS t ps S S.ky.length))]), (1, .imm 1 (brow vs)), (0, .imm 5 (nrow t)), (8, .int .i64 i), (7, .own (0, 0) 1 (brow (((atmL t ps S S.ky.length).take i).map fun v => vs.getD v false))), (91, .dead)] ∧ i ≤ (atmL t ps S S.ky.length).length ∧ q = (atmL t ps S S.ky.length).length - i) (atmL t ps S S.ky.length).length ?_ ?_ ?_
            · exact ⟨0, rfl, by omega, by omega⟩
            · show _ < 4611686018427387904; omega
            · rintro e q ⟨i, rfl, hi, rfl⟩
              refine zs0 ?_
              rw [arow_len, hal]
              refine W.cond rfl (fun hlt => ?_) (fun hlt => ?_)
              · have hlt := of_decide_eq_true hlt
                have hlt : i < (atmL t ps S S.ky.length).length := by omega
                have hg := arow_get (l := atmS t ps S S.ky.length) (i := i) (by omega)
                have hai : (atmS t ps S S.ky.length).getD i (0, []) = ((atmL t ps S S.ky.length).getD i 0, subT t ps (S.fs.getD ((atmL t ps S S.ky.length).getD i 0) 0)) := by
                  unfold atmS
                  simp [List.getD, List.getElem?_map, List.getElem?_eq_getElem hlt]
                have han : (atmL t ps S S.ky.length).getD i 0 < S.ky.length := by
                  have := mem_getD (l := atmL t ps S S.ky.length) (i := i) 0 hlt
                  unfold atmL at this
                  exact List.mem_range.1 (List.mem_filter.1 this).1
                have htk : ((atmL t ps S S.ky.length).take (i + 1)).map (fun v => vs.getD v false) = ((atmL t ps S S.ky.length).take i).map (fun v => vs.getD v false) ++ [vs.getD ((atmL t ps S S.ky.length).getD i 0) false] := by
                  rw [List.take_add_one, List.map_append, List.getElem?_eq_getElem hlt]
                  simp [List.getD, List.getElem?_eq_getElem hlt]
                rw [hai] at hg
                simp only at hg
                generalize (atmL t ps S S.ky.length).getD i 0 = a at *
                have hbg := brow_get (l := vs) (i := a) (by omega)
                generalize vs.getD a false = bv at *
                generalize subT t ps (S.fs.getD a 0) = sub at *
                refine zs0 ?_
                refine WX.idxImm tab_eq rfl rfl rfl rfl rfl rfl (by omega) (hg) ?_
                refine zs0 ?_
                refine WX.idxImm tab_eq rfl rfl rfl rfl rfl rfl (by omega) (hg) ?_
                refine zs0 ?_
                rw [brow_len]
                refine W.cond rfl (fun c => ?_) (fun _ => ?_)
                · rw [cond_false] at c
                  have := of_decide_eq_true c
                  omega
                · refine zs0 ?_
                  refine WX.idxImm tab_eq rfl rfl rfl rfl rfl rfl (by omega) (hg) ?_
                  refine zs0 ?_
                  rw [wrap_i64 (x := (a : Int) + 1 - 1) (by omega) (by omega), show (a : Int) + 1 - 1 = a by omega]
                  refine WX.idxImm tab_eq rfl rfl rfl rfl rfl rfl (by omega) (hbg) ?_
                  refine zs0 ?_
                  refine WX.step tab_eq rfl rfl (by simp [brow_len] <;> omega) ?_
                  refine zs0 ?_
                  rw [wrap_i64 (x := (i : Int) + 1) (by omega) (by omega)]
                  show ∃ m', _
                  refine ⟨(atmL t ps S S.ky.length).length - (i + 1), by omega, i + 1, ?_, by omega, rfl⟩
                  rw [htk, List.take_length, ← brow_snoc]
                  rfl
              · have hlt := of_decide_eq_false hlt
                have : i = (atmL t ps S S.ky.length).length := by omega
                subst this
                rw [List.take_length]
                refine zs0 ?_
                unfold atmV at hX
                refine WX.call tab_eq rfl rfl rfl rfl rfl (viaA (hX) (by simp only [List.drop_zero, List.take_length])) rfl rfl ?_
                refine zs0 ?_
                refine WX.call tab_eq rfl rfl rfl rfl rfl (bools_T (k := 219) vs (by omega)) rfl rfl ?_
                refine zs1 aw ?_
                rfl
end Go.PE
namespace Go.PE
open Go.RowKit Go.Proofs Go.Proofs.Tryz Go.ChangeShapes Go.WideShapes Go.ChangeAt
set_option maxRecDepth 100000
/-! ### What the listed variables give -/
theorem gPow : prog.globalNamed "internal/strconv.uint64pow10" = some 3 := by kernel_rfl
theorem glob_of_tab {W : World} {cs : Array Value} (hv : W.var? prog "internal/strconv.uint64pow10" = some cs) (hcs : cs.toList = Lib.pow10Tab.map fun z => Value.int .u64 z) : Glob W (fun b => b < W.heap.size) := by
  unfold World.var? at hv
  rw [gPow, Option.bind_some] at hv
  split at hv
  · rename_i cs' e r hh
    simp only [Option.some.injEq] at hv
    subst hv
    have h0 : 3 < W.heap.size := by
      rcases Nat.lt_or_ge 3 W.heap.size with h | h
      · exact h
      · rw [Array.getElem?_eq_none h] at hh; cases hh
    have hsz : cs'.size = 20 := by
      have := congrArg List.length hcs
      simpa [Lib.pow10Tab] using this
    refine ⟨fun g hg => ?_, h0, cs', e, r, hh, hsz⟩
    unfold globPV at hg ⊢
    split at hg
    · refine Imm.iptr (w := W) (Fz := fun b => b < W.heap.size) ⟨3, 0, none⟩ _ 0 (fun j => .int .u64 (10 ^ j : Nat)) (fun j p hp => ⟨h0, ?_⟩) (fun j p hp => ?_)
      · have hj : j < 20 := by
          have := (List.getElem?_eq_some_iff.1 hp).1
          simpa using this
        rw [add_lit, Nat.zero_add]
        simp only [World.cell?, hh, Option.isSome_none, Bool.false_eq_true, if_false]
        have h2 : cs'[j]? = cs'.toList[j]? := by simp
        rw [h2, hcs]
        simp [Lib.pow10Tab, hj]
      · have hj : j < 20 := by
          have := (List.getElem?_eq_some_iff.1 hp).1
          simpa using this
        have : p = .int .u64 (10 ^ j : Nat) := by
          simpa [hj] using hp.symm
        rw [this]
        exact .int .u64 _
    · simp [okC] at hg
  · cases hv
def laid5 : List (String × DataW Unit) := [("math/bits.deBruijn32tab", YtkfppicmdgbfjaaGreatDoor.Rows.laid_math_bits_deBruijn32tab), ("math/bits.deBruijn64tab", YtkfppicmdgbfjaaGreatDoor.Rows.laid_math_bits_deBruijn64tab), ("internal/strconv.uint64pow10", YtkfppicmdgbfjaaGreatDoor.Rows.laid_internal_strconv_uint64pow10), ("strconv.ErrRange", YtkfppicmdgbfjaaGreatDoor.Rows.laid_strconv_ErrRange), ("strconv.ErrSyntax", YtkfppicmdgbfjaaGreatDoor.Rows.laid_strconv_ErrSyntax)]
theorem tPow : (prog.globals[3]?).map (·.type) = some 277 := by kernel_rfl
theorem glob_of_laid {W : World} (h : laidMetH prog laid5 W) : Glob W (fun b => b < W.heap.size) := by
  rw [MakeChecks.laidMetH_plain _ _ _ (by kernel_rfl)] at h
  obtain ⟨ps, ⟨g0, t0, cs0, f0, p0, q0, hg0, ht0, hv0, hd0, ⟨g1, t1, cs1, f1, p1, q1, hg1, ht1, hv1, hd1, ⟨g2, t2, cs2, f2, p2, q2, hg2, ht2, hv2, hd2, _, _⟩, _⟩, _⟩, _, _⟩ := h
  obtain rfl := Option.some.inj (gPow.symm.trans hg2)
  obtain rfl := Option.some.inj (tPow.symm.trans ht2)
  have he : (YtkfppicmdgbfjaaGreatDoor.Rows.laid_internal_strconv_uint64pow10 : DataW Unit) = Lib.tabData .u64 Lib.pow10Tab := by kernel_rfl
  rw [he] at hd2
  exact glob_of_tab hv2 (Lib.cells_of_tab underlying277 underlying247 (by kernel_rfl) (by kernel_rfl) hd2)
theorem door_met (os : Os) (args : Array Value) : laidMetH prog laid5 ((World.doorLaid prog 400 os).forCall (fun _ _ => 0) ⟨#[], args, []⟩).memory :=
  laidMetH_of_parts3 (fuel := 8) (laidMet_of_run' 8 (by kernel_rfl) (by kernel_rfl)) (by kernel_rfl) (by kernel_rfl)
end Go.PE
namespace Go.PE
open Go.RowKit Go.Proofs Go.Proofs.Tryz Go.ChangeShapes Go.WideShapes Go.ChangeAt
set_option maxRecDepth 100000
/-! ### From a function's contract to the row -/
theorem laidOut_ok : laidOutB prog = true := by kernel_rfl
section
variable {H : Type} {enc : TypeId × Value → H}
theorem carryAll {W W' : World} (hb : Below W.heap.size W W') : ∀ {ts : List TypeId} {vs : List Value} {ds : List (DataW H)} {ps : List MemPlace},
    (∀ t ∈ ts, prog.readableRec t = true ∧ t < prog.types.size) → DataW.TrodAll enc prog W 0 (fun _ => true) true ts vs ds ps → (∀ x ∈ ps, x.block < W.heap.size) →
    DataW.TrodAll enc prog W' 0 (fun b => decide (b < W.heap.size)) true ts vs ds ps
  | [], [], [], ps, _, h, _ => h
  | t :: ts, v :: vs, d :: ds, ps, ht, ⟨p, q, h1, h2, he⟩, hlt => by
    subst he
    exact ⟨p, q, Below.trod laidOut_ok (ht t (by simp)).1 (ht t (by simp)).2 h1 hb (fun x hx => hlt x (by simp [hx])),
      carryAll hb (fun t' ht' => ht t' (by simp [ht'])) h2 (fun x hx => hlt x (by simp [hx])), rfl⟩
  | [], _ :: _, _, _, _, h, _ => h.elim
  | [], [], _ :: _, _, _, h, _ => h.elim
  | _ :: _, [], _, _, _, h, _ => h.elim
  | _ :: _, _ :: _, [], _, _, h, _ => h.elim
theorem law_post {fn : Func} {s : ChangeSpec} {W W' : World} {args : Array Value} {ds gs : List (DataW H)} {before : List MemPlace} (hvars : s.vars = []) (hres : fn.resultTypes = #[4])
    (hfn : ∀ ds : List (DataW H), ds.length = fn.params.size → s.fn H ds = { results := [.lit (.bool true)], args := ds }) (hread : ∀ t ∈ fn.params.toList, prog.readableRec t = true ∧ t < prog.types.size)
    (hW : DataW.Whole enc prog fn.params.toList s.vars false W args.toList ds gs before) (hb : Below W.heap.size W W') : s.post enc prog fn false true false false W args (.bool true) W' := by
  have hW' := hW
  obtain ⟨p, q, hA, hV, rfl, hfz, hnd⟩ := hW
  rw [hvars] at hV
  obtain ⟨rfl, rfl⟩ : gs = [] ∧ q = [] := by
    cases gs with
    | nil => exact ⟨rfl, hV⟩
    | cons g r => exact absurd hV (by intro h; cases h)
  have hlen : ds.length = fn.params.size := by
    have : ∀ {ts : List TypeId} {vs : List Value} {ds : List (DataW H)} {ps : List MemPlace}, DataW.TrodAll enc prog W 0 (fun _ => true) true ts vs ds ps → ds.length = ts.length := by
      intro ts
      induction ts with
      | nil => intro vs ds ps h; cases vs <;> cases ds <;> first | rfl | exact h.elim
      | cons t ts ih =>
        intro vs ds ps h
        cases vs with
        | nil => exact h.elim
        | cons v vs =>
          cases ds with
          | nil => exact h.elim
          | cons d ds =>
            obtain ⟨_, _, _, h2, _⟩ := h
            simp [ih h2]
    simpa using this hA
  have e1 := hfn ds hlen
  have e2 : s.fn H (ds ++ []) = { results := [.lit (.bool true)], args := ds } := by rw [List.append_nil]; exact e1
  refine ⟨ds, [], _, [], p, [], hW', ?_, ?_, ?_, hb.frame _, fun h => by cases h⟩
  · rw [e2, hres]
    exact trodAll_mk1 (shut_bool underlying4 true)
  · rw [e2]
    exact carryAll hb hread hA (fun x hx => hW'.lt x (by simpa using hx))
  · rw [hvars, e2]; rfl
theorem calls_of_meets {f : FuncId} {fn : Func} {c : Code} (hf : prog.funcs[f]? = some fn) (hc : fn.body = some c) (hn : fn.name ≠ "runtime.NumGoroutine") {F : List PV → Option (PV × List (List PV))} (hM : MeetsN prog f F)
    {W : World} {args : Array Value} {avs : List PV} {b : Bool} (hgl : Glob W (fun b => b < W.heap.size)) (hreps : Reps W (fun b => b < W.heap.size) args.toList avs []) (hF : F avs = some (.bool b, [])) :
    Calls prog f args W fun e W' => e = .returned (.bool b) ∧ Below W.heap.size W W' := by
  have h := hM W (fun b => b < W.heap.size) args avs [] (.bool b) [] hgl (fun _ h => h) List.nodup_nil (by simp) hreps hF
    { dst := some 0, op := .move (.tmp 0), type := 0, pos := "", after := #[], guard := none } { tmps := #[undef], defers := [] } (fun a W' => a.tmps[0]? = some (.bool b) ∧ Below W.heap.size W W') (fun _ _ _ => False)
    (fun u W' hp => by
      obtain ⟨hos, htape, hout, hsize, hheap, _, Fz', bsr, bss, _, _, _, _, hru, _⟩ := hp
      refine ⟨?_, hos, htape, hout, hsize, fun k hk => hheap k hk (by simp)⟩
      have hi := hru.imm rfl
      cases hi
      rfl)
  have henter : (callFunc f args).run prog W = .ok (.enter f args) W := by
    simp [callFunc, hf, hn, hc]
  rw [henter, Oper.upon_enter] at h
  refine h.mono fun e W' he => ?_
  cases e with
  | returned v =>
    obtain ⟨h1, h2⟩ := he
    refine ⟨?_, h2⟩
    have : (Act.put { tmps := #[undef], defers := [] } (some 0) v).tmps[0]? = some v := rfl
    rw [this] at h1
    cases h1
    rfl
  | panicked chain => exact he.elim
  | outgrown =>
    obtain ⟨_, _, h⟩ := he
    exact h.elim
end
end Go.PE
namespace Go.PE
open Go.RowKit Go.Proofs Go.Proofs.Tryz Go.ChangeShapes Go.WideShapes Go.ChangeAt
set_option maxRecDepth 100000
/-! ### The length of a slice argument, by its weight -/
end Go.PE
