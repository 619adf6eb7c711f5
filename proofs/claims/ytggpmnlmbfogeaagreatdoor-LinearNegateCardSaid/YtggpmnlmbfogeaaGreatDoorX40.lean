/-
  A part of the proof that the law's function returns true and leaves its arguments as they were, for every input (no condition): own lemmas of the proof, in the order of their use.
-/
import Derived.Test.YtggpmnlmbfogeaaGreatDoorX30
import Derived.Test.YtggpmnlmbfogeaaGreatDoorX31
import Derived.Test.YtggpmnlmbfogeaaGreatDoorX35
set_option linter.all false
namespace Go.PE
open Go.RowKit Go.Proofs.Tryz
set_option maxRecDepth 100000
def sumQ : List QT → (Bs → Rat) → Rat
 | [], _ => 0
 | u :: us, f => u.2 * f u.1 + sumQ us f
theorem sumQ_mul (us : List QT) (q : Rat) (f : Bs → Rat) : sumQ (mulU us q) f = sumQ us f * q := by
 induction us with
 | nil => exact (Rat.zero_mul q).symm
 | cons u us ih =>
  rw [mulU_cons]
  simp only [sumQ, ih]
  grind
theorem sumQ_sc (us : List QT) (q : Rat) (f : Bs → Rat) : sumQ (scU us q) f = sumQ us f * q := by
 unfold scU
 split
 ·rename_i h
  rw [h, Rat.mul_zero]; rfl
 ·exact sumQ_mul us q f
theorem sumQ_add (a b : List QT) (f : Bs → Rat) : sumQ (addU a b) f = sumQ a f + sumQ b f := by
 fun_induction addU a b with
 | case1 b => simp only [sumQ, Rat.zero_add]
 | case2 u a => simp only [sumQ, Rat.add_zero]
 | case3 u a v b h ih => simp only [sumQ] at ih ⊢; rw [ih]; grind
 | case4 u a v b h1 h ih => simp only [sumQ] at ih ⊢; rw [ih]; grind
 | case5 u a v b h1 h2 h ih =>
  have e := lss_tri h1 h2
  simp only [sumQ] at ih ⊢
  rw [ih, ← e]
  grind
 | case6 u a v b h1 h2 h ih =>
  have e := lss_tri h1 h2
  simp only [sumQ] at ih ⊢
  rw [ih, ← e]
  grind
theorem sumQ_out {us : List QT} (n : Bs) (f : Bs → Rat) (h : okU us) : sumQ (outU us n) f = sumQ us f - co us n * f n := by
 induction us with
 | nil =>
  show (0 : Rat) = 0 - 0 * f n
  grind
 | cons u us ih =>
  obtain ⟨h1, h2, h3⟩ := okU_cons.1 h
  have ih := ih h3
  have e : outU (u :: us) n = if u.1 = n then outU us n else u :: outU us n := by
   unfold outU
   rw [List.filter_cons]
   by_cases h : u.1 = n <;> simp [h]
  rw [e]
  by_cases hn : u.1 = n
  ·have h0 : co us n = 0 := co_lt fun x hx => hn ▸ h2 x hx
   rw [h0] at ih
   rw [if_pos hn, ih]
   simp only [sumQ, co, if_pos hn]
   subst hn
   grind
  ·rw [if_neg hn]
   simp only [sumQ, co, if_neg hn]
   rw [ih]
   grind
end Go.PE
namespace Go.PE
open Go.RowKit Go.Proofs.Tryz
set_option maxRecDepth 100000
variable {k : Nat}
abbrev Bd := Bs × Int × Bs
def brow (es : List Bd) : List (List PV) := es.map fun e => [.str e.1, .int .i64 e.2.1, .bool false, .str e.2.2, .imm 1 [], .imm 1 []]
theorem brow_len (es : List Bd) : (brow es).length = es.length := by simp [brow]
def numK (kd : Int) (c : Ch) : Rat × Ch := if kd = 2 then ((intN c : Rat), intC c) else (numQ c, numC c)
theorem num_T (c : Ch) (h : okCh c) (kd : Int) : T (k + 10) 117 [.box (0, 0) (chC c), .int .i64 kd] = some (.str (rs (numK kd c).1), [chC (numK kd c).2]) := by
 have h1 := integer_T (k := k + 1) c h
 have h2 := number_T (k := k) c h
 unfold numK
 refine enter rfl func117 rfl (by decide) (by kernel_rfl) rfl rfl ?_
 refine zs0 ?_
 refine W.cond rfl (fun c1 => ?_) (fun c1 => ?_)
 ·have c1 := of_decide_eq_true c1
  rw [if_pos c1]
  refine zs1 h1 ?_
  rfl
 ·have c1 := of_decide_eq_false c1
  rw [if_neg c1]
  refine zs1 h2 ?_
  rfl
def envS (kd : Int) (st : Ch × List Bd) (x : Bs) : Ch × List Bd := ((numK kd st.1).2, st.2 ++ [(x, kd, rs (numK kd st.1).1)])
def envC (kd : Int) (c : Ch) : Ch × List Bd := vars.foldl (envS kd) (c, [])
theorem okCh_numK {c : Ch} (h : okCh c) (kd : Int) : okCh (numK kd c).2 := by
 unfold numK
 split
 ·exact okCh_int h
 ·exact okCh_num h
theorem linEnv_T (c : Ch) (h : okCh c) (kd : Int) : T (k + 11) 44 [.box (0, 0) (chC c), .int .i64 kd] = some (.own (0, 0) 6 (brow (envC kd c).2), [chC (envC kd c).1]) := by
 unfold envC
 refine enter rfl func44 rfl (by decide) (by kernel_rfl) rfl rfl ?_
 refine zs0 ?_
 refine W.loop (fun e m => ∃ (i : Nat) (st : Ch × List Bd), e = [(0, .box (0, 0) (chC st.1)), (1, .int .i64 kd), (5, .own (0, 0) 6 (brow st.2)), (6, .own (0, 0) 1 (vars.map fun w => [.str w])), (7, .int .i64 i)] ∧
  i ≤ 4 ∧ okCh st.1 ∧ st.2.length ≤ i ∧ (vars.drop i).foldl (envS kd) st = vars.foldl (envS kd) (c, []) ∧ m = 4 - i) 4 ?_ ?_ ?_
 ·exact ⟨0, (c, []), rfl, by omega, h, by simp, rfl, by omega⟩
 ·show _ < 4611686018427387904; omega
 ·rintro e m ⟨i, st, rfl, hi, hk, hln, hf, rfl⟩
  refine zs0 ?_
  refine W.cond rfl (fun hlt => ?_) (fun hlt => ?_)
  ·have hi4 : i < 4 := by
    have := of_decide_eq_true hlt
    simp only [List.length_map, vars, List.length_cons, List.length_nil] at this
    omega
   have hdrop : vars.drop i = vars.getD i [] :: vars.drop (i + 1) := by
    rw [List.drop_eq_getElem_cons (show i < vars.length from hi4)]
    simp [List.getD, List.getElem?_eq_getElem (show i < vars.length from hi4)]
   have hg : (vars.map fun w => [PV.str w])[i]? = some [.str (vars.getD i [])] := by
    rw [List.getElem?_map, List.getElem?_eq_getElem (show i < vars.length from hi4)]
    simp [List.getD, List.getElem?_eq_getElem (show i < vars.length from hi4)]
   rw [hdrop, List.foldl_cons] at hf
   obtain ⟨cc, acc⟩ := st
   simp only at hk hln hf
   have n2 := num_T (k := k) cc hk kd
   have hk2 := okCh_numK hk kd
   have e : (brow acc).take (brow acc).length ++ [[PV.str (vars.getD i []), .int .i64 kd, .bool false, .str (rs (numK kd cc).1), .imm 1 [], .imm 1 []]] = brow (acc ++ [(vars.getD i [], kd, rs (numK kd cc).1)]) := by
    rw [List.take_length]; simp [brow]
   unfold envS at hf
   simp only at hf
   refine zd8 ?_
   refine WX.stepD tab_eq rfl rfl (by rw [List.length_map]; exact ⟨by omega, by show (i : Int) < 4; omega⟩) ?_
   rw [show 0 + (i : Int).toNat = i by omega]
   refine WX.ldElemD tab_eq rfl rfl rfl (hg) rfl rfl rfl rfl ?_
   refine zd2 n2 ?_
   refine WX.stepD tab_eq rfl rfl (by simp [brow_len]; omega) ?_
   refine zd7 ?_
   rw [wrap_i64 (x := (i : Int) + 1) (by omega) (by omega)]
   show ∃ m', _
   refine ⟨4 - (i + 1), by omega, i + 1, ((numK kd cc).2, acc ++ [(vars.getD i [], kd, rs (numK kd cc).1)]), ?_, by omega, hk2, by simp; omega, hf, rfl⟩
   rw [← e]
   rfl
  ·have hi4 : i = 4 := by
    have := of_decide_eq_false hlt
    simp only [List.length_map, vars, List.length_cons, List.length_nil] at this
    omega
   subst hi4
   have hd : vars.drop 4 = [] := rfl
   rw [hd, List.foldl_nil] at hf
   rw [← hf]
   refine zs0 ?_
   rw [List.take_length]
   rfl
end Go.PE
namespace Go.PE
open Go.RowKit Go.Proofs.Tryz
set_option maxRecDepth 100000
variable {k : Nat}
abbrev Bq := Bs × Int × Rat
def bqS (e : Bq) : Bs := if e.2.1 = 1 then [] else rs e.2.2
def bq (e : Bq) : Bd := (e.1, e.2.1, bqS e)
def okBL (L : Nat) (e : Bq) : Prop := (e.2.1 = 1 ∨ (e.2.1 = 2 ∧ e.2.2.den = 1) ∨ e.2.1 = 3) ∧ szQ e.2.2 L
abbrev okB (e : Bq) : Prop := okBL 1000 e
def vcell (e : Bq) : List PV := [.int .i64 e.2.1, .bool false, .str (bqS e), .imm 1 [], .imm 1 []]
def bcell (e : Bq) : List PV := [.str e.1, .int .i64 e.2.1, .bool false, .str (bqS e), .imm 1 [], .imm 1 []]
def erow (es : List Bq) : List (List PV) := es.map bcell
theorem erow_len (es : List Bq) : (erow es).length = es.length := by simp [erow]
theorem erow_get {es : List Bq} {i : Nat} (h : i < es.length) : (erow es)[i]? = some (bcell (es.getD i ([], 1, 0))) := by
 unfold erow
 rw [List.getElem?_map, List.getElem?_eq_getElem h]
 simp [List.getD, List.getElem?_eq_getElem h]
theorem simple_T (s : Int) (n : Bs) : T (k + 1) 197 [.agg [.int .i64 s, .bool false, .str n, .imm 1 [], .imm 1 []]] = some (.bool true, []) := by
 refine enter rfl func197 rfl (by decide) (by kernel_rfl) rfl rfl ?_
 refine zs0 ?_
 rfl
theorem value_T {e : Bq} {L : Nat} (h : okBL L e) (hL : L ≤ 200000) : T (k + 7) 120 [.agg (vcell e)] = some (.bool true, []) := by
 obtain ⟨h, hs⟩ := h
 have hl := hs.len
 have h1 := simple_T (k := k + 5) e.2.1 (bqS e)
 have h2 := isInt_Q (k := k + 2) e.2.2 (by omega)
 have h3 := valid_Q (k := k) e.2.2 (by omega)
 obtain ⟨n, s, q⟩ := e
 simp only at h hl h1 h2 h3
 unfold vcell bqS at *
 simp only at *
 rcases h with rfl | ⟨rfl, hd⟩ | rfl
 ·rw [if_pos rfl] at h1 ⊢
  refine enter rfl func120 rfl (by decide) (by kernel_rfl) rfl rfl ?_
  refine zs1 h1 ?_
  rfl
 ·rw [if_neg (by decide)] at h1 ⊢
  rw [decide_eq_true hd] at h2
  refine enter rfl func120 rfl (by decide) (by kernel_rfl) rfl rfl ?_
  refine zs1 h2 ?_
  refine zs2 h1 ?_
  rfl
 ·rw [if_neg (by decide)] at h1 ⊢
  refine enter rfl func120 rfl (by decide) (by kernel_rfl) rfl rfl ?_
  refine zs1 h3 ?_
  refine zs2 h1 ?_
  rfl
theorem rvalue_T {e : Bq} (h : okB e) : T (k + 8) 143 [.agg (vcell e)] = some (.bool true, []) := by
 obtain ⟨h, hs⟩ := h
 have hl := hs.len
 have h2 := risInt_Q (k := k) e.2.2 (by omega)
 have h3 := rvalid_Q (k := k) e.2.2 (by omega)
 obtain ⟨n, s, q⟩ := e
 simp only at h hl h2 h3
 unfold vcell bqS at *
 simp only at *
 rcases h with rfl | ⟨rfl, hd⟩ | rfl
 ·rw [if_pos rfl]
  refine enter rfl func143 rfl (by decide) (by kernel_rfl) rfl rfl ?_
  refine zs0 ?_
  rfl
 ·rw [if_neg (by decide)]
  rw [decide_eq_true hd] at h2
  refine enter rfl func143 rfl (by decide) (by kernel_rfl) rfl rfl ?_
  refine zs1 h2 ?_
  rfl
 ·rw [if_neg (by decide)]
  refine enter rfl func143 rfl (by decide) (by kernel_rfl) rfl rfl ?_
  refine zs1 h3 ?_
  rfl
theorem evalA_T {e : Bq} {L : Nat} (h : okBL L e) (hL : L ≤ 200000) : T (k + 8) 119 [.agg (bcell e)] = some (.bool false, []) := by
 have h1 := value_T (k := k) h hL
 unfold bcell
 unfold vcell at h1
 refine enter rfl func119 rfl (by decide) (by kernel_rfl) rfl rfl ?_
 refine zs1 h1 ?_
 rfl
theorem evalB_T (e : Bq) (n c : Bs) : T (k + 1) 122 [.agg (bcell e), .iptr [.str n, .str c] 0] = some (.bool (decide (e.1 = n)), []) := by
 unfold bcell
 refine enter rfl func122 rfl (by decide) (by kernel_rfl) rfl rfl ?_
 refine zs0 ?_
 rfl
theorem idxB_T (g : FuncId) (caps : List PV) (hg : (g = 119 ∧ caps = []) ∨ (g = 122 ∧ ∃ a b, caps = [.iptr [.str a, .str b] 0])) (p : Bq → Bool) (es : List Bq) (hl : es.length < 1000000)
  (h : ∀ e ∈ es, T k g (.agg (bcell e) :: caps) = some (.bool (p e), [])) : T (k + 1) 121 [.imm 6 (erow es), .func g caps] = some (.int .i64 (fiQ es p), []) := by
 rcases hg with ⟨rfl, rfl⟩ | ⟨rfl, a, b, rfl⟩
 all_goals
  refine enter rfl func121 rfl (by decide) (by kernel_rfl) rfl rfl ?_
  refine zs0 ?_
  first
  | refine W.loop (fun e m => ∃ (i : Nat), e = [(0, .imm 6 (erow es)), (1, .func 119 []), (7, .int .i64 (erow es).length), (8, .int .i64 i)] ∧ i ≤ es.length ∧ (∀ w ∈ es.take i, p w = false) ∧ m = es.length - i) es.length ⟨0, rfl, by omega, by simp, by omega⟩ ?_ ?_
  | refine W.loop (fun e m => ∃ (i : Nat), e = [(0, .imm 6 (erow es)), (1, .func 122 [.iptr [.str a, .str b] 0]), (7, .int .i64 (erow es).length), (8, .int .i64 i)] ∧ i ≤ es.length ∧ (∀ w ∈ es.take i, p w = false) ∧ m = es.length - i) es.length ⟨0, rfl, by omega, by simp, by omega⟩ ?_ ?_
  ·show _ < 4611686018427387904; omega
  ·rintro e m ⟨i, rfl, hi, hno, rfl⟩
   refine zs0 ?_
   refine W.cond rfl (fun hlt => ?_) (fun hlt => ?_)
   ·have hlt := of_decide_eq_true hlt
    rw [erow_len, idx_eq] at hlt
    have hget := erow_get (es := es) (i := i) hlt
    have hm : es.getD i ([], 1, 0) ∈ es := by simp [List.getD, List.getElem?_eq_getElem hlt]
    have h1 := h _ hm
    have htk := take_snocG (d := (([], 1, 0) : Bq)) hlt
    have hhit := fi_hit (p := p) (d := (([], 1, 0) : Bq)) hlt hno
    generalize es.getD i ([], 1, 0) = u at *
    unfold bcell at hget h1
    refine zs0 ?_
    refine WX.idxImm tab_eq rfl rfl rfl rfl rfl rfl (by omega) (hget) ?_
    refine zs1 h1 ?_
    refine W.cond rfl (fun c1 => ?_) (fun c1 => ?_)
    ·refine zs0 ?_
     rw [hhit c1]
     rfl
    ·refine zs0 ?_
     rw [wrap_i64 (x := (i : Int) + 1) (by omega) (by omega)]
     show ∃ m', _
     refine ⟨es.length - (i + 1), by omega, i + 1, rfl, by omega, fun w hw => ?_, rfl⟩
     rw [htk] at hw
     rcases List.mem_append.1 hw with hw | hw
     ·exact hno w hw
     ·obtain rfl := List.mem_singleton.1 hw
      exact c1
   ·have hlt := of_decide_eq_false hlt
    rw [erow_len, idx_eq] at hlt
    have hie : i = es.length := by omega
    subst hie
    rw [List.take_length] at hno
    rw [fi_miss hno]
    refine zs0 ?_
    rfl
theorem envOK_T (es : List Bq) {L : Nat} (hL : L ≤ 200000) (hl : es.length < 1000000) (h : ∀ e ∈ es, okBL L e) : T (k + 10) 118 [.imm 6 (erow es), .func 119 []] = some (.bool false, []) := by
 have h1 := idxB_T (k := k + 8) 119 [] (.inl ⟨rfl, rfl⟩) (fun _ => false) es hl (fun e he => evalA_T (k := k) (h e he) hL)
 rw [fi_miss (fun _ _ => rfl)] at h1
 refine enter rfl func118 rfl (by decide) (by kernel_rfl) rfl rfl ?_
 refine zs1 h1 ?_
 rfl
theorem find_T (es : List Bq) (n c : Bs) (hl : es.length < 1000000) : T (k + 2) 121 [.imm 6 (erow es), .func 122 [.iptr [.str n, .str c] 0]] = some (.int .i64 (fiQ es fun e => decide (e.1 = n)), []) :=
 idxB_T (k := k + 1) 122 _ (.inr ⟨rfl, n, c, rfl⟩) _ es hl (fun e _ => evalB_T (k := k) e n c)
theorem renvOK_T (es : List Bq) (hl : es.length < 1000000) (h : ∀ e ∈ es, okB e) : T (k + 9) 123 [.imm 6 (erow es)] = some (.bool true, []) := by
 refine enter rfl func123 rfl (by decide) (by kernel_rfl) rfl rfl ?_
 refine zs0 ?_
 refine W.loop (fun e m => ∃ (i : Nat), e = [(0, .imm 6 (erow es)), (3, .int .i64 i)] ∧ i ≤ es.length ∧ m = es.length - i) es.length ⟨0, rfl, by omega, by omega⟩ ?_ ?_
 ·show _ < 4611686018427387904; omega
 ·rintro e m ⟨i, rfl, hi, rfl⟩
  refine zs0 ?_
  refine W.cond rfl (fun hlt => ?_) (fun hlt => ?_)
  ·have hlt := of_decide_eq_true hlt
   rw [erow_len, idx_eq] at hlt
   have hget := erow_get (es := es) (i := i) hlt
   have hm : es.getD i ([], 1, 0) ∈ es := by simp [List.getD, List.getElem?_eq_getElem hlt]
   have h1 := rvalue_T (k := k) (h _ hm)
   generalize es.getD i ([], 1, 0) = u at *
   unfold bcell at hget
   unfold vcell at h1
   refine zs0 ?_
   refine WX.idxImm tab_eq rfl rfl rfl rfl rfl rfl (by omega) (hget) ?_
   refine zs1 h1 ?_
   rw [wrap_i64 (x := (i : Int) + 1) (by omega) (by omega)]
   show ∃ m', _
   exact ⟨es.length - (i + 1), by omega, i + 1, rfl, by omega, rfl⟩
  ·refine zs0 ?_
   rfl
end Go.PE
namespace Go.PE
open Go.RowKit Go.Proofs.Tryz
set_option maxRecDepth 100000
variable {k : Nat}
theorem fi_pos {α : Type} {us : List α} {p : α → Bool} (h : ¬ fiQ us p < 0) : ∃ j : Nat, fiQ us p = (j : Int) ∧ j < us.length := by
 unfold fiQ at h ⊢
 by_cases h1 : us.findIdx p < us.length
 ·rw [if_pos h1] at h ⊢
  exact ⟨_, rfl, h1⟩
 ·rw [if_neg h1] at h
  exact absurd h (by decide)
def bdL (A L : Nat) : Nat → Nat
 | 0 => A
 | i + 1 => 2 * (bdL A L i + (A + L))
theorem bdL_le (A L : Nat) {i : Nat} (hi : i ≤ 4) : bdL A L i ≤ 46 * A + 30 * L := by
 have : i = 0 ∨ i = 1 ∨ i = 2 ∨ i = 3 ∨ i = 4 := by omega
 rcases this with rfl | rfl | rfl | rfl | rfl <;> simp only [bdL] <;> omega
abbrev bdB (A : Nat) (i : Nat) : Nat := bdL A 1000 i
theorem bdB_le (A : Nat) {i : Nat} (hi : i ≤ 4) : bdB A i ≤ 48 * A + 32000 := by
 have := bdL_le A 1000 hi
 show bdL A 1000 i ≤ _
 omega
def nmP (n : Bs) (e : Bq) : Bool := decide (e.1 = n)
def evL (kd : Int) (es : List Bq) : List QT → Rat → Bs × Int
 | [], s => (rs s, 0)
 | u :: us, s =>
  if fiQ es (nmP u.1) < 0 then ([], 7) else
  if (es.getD (fiQ es (nmP u.1)).toNat ([], 1, 0)).2.1 ≠ kd then ([], 3) else evL kd es us (s + u.2 * (es.getD (fiQ es (nmP u.1)).toNat ([], 1, 0)).2.2)
theorem evL_cons (kd : Int) (es : List Bq) (u : QT) (us : List QT) (s : Rat) : evL kd es (u :: us) s = if fiQ es (nmP u.1) < 0 then ([], 7) else
  if (es.getD (fiQ es (nmP u.1)).toNat ([], 1, 0)).2.1 ≠ kd then ([], 3) else evL kd es us (s + u.2 * (es.getD (fiQ es (nmP u.1)).toNat ([], 1, 0)).2.2) := rfl
theorem bqS_kd {e : Bq} {kd : Int} (hk : kd = 2 ∨ kd = 3) (h : e.2.1 = kd) : bqS e = rs e.2.2 := by
 unfold bqS
 rw [if_neg (by omega)]
set_option maxHeartbeats 1000000 in
theorem eval_T {kd : Int} {us : List QT} {c : Rat} {es : List Bq} {A L : Nat} (hk : kd = 2 ∨ kd = 3) (hu : okU us) (hl : us.length ≤ 4) (hs : ∀ u ∈ us, szQ u.2 A) (hc : szQ c A) (hA : 47 * A + 31 * L ≤ 4000000) (hes : es.length < 1000000) (he : ∀ e ∈ es, okBL L e) :
  T (k + 12) 45 [linP kd us c, .imm 6 (erow es)] = some (.tup [.str (evL kd es us c).1, .int .i64 (evL kd es us c).2], []) := by
 have h1 := linV_T (k := k + 4) hk hu hs hc (by omega) (by omega)
 have h2 := envOK_T (k := k + 1) es (L := L) (by omega) hes he
 refine enter rfl func45 rfl (by decide) (by kernel_rfl) rfl rfl ?_
 refine zs1 h1 ?_
 refine zs2 h2 ?_
 refine W.loop (fun e m => ∃ (i : Nat) (s : Rat), e = [(1, .imm 6 (erow es)), (2, .box (0, 0) [.int .i64 kd, .imm 2 (trow (tx us)), .str (rs c)]), (6, .str (rs s)), (19, .loc 2 (0, 0) 1), (20, .imm 2 (trow (tx us))), (21, .int .i64 (trow (tx us)).length), (22, .int .i64 i)] ∧
  i ≤ us.length ∧ szQ s (bdL A L i) ∧ evL kd es (us.drop i) s = evL kd es us c ∧ m = us.length - i) us.length ⟨0, c, rfl, by omega, hc, rfl, by omega⟩ ?_ ?_
 ·show _ < 4611686018427387904; omega
 ·rintro e m ⟨i, s, rfl, hi, hsz, hev, rfl⟩
  refine zs0 ?_
  refine W.cond rfl (fun hlt => ?_) (fun hlt => ?_)
  ·have hlt := of_decide_eq_true hlt
   rw [trow_len, tx_len, idx_eq] at hlt
   have hget := tx_get (us := us) (i := i) hlt
   have hum := getD_mem hlt
   rw [drop_cons hlt] at hev
   have hb4 := bdL_le A L (show i ≤ 4 by omega)
   have hf := fun n => find_T (k := k + 9) es (us.getD i ([], 0)).1 n hes
   have hsu := hs _ hum
   generalize us.getD i ([], 0) = u at *
   rw [evL_cons] at hev
   by_cases hneg : fiQ es (nmP u.1) < 0
   ·rw [if_pos hneg] at hev
    rw [← hev]
    have hf := hf (rs u.2)
    rw [show (fun e : Bq => decide (e.1 = u.1)) = nmP u.1 from rfl] at hf
    refine zs0 ?_
    refine WX.idxImm tab_eq rfl rfl rfl rfl rfl rfl (by omega) (hget) ?_
    refine zs1 hf ?_
    refine W.cond rfl (fun c1 => ?_) (fun c1 => ?_)
    ·refine zs0 ?_
     rfl
    ·exact absurd hneg (of_decide_eq_false c1)
   ·rw [if_neg hneg] at hev
    obtain ⟨j, hj, hjl⟩ := fi_pos hneg
    have hf := hf (rs u.2)
    rw [show (fun e : Bq => decide (e.1 = u.1)) = nmP u.1 from rfl, hj] at hf
    rw [hj, Int.toNat_natCast] at hev
    have heg := erow_get (es := es) (i := j) hjl
    have hm : es.getD j ([], 1, 0) ∈ es := by simp [List.getD, List.getElem?_eq_getElem hjl]
    have hok := he _ hm
    generalize es.getD j ([], 1, 0) = b at *
    unfold bcell at heg
    refine zs0 ?_
    refine WX.idxImm tab_eq rfl rfl rfl rfl rfl rfl (by omega) (hget) ?_
    refine zs1 hf ?_
    refine zd0 ?_
    refine WX.idxImmD tab_eq rfl rfl rfl rfl rfl rfl (by omega) (heg) ?_
    refine zd7 ?_
    refine W.cond rfl (fun c2 => ?_) (fun c2 => ?_)
    ·have c2 : b.2.1 ≠ kd := of_decide_eq_true c2
     rw [if_pos c2] at hev
     rw [← hev]
     refine zs0 ?_
     rfl
    ·have c2 : b.2.1 = kd := Classical.not_not.1 (of_decide_eq_false c2)
     rw [if_neg (fun h => h c2)] at hev
     have hbq := bqS_kd hk c2
     have hpz := szQ_mul hsu hok.2
     have hmu := mul_Q (k := k + 2) u.2 b.2.2 (L := A + L) (hsu.mono (by omega)) (hok.2.mono (by omega)) (by omega)
     have had := add_Q (k := k + 2) s (u.2 * b.2.2) (L := 47 * A + 31 * L) (hsz.mono (by omega)) (hpz.mono (by omega)) (by omega)
     rw [← hbq] at hmu
     refine zd8 ?_
     refine WX.idxImmD tab_eq rfl rfl rfl rfl rfl rfl (by omega) (heg) ?_
     refine zd2 hmu ?_
     refine zd5 had ?_
     rw [wrap_i64 (x := (i : Int) + 1) (by omega) (by omega)]
     show ∃ m', _
     exact ⟨us.length - (i + 1), by omega, i + 1, s + u.2 * b.2.2, rfl, by omega, szQ_add hsz hpz, hev, rfl⟩
  ·have hlt := of_decide_eq_false hlt
   rw [trow_len, tx_len, idx_eq] at hlt
   have hie : i = us.length := by omega
   subst hie
   rw [List.drop_length] at hev
   rw [← hev]
   refine zs0 ?_
   rfl
end Go.PE
namespace Go.PE
open Go.RowKit Go.Proofs.Tryz
set_option maxRecDepth 100000
variable {k : Nat}
theorem fi_cons {α : Type} (e : α) (l : List α) (p : α → Bool) : fiQ (e :: l) p = if p e = true then 0 else if fiQ l p < 0 then -1 else fiQ l p + 1 := by
 unfold fiQ
 rw [List.findIdx_cons, List.length_cons]
 cases hp : p e
 ·simp only [cond_false]
  by_cases h : l.findIdx p < l.length
  ·rw [if_pos h, if_pos (by omega), if_neg (by decide), if_neg (by omega)]
   omega
  ·rw [if_neg h, if_neg (by omega), if_neg (by decide), if_pos (by decide)]
 ·simp only [cond_true]
  rw [if_pos (by omega), if_pos trivial]
  rfl
theorem fi_neg {α : Type} {us : List α} {p : α → Bool} (h : fiQ us p < 0) : fiQ us p = -1 := by
 unfold fiQ at h ⊢
 by_cases h1 : us.findIdx p < us.length
 ·rw [if_pos h1] at h
  exact absurd h (by omega)
 ·rw [if_neg h1]
def fdQ (es : List Bq) (p : Bq → Bool) (n : Nat) : Int := if fiQ (es.drop n) p < 0 then -1 else fiQ (es.drop n) p + (n : Int)
theorem fd_end (es : List Bq) (p : Bq → Bool) : fdQ es p es.length = -1 := by
 unfold fdQ
 rw [List.drop_length]
 rfl
theorem fd_0 (es : List Bq) (p : Bq → Bool) : fdQ es p 0 = fiQ es p := by
 unfold fdQ
 rw [List.drop_zero]
 split
 ·rename_i h; exact (fi_neg h).symm
 ·simp
theorem fd_step {es : List Bq} {p : Bq → Bool} {n : Nat} (h : n < es.length) : fdQ es p n = if p (es.getD n ([], 1, 0)) = true then (n : Int) else fdQ es p (n + 1) := by
 unfold fdQ
 rw [show es.drop n = es.getD n ([], 1, 0) :: es.drop (n + 1) by
  rw [List.drop_eq_getElem_cons h]
  simp [List.getD, List.getElem?_eq_getElem h]]
 rw [fi_cons]
 by_cases hp : p (es.getD n ([], 1, 0)) = true
 ·rw [if_pos hp, if_pos hp, if_neg (by decide)]
  omega
 ·rw [if_neg hp, if_neg hp]
  by_cases hf : fiQ (es.drop (n + 1)) p < 0
  ·rw [if_pos hf, if_pos hf, if_pos (by decide)]
  ·rw [if_neg hf, if_neg hf, if_neg (by omega)]
   omega
set_option maxHeartbeats 2000000 in
theorem reval_T {kd : Int} {us : List QT} {c : Rat} {es : List Bq} {A : Nat} (hk : kd = 2 ∨ kd = 3) (hu : okU us) (hl : us.length ≤ 4) (hs : ∀ u ∈ us, szQ u.2 A) (hc : szQ c A) (hA : A ≤ 7000) (hes : es.length < 1000000) (he : ∀ e ∈ es, okB e) :
  T (k + 12) 46 [linP kd us c, .imm 6 (erow es)] = some (.tup [.str (evL kd es us c).1, .int .i64 (evL kd es us c).2], []) := by
 have h1 : T (k + 11) 23 [linP kd us c] = some (.bool true, []) := by
  have h := rlinValid_T (k := k + 3) kd (tx us) (rs c) (tx_small hu hs (by omega)) (by rw [tx_len]; omega) (by have := hc.len; omega)
  rw [linB_tx.2 ⟨hk, hu⟩] at h
  exact h
 have h2 := renvOK_T (k := k + 2) es hes he
 refine enter rfl func46 rfl (by decide) (by kernel_rfl) rfl rfl ?_
 refine zs1 h1 ?_
 refine zs2 h2 ?_
 refine W.loop (fun e m => ∃ (i : Nat) (s : Rat), e = [(1, .imm 6 (erow es)), (2, .box (0, 0) [.int .i64 kd, .imm 2 (trow (tx us)), .str (rs c)]), (6, .str (rs s)), (7, .int .i64 i)] ∧
  i ≤ us.length ∧ szQ s (bdB A i) ∧ evL kd es (us.drop i) s = evL kd es us c ∧ m = us.length - i) us.length ⟨0, c, rfl, by omega, hc, rfl, by omega⟩ ?_ ?_
 ·show _ < 4611686018427387904; omega
 ·rintro e m ⟨i, s, rfl, hi, hsz, hev, rfl⟩
  refine zs0 ?_
  refine W.cond rfl (fun hlt => ?_) (fun hlt => ?_)
  ·have hlt := of_decide_eq_true hlt
   rw [trow_len, tx_len, idx_eq] at hlt
   have hget := tx_get (us := us) (i := i) hlt
   have hum := getD_mem hlt
   rw [drop_cons hlt] at hev
   have hb4 := bdB_le A (show i ≤ 4 by omega)
   have hsu := hs _ hum
   generalize us.getD i ([], 0) = u at *
   rw [evL_cons] at hev
   refine zs0 ?_
   rw [erow_len, wrap_i64 (x := (es.length : Int) - 1) (by omega) (by omega)]
   refine W.loop (fun e m => ∃ (n : Nat), e = [(1, .imm 6 (erow es)), (2, .box (0, 0) [.int .i64 kd, .imm 2 (trow (tx us)), .str (rs c)]), (6, .str (rs s)), (7, .int .i64 i), (8, .int .i64 (fdQ es (nmP u.1) n)), (9, .int .i64 ((n : Int) - 1))] ∧
    n ≤ es.length ∧ m = n) es.length ?_ ?_ ?_
   ·refine ⟨es.length, ?_, by omega, rfl⟩
    rw [fd_end]
    rfl
   ·show _ < 4611686018427387904
    omega
   ·rintro e n ⟨n0, rfl, hn, rfl⟩
    refine zs0 ?_
    refine W.cond rfl (fun c1 => ?_) (fun c1 => ?_)
    ·have c1 := of_decide_eq_true c1
     obtain ⟨n', rfl⟩ : ∃ n', n = n' + 1 := ⟨n - 1, by omega⟩
     rw [show (((n' + 1 : Nat) : Int) - 1) = (n' : Int) by omega]
     have hnl : n' < es.length := by omega
     have heg := erow_get (es := es) (i := n') hnl
     have hst := fd_step (p := nmP u.1) hnl
     generalize es.getD n' ([], 1, 0) = b at *
     unfold bcell at heg
     refine zd8 ?_
     refine WX.idxImmD tab_eq rfl rfl rfl rfl rfl rfl (by omega) (heg) ?_
     refine zd0 ?_
     refine WX.idxImmD tab_eq rfl rfl rfl rfl rfl rfl (by omega) (hget) ?_
     refine zd7 ?_
     refine W.cond rfl (fun c2 => ?_) (fun c2 => ?_)
     ·have c2 : nmP u.1 b = true := c2
      rw [if_pos c2] at hst
      refine zs0 ?_
      rw [wrap_i64 (x := (n' : Int) - 1) (by omega) (by omega)]
      show ∃ m', _
      refine ⟨n', by omega, n', ?_, by omega, rfl⟩
      rw [hst]
      rfl
     ·have c2 : nmP u.1 b = false := c2
      rw [c2, if_neg (by decide)] at hst
      refine zs0 ?_
      rw [wrap_i64 (x := (n' : Int) - 1) (by omega) (by omega)]
      show ∃ m', _
      refine ⟨n', by omega, n', ?_, by omega, rfl⟩
      rw [hst]
      rfl
    ·have c1 := of_decide_eq_false c1
     have h0 : n = 0 := by omega
     subst h0
     rw [fd_0]
     by_cases hneg : fiQ es (nmP u.1) < 0
     ·rw [if_pos hneg] at hev
      rw [← hev]
      refine zs0 ?_
      refine W.cond rfl (fun c3 => ?_) (fun c3 => ?_)
      ·refine zs0 ?_
       rfl
      ·exact absurd hneg (of_decide_eq_false c3)
     ·rw [if_neg hneg] at hev
      obtain ⟨j, hj, hjl⟩ := fi_pos hneg
      rw [hj, Int.toNat_natCast] at hev
      rw [hj]
      have heg := erow_get (es := es) (i := j) hjl
      have hm : es.getD j ([], 1, 0) ∈ es := by simp [List.getD, List.getElem?_eq_getElem hjl]
      have hok := he _ hm
      generalize es.getD j ([], 1, 0) = b at *
      unfold bcell at heg
      refine zd8 ?_
      refine WX.idxImmD tab_eq rfl rfl rfl rfl rfl rfl (by omega) (heg) ?_
      refine zd7 ?_
      refine W.cond rfl (fun c2 => ?_) (fun c2 => ?_)
      ·have c2 : b.2.1 ≠ kd := of_decide_eq_true c2
       rw [if_pos c2] at hev
       rw [← hev]
       refine zs0 ?_
       rfl
      ·have c2 : b.2.1 = kd := Classical.not_not.1 (of_decide_eq_false c2)
       rw [if_neg (fun h => h c2)] at hev
       have hbq := bqS_kd hk c2
       have hpz := szQ_mul hsu hok.2
       have hmu := rmul_T (k := k + 4) u.2 b.2.2 (hsu.sm (by omega)) (hok.2.sm (by omega))
       have had := radd_Q (k := k + 4) s (u.2 * b.2.2) (L := 49 * A + 33000) (hsz.mono (by omega)) (hpz.mono (by omega)) (by omega)
       rw [← hbq] at hmu
       refine zd8 ?_
       refine WX.idxImmD tab_eq rfl rfl rfl rfl rfl rfl (by omega) (hget) ?_
       refine zd0 ?_
       refine WX.idxImmD tab_eq rfl rfl rfl rfl rfl rfl (by omega) (heg) ?_
       refine zd2 hmu ?_
       refine zd5 had ?_
       rw [wrap_i64 (x := (i : Int) + 1) (by omega) (by omega)]
       show ∃ m', _
       exact ⟨us.length - (i + 1), by omega, i + 1, s + u.2 * b.2.2, rfl, by omega, szQ_add hsz hpz, hev, rfl⟩
  ·have hlt := of_decide_eq_false hlt
   rw [trow_len, tx_len, idx_eq] at hlt
   have hie : i = us.length := by omega
   subst hie
   rw [List.drop_length] at hev
   rw [← hev]
   refine zs0 ?_
   rfl
end Go.PE
namespace Go.PE
open Go.RowKit Go.Proofs.Tryz
set_option maxRecDepth 100000
def holdQ (rel : Int) (v : Rat) (M : Nat) : Bool := if rel ≤ 3 then cmpQ rel v else decide ((v / ((M : Int) : Rat)).den = 1) == decide (rel = 4)
theorem lcm_gcd_dvd {D : Nat} : ∀ (us : List QT) (g : Nat), us.foldl (fun g u => Nat.gcd g (zU D u).natAbs) g ∣ g ∧ ∀ u ∈ us, us.foldl (fun g u => Nat.gcd g (zU D u).natAbs) g ∣ (zU D u).natAbs
 | [], g => ⟨Nat.dvd_refl _, fun u hu => by cases hu⟩
 | u :: us, g => by
  obtain ⟨h1, h2⟩ := lcm_gcd_dvd (D := D) us (Nat.gcd g (zU D u).natAbs)
  rw [List.foldl_cons]
  refine ⟨Nat.dvd_trans h1 (Nat.gcd_dvd_left _ _), fun w hw => ?_⟩
  rcases List.mem_cons.1 hw with rfl | hw
  ·exact Nat.dvd_trans h1 (Nat.gcd_dvd_right _ _)
  ·exact h2 w hw
theorem prim_pos {us : List QT} (hne : us ≠ []) (h0 : ∀ u ∈ us, u.2 ≠ 0) : 0 < prim us := by
 have d1 : lcmU 1 us ≠ 0 := lcmU_pos (by omega)
 have v1 := (lcmU_dvd (us := us) (d := 1)).2
 unfold prim gcdU
 generalize lcmU 1 us = D at *
 have g0 : us.foldl (fun g u => Nat.gcd g (zU D u).natAbs) 0 ≠ 0 := gcdU_ne0 (.inr hne) fun u hu => zU_ne d1 (v1 u hu) (h0 u hu)
 rw [Rat.div_def]
 exact Rat.mul_pos (natR_pos d1) (Rat.inv_pos.2 (natR_pos g0))
theorem prim_int {us : List QT} (h0 : ∀ u ∈ us, u.2 ≠ 0) : ∀ u ∈ us, intQ (u.2 * prim us) := by
 intro u hu
 have hne : us ≠ [] := fun e => by rw [e] at hu; cases hu
 have d1 : lcmU 1 us ≠ 0 := lcmU_pos (by omega)
 have v1 := (lcmU_dvd (us := us) (d := 1)).2
 unfold prim gcdU
 generalize lcmU 1 us = D at *
 have g0 : us.foldl (fun g u => Nat.gcd g (zU D u).natAbs) 0 ≠ 0 := gcdU_ne0 (.inr hne) fun u hu => zU_ne d1 (v1 u hu) (h0 u hu)
 have gd := (lcm_gcd_dvd (D := D) us 0).2 u hu
 generalize us.foldl (fun g u => Nat.gcd g (zU D u).natAbs) 0 = G at *
 have hz := zU_eq (v1 u hu)
 obtain ⟨y, hy⟩ := Int.ofNat_dvd_left.2 gd
 have e : u.2 * (((D : Int) : Rat) / ((G : Int) : Rat)) = (y : Rat) := by
  have n1 := natR g0
  have h2 : u.2 * ((D : Int) : Rat) = ((G : Int) : Rat) * (y : Rat) := by rw [hz, hy, Rat.intCast_mul]
  rw [Rat.div_def, ← Rat.mul_assoc, h2]
  grind
 unfold intQ
 rw [e]; rfl
theorem prim_neg (us : List QT) : prim (mulU us (-1)) = prim us := by
 have hd : ∀ u : QT, (u.2 * -1).den = u.2.den := fun u => by
  rw [Rat.mul_neg, Rat.mul_one]; rfl
 have hn : ∀ u : QT, (u.2 * -1).num = -u.2.num := fun u => by
  rw [Rat.mul_neg, Rat.mul_one]; rfl
 have h1 : ∀ (us : List QT) (d : Nat), lcmU d (mulU us (-1)) = lcmU d us := by
  intro us
  induction us with
  | nil => exact fun _ => rfl
  | cons u us ih =>
   intro d
   show lcmU (Nat.lcm d (u.2 * -1).den) (mulU us (-1)) = lcmU (Nat.lcm d u.2.den) us
   rw [ih, hd]
 have h2 : ∀ (D : Nat) (us : List QT) (g : Nat), (mulU us (-1)).foldl (fun g u => Nat.gcd g (zU D u).natAbs) g = us.foldl (fun g u => Nat.gcd g (zU D u).natAbs) g := by
  intro D us
  induction us with
  | nil => exact fun _ => rfl
  | cons u us ih =>
   intro g
   rw [mulU_cons, List.foldl_cons, List.foldl_cons, ih]
   have : (zU D (u.1, u.2 * -1)).natAbs = (zU D u).natAbs := by
    unfold zU
    show ((u.2 * -1).num * ((D / (u.2 * -1).den : Nat) : Int)).natAbs = _
    rw [hd, hn, Int.neg_mul, Int.natAbs_neg]
   rw [this]
 unfold prim gcdU
 rw [h1, h2]
theorem kQ_cases (rel : Int) (us : List QT) : kQ rel us = prim us ∨ (rel = 3 ∧ (us.getD 0 ([], 0)).2.num < 0 ∧ kQ rel us = -prim us) := by
 unfold kQ
 split
 ·rename_i h; exact .inr ⟨h.1, h.2, rfl⟩
 ·exact .inl rfl
theorem kQ_ne {rel : Int} {us : List QT} (hne : us ≠ []) (h0 : ∀ u ∈ us, u.2 ≠ 0) : kQ rel us ≠ 0 := by
 have hp := prim_pos hne h0
 rcases kQ_cases rel us with h | ⟨_, _, h⟩
 ·rw [h]; exact pos_ne hp
 ·rw [h]
  intro e
  exact pos_ne hp (by rw [← Rat.neg_neg (prim us), e, Rat.neg_zero])
theorem kQ_int {rel : Int} {us : List QT} (h0 : ∀ u ∈ us, u.2 ≠ 0) : ∀ u ∈ us, intQ (u.2 * kQ rel us) := by
 intro u hu
 have h1 := prim_int h0 u hu
 rcases kQ_cases rel us with h | ⟨_, _, h⟩
 ·rw [h]; exact h1
 ·rw [h, Rat.mul_neg]
  unfold intQ at h1 ⊢
  conv => lhs; rw [h1]
  rw [← Rat.intCast_neg]; rfl
theorem prim_kQ {rel : Int} {us : List QT} (hne : us ≠ []) (h0 : ∀ u ∈ us, u.2 ≠ 0) : prim (mulU us (kQ rel us)) = 1 := by
 have hp := prim_pos hne h0
 have h1 : prim (mulU us (prim us)) = 1 := by
  rw [prim_scale hp hne h0, Rat.div_def, Rat.mul_inv_cancel _ (pos_ne hp)]
 rcases kQ_cases rel us with h | ⟨_, _, h⟩
 ·rw [h]; exact h1
 ·rw [h, ← Rat.mul_one (prim us), ← Rat.mul_neg, ← mulU_mul, prim_neg]; exact h1
theorem kQ_kQ {rel : Int} {us : List QT} (hne : us ≠ []) (h0 : ∀ u ∈ us, u.2 ≠ 0) : kQ rel (mulU us (kQ rel us)) = 1 := by
 have h1 := prim_kQ (rel := rel) hne h0
 have hp := prim_pos hne h0
 unfold kQ at h1 ⊢
 rw [if_neg, h1]
 rintro ⟨hr, hn⟩
 have e : ∀ q, ((mulU us q).getD 0 ([], 0)).2 = (us.getD 0 ([], 0)).2 * q := by
  intro q
  cases us with
  | nil => exact absurd rfl hne
  | cons u us => rfl
 rw [e] at hn
 by_cases hh : rel = 3 ∧ (us.getD 0 ([], 0)).2.num < 0
 ·rw [if_pos hh, Rat.mul_neg] at hn
  have h2 := (num_mul_neg (q := (us.getD 0 ([], 0)).2) hp).2 hh.2
  have h3 : (-((us.getD 0 ([], 0)).2 * prim us)).num = -((us.getD 0 ([], 0)).2 * prim us).num := rfl
  omega
 ·rw [if_neg hh] at hn
  exact hh ⟨hr, (num_mul_neg hp).1 hn⟩
theorem mulU_one (us : List QT) : mulU us 1 = us := by
 unfold mulU
 conv => rhs; rw [← List.map_id us]
 exact List.map_congr_left fun u _ => by simp [Rat.mul_one]
theorem scU_one (us : List QT) : scU us 1 = us := by rw [scU_ne (by decide), mulU_one]
theorem sum_int {us : List QT} {f : Bs → Rat} (h1 : ∀ u ∈ us, intQ u.2) (h2 : ∀ n, intQ (f n)) : intQ (sumQ us f) := by
 induction us with
 | nil => rfl
 | cons u us ih =>
  have e1 := h1 u (by simp)
  have e2 := h2 u.1
  have e3 := ih fun v hv => h1 v (by simp [hv])
  unfold intQ at *
  simp only [sumQ]
  generalize sumQ us f = s at *
  rw [e1, e2, e3, ← Rat.intCast_mul, ← Rat.intCast_add]
  rfl
theorem flQ_fl (q : Rat) : flQ q = q.floor := by
 unfold flQ
 rw [Rat.floor_def]
theorem flQ_iff {z : Int} {q : Rat} : z ≤ flQ q ↔ (z : Rat) ≤ q := by rw [flQ_fl]; exact Rat.le_floor_iff
theorem flQ_int (z : Int) : flQ (z : Rat) = z := by
 unfold flQ
 show z / ((1 : Nat) : Int) = z
 omega
theorem sgn_le {q : Rat} : sgn q ≤ 0 ↔ q ≤ 0 := by
 rcases sgn_cases q with ⟨h1, h2⟩ | ⟨h1, h2⟩ | ⟨h1, h2⟩
 ·have h : ¬ 0 ≤ q := fun h => by have := Rat.num_nonneg.2 h; omega
  rw [h2]
  exact ⟨fun _ => Rat.le_of_lt (Rat.not_le.1 h), fun _ => by decide⟩
 ·rw [h2, h1]; exact ⟨fun _ => Rat.le_refl, fun _ => by decide⟩
 ·have h : 0 < q := num_pos.1 h1
  rw [h2]
  exact ⟨fun h => absurd h (by decide), fun h' => absurd h' (Rat.not_le.2 h)⟩
theorem sgn_lt {q : Rat} : sgn q < 0 ↔ q < 0 := by
 rcases sgn_cases q with ⟨h1, h2⟩ | ⟨h1, h2⟩ | ⟨h1, h2⟩
 ·have h : ¬ 0 ≤ q := fun h => by have := Rat.num_nonneg.2 h; omega
  rw [h2]
  exact ⟨fun _ => Rat.not_le.1 h, fun _ => by decide⟩
 ·rw [h2, h1]; exact ⟨fun h => absurd h (by decide), fun h => absurd h (by decide)⟩
 ·have h : 0 < q := num_pos.1 h1
  rw [h2]
  exact ⟨fun h => absurd h (by decide), fun h' => absurd (Rat.le_of_lt h) (Rat.not_le.2 h')⟩
theorem hold1 (v : Rat) (M : Nat) : holdQ 1 v M = decide (v ≤ 0) := by
 unfold holdQ cmpQ
 simp only [sgn_le]
 rfl
theorem hold2 (v : Rat) (M : Nat) : holdQ 2 v M = decide (v < 0) := by
 unfold holdQ cmpQ
 simp only [sgn_lt]
 rfl
theorem hold3 (v : Rat) (M : Nat) : holdQ 3 v M = decide (v = 0) := rfl
theorem hold_scale {rel : Int} (hr : rel = 1 ∨ rel = 2) {v k : Rat} (hk : 0 < k) (M N : Nat) : holdQ rel (v * k) M = holdQ rel v N := by
 rcases hr with rfl | rfl
 ·rw [show holdQ 1 (v * k) M = decide (sgn (v * k) ≤ 0) from rfl, sgn_mul hk]; rfl
 ·rw [show holdQ 2 (v * k) M = decide (sgn (v * k) < 0) from rfl, sgn_mul hk]; rfl
theorem truQ_con (kd : Int) (b : Bool) : truQ kd b = conQ (if b then 1 else 2) kd [] 0 [] := by
 unfold truQ conQ
 rw [rs_zero]
 rfl
theorem tru_hold (b : Bool) (M : Nat) : holdQ (if b then 1 else 2) ((0 : Rat) + sumQ [] (fun _ => 0)) M = b := by
 have e : (0 : Rat) + sumQ [] (fun _ => 0) = 0 := Rat.add_zero 0
 rw [e]
 cases b
 ·show holdQ 2 0 M = false
  rw [hold2]; decide
 ·show holdQ 1 0 M = true
  rw [hold1]; decide
theorem tru_norm (kd : Int) (b : Bool) : nrmV (if b then 1 else 2) kd [] 0 = truQ kd b := by
 unfold nrmV
 rw [if_pos rfl]
 cases b <;> rfl
end Go.PE
namespace Go.PE
open Go.RowKit Go.Proofs.Tryz
set_option maxRecDepth 100000
variable {k : Nat}
theorem evL_cases {kd : Int} {es : List Bq} {A L : Nat} (he : ∀ e ∈ es, okBL L e) : ∀ (us : List QT) (s : Rat) (i : Nat), (∀ u ∈ us, szQ u.2 A) → szQ s (bdL A L i) →
  (∃ v, evL kd es us s = (rs v, 0) ∧ szQ v (bdL A L (i + us.length))) ∨ ∃ e : Int, e ≠ 0 ∧ evL kd es us s = ([], e)
 | [], s, i, _, h => .inl ⟨s, rfl, h⟩
 | u :: us, s, i, hs, h => by
  rw [evL_cons]
  by_cases h1 : fiQ es (nmP u.1) < 0
  ·rw [if_pos h1]
   exact .inr ⟨7, by decide, rfl⟩
  ·rw [if_neg h1]
   obtain ⟨j, hj, hjl⟩ := fi_pos h1
   rw [hj, Int.toNat_natCast]
   have hm : es.getD j ([], 1, 0) ∈ es := by simp [List.getD, List.getElem?_eq_getElem hjl]
   by_cases h2 : (es.getD j ([], 1, 0)).2.1 ≠ kd
   ·rw [if_pos h2]
    exact .inr ⟨3, by decide, rfl⟩
   ·rw [if_neg h2]
    have h3 := evL_cases (kd := kd) he us (s + u.2 * (es.getD j ([], 1, 0)).2.2) (i + 1) (fun w hw => hs w (by simp [hw])) (szQ_add h (szQ_mul (hs u (by simp)) (he _ hm).2))
    rw [List.length_cons, show i + (us.length + 1) = i + 1 + us.length by omega]
    exact h3
theorem holds_T {rel kd : Int} {us : List QT} {q v : Rat} {m : Bs} {M : Nat} {es : List Bq} (hk : kd = 2 ∨ kd = 3) (hu : okU us) (hg : goodU us) (hl : us.length ≤ 4) (hq : szQ q 1000) (hm : okM rel kd m M) (hes : es.length < 1000000) (he : ∀ e ∈ es, okB e)
  (hv : evL kd es us q = (rs v, 0)) (hz : szQ v 100000) : T (k + 14) 47 [conQ rel kd us q m, .imm 6 (erow es)] = some (.tup [.bool (holdQ rel v M), .int .i64 0], []) := by
 have h1 := valid_V (k := k) hk hu hg hq hm
 have h2 := eval_T (k := k + 1) hk hu hl (fun u h => (hg.2 u h).1) hq (by omega) hes he
 rw [hv] at h2
 have hlz := hz.len
 have h3 := fun hr => compare_T (k := k + 5) rel v hr (by omega)
 rcases hm with ⟨rfl, hr⟩ | ⟨rfl, hr, hM0, rfl, hM⟩
 ·have h3 := h3 hr
  have e : holdQ rel v M = cmpQ rel v := by unfold holdQ; rw [if_pos (by omega)]
  rw [e]
  rcases hr with rfl | rfl | rfl
  all_goals
   refine enter rfl func47 rfl (by decide) (by kernel_rfl) rfl rfl ?_
   refine zs1 h1 ?_
   refine zs2 h2 ?_
   refine zs2 h3 ?_
   rfl
 ·have h4 := div_Q (k := k + 4) v ((M : Int) : Rat) (natR hM0) (L := 100000) hz (szZ (by show (dec M).length ≤ _; omega)) (by omega)
  have hzz := (szQ_div (natR hM0) hz (szZ (a := (M : Int)) hM)).len
  have h5 := isInt_Q (k := k + 9) (v / ((M : Int) : Rat)) (by omega)
  have hd0 : rs ((M : Int) : Rat) ≠ [] := by rw [rs_nat]; exact dec_ne M
  have e : holdQ rel v M = (decide ((v / ((M : Int) : Rat)).den = 1) == decide (rel = 4)) := by unfold holdQ; rw [if_neg (by omega)]
  rw [e]
  generalize rs ((M : Int) : Rat) = w at *
  rcases hr with rfl | rfl
  ·rw [show (decide ((v / ((M : Int) : Rat)).den = 1) == decide ((4 : Int) = 4)) = decide ((v / ((M : Int) : Rat)).den = 1) by simp]
   refine enter rfl func47 rfl (by decide) (by kernel_rfl) rfl rfl ?_
   refine zs1 h1 ?_
   refine zs2 h2 ?_
   refine WX.boolM rfl rfl (fun c1 => ?_) (fun c1 => ?_)
   ·refine zs1 h4 ?_
    refine zs2 h5 ?_
    refine WX.moveB rfl rfl ?_
    refine zs0 ?_
    rfl
   ·exact absurd (of_decide_eq_false c1) (fun h => h hd0)
  ·rw [show (decide ((v / ((M : Int) : Rat)).den = 1) == decide ((5 : Int) = 4)) = !decide ((v / ((M : Int) : Rat)).den = 1) by simp]
   refine enter rfl func47 rfl (by decide) (by kernel_rfl) rfl rfl ?_
   refine zs1 h1 ?_
   refine zs2 h2 ?_
   refine WX.boolM rfl rfl (fun c1 => ?_) (fun c1 => ?_)
   ·refine zs1 h4 ?_
    refine zs2 h5 ?_
    refine WX.moveB rfl rfl ?_
    refine zs0 ?_
    rfl
   ·exact absurd (of_decide_eq_false c1) (fun h => h hd0)
theorem holdsE_T {rel kd : Int} {us : List QT} {q : Rat} {m : Bs} {M : Nat} {es : List Bq} {e : Int} (hk : kd = 2 ∨ kd = 3) (hu : okU us) (hg : goodU us) (hl : us.length ≤ 4) (hq : szQ q 1000) (hm : okM rel kd m M) (hes : es.length < 1000000) (he : ∀ e ∈ es, okB e)
  (hv : evL kd es us q = ([], e)) (h0 : e ≠ 0) : T (k + 14) 47 [conQ rel kd us q m, .imm 6 (erow es)] = some (.tup [.bool false, .int .i64 e], []) := by
 have h1 := valid_V (k := k) hk hu hg hq hm
 have h2 := eval_T (k := k + 1) hk hu hl (fun u h => (hg.2 u h).1) hq (by omega) hes he
 rw [hv] at h2
 refine enter rfl func47 rfl (by decide) (by kernel_rfl) rfl rfl ?_
 refine zs1 h1 ?_
 refine zs2 h2 ?_
 refine W.cond rfl (fun c1 => ?_) (fun c1 => ?_)
 ·refine zs0 ?_
  rfl
 ·exact absurd (of_decide_eq_false c1) (fun h => h h0)
theorem rholds_T {rel kd : Int} {us : List QT} {q v : Rat} {m : Bs} {M : Nat} {es : List Bq} (hk : kd = 2 ∨ kd = 3) (hu : okU us) (hg : goodU us) (hl : us.length ≤ 4) (hq : szQ q 1000) (hm : okM rel kd m M) (hes : es.length < 1000000) (he : ∀ e ∈ es, okB e)
  (hv : evL kd es us q = (rs v, 0)) (hz : szQ v 100000) : T (k + 14) 48 [conQ rel kd us q m, .imm 6 (erow es)] = some (.tup [.bool (holdQ rel v M), .int .i64 0], []) := by
 have h1 := rvalid_V (k := k) hk hu hg hq hm
 have h2 := reval_T (k := k + 1) hk hu hl (fun u h => (hg.2 u h).1) hq (by omega) hes he
 rw [hv] at h2
 have hlz := hz.len
 have h3 := rsign_Q (k := k + 6) v (by omega)
 rcases hm with ⟨rfl, hr⟩ | ⟨rfl, hr, hM0, rfl, hM⟩
 ·have e : holdQ rel v M = cmpQ rel v := by unfold holdQ; rw [if_pos (by omega)]
  rw [e]
  rcases hr with rfl | rfl | rfl
  ·refine enter rfl func48 rfl (by decide) (by kernel_rfl) rfl rfl ?_
   refine zs1 h1 ?_
   refine zs2 h2 ?_
   refine zs2 h3 ?_
   rfl
  ·refine enter rfl func48 rfl (by decide) (by kernel_rfl) rfl rfl ?_
   refine zs1 h1 ?_
   refine zs2 h2 ?_
   refine zs2 h3 ?_
   rfl
  ·have e : cmpQ 3 v = decide (rs v = [48]) := by
    show decide (v = 0) = _
    simp only [rs_is0]
   rw [e]
   refine enter rfl func48 rfl (by decide) (by kernel_rfl) rfl rfl ?_
   refine zs1 h1 ?_
   refine zs2 h2 ?_
   rfl
 ·have h4 := rdiv_T (k := k + 6) v ((M : Int) : Rat) (natR hM0) (hz.sm (by omega)) ((szZ (a := (M : Int)) hM).sm (by omega))
  have hzz := (szQ_div (natR hM0) hz (szZ (a := (M : Int)) hM)).len
  have h5 := risInt_Q (k := k + 6) (v / ((M : Int) : Rat)) (by omega)
  have e : holdQ rel v M = (decide ((v / ((M : Int) : Rat)).den = 1) == decide (rel = 4)) := by unfold holdQ; rw [if_neg (by omega)]
  rw [e]
  generalize rs ((M : Int) : Rat) = w at *
  rcases hr with rfl | rfl
  all_goals
   refine enter rfl func48 rfl (by decide) (by kernel_rfl) rfl rfl ?_
   refine zs1 h1 ?_
   refine zs2 h2 ?_
   refine zd2 h4 ?_
   refine zd5 h5 ?_
   rfl
theorem rholdsE_T {rel kd : Int} {us : List QT} {q : Rat} {m : Bs} {M : Nat} {es : List Bq} {e : Int} (hk : kd = 2 ∨ kd = 3) (hu : okU us) (hg : goodU us) (hl : us.length ≤ 4) (hq : szQ q 1000) (hm : okM rel kd m M) (hes : es.length < 1000000) (he : ∀ e ∈ es, okB e)
  (hv : evL kd es us q = ([], e)) (h0 : e ≠ 0) : T (k + 14) 48 [conQ rel kd us q m, .imm 6 (erow es)] = some (.tup [.bool false, .int .i64 e], []) := by
 have h1 := rvalid_V (k := k) hk hu hg hq hm
 have h2 := reval_T (k := k + 1) hk hu hl (fun u h => (hg.2 u h).1) hq (by omega) hes he
 rw [hv] at h2
 refine enter rfl func48 rfl (by decide) (by kernel_rfl) rfl rfl ?_
 refine zs1 h1 ?_
 refine zs2 h2 ?_
 refine W.cond rfl (fun c1 => ?_) (fun c1 => ?_)
 ·refine zs0 ?_
  rfl
 ·exact absurd (of_decide_eq_false c1) (fun h => h h0)
end Go.PE
namespace Go.PE
open Go.RowKit Go.Proofs.Tryz
set_option maxRecDepth 100000
variable {k : Nat}
theorem numK_sz (kd : Int) (c : Ch) : szQ (numK kd c).1 1000 ∧ (kd = 2 → (numK kd c).1.den = 1) := by
 unfold numK
 split
 ·exact ⟨szZ (Nat.le_trans (dec_len_le (k := 30) (by omega) (intN_lt c)) (by omega)), fun _ => rfl⟩
 ·rename_i h
  exact ⟨(numQ_sz c).mono (by omega), fun e => absurd e h⟩
theorem env_fold {kd : Int} (hk : kd = 2 ∨ kd = 3) : ∀ (l : List Bs) (st : Ch × List Bd) (es0 : List Bq), brow st.2 = erow es0 →
  ∃ es1 : List Bq, brow (l.foldl (envS kd) st).2 = erow (es0 ++ es1) ∧ es1.map (·.1) = l ∧ ∀ e ∈ es1, okB e ∧ e.2.1 = kd
 | [], st, es0, h => ⟨[], by rw [List.append_nil]; exact h, rfl, fun e he => by cases he⟩
 | x :: l, st, es0, h => by
  obtain ⟨h1, h2⟩ := numK_sz kd st.1
  have hb : brow (envS kd st x).2 = erow (es0 ++ [(x, kd, (numK kd st.1).1)]) := by
   have e : bcell (x, kd, (numK kd st.1).1) = [.str x, .int .i64 kd, .bool false, .str (rs (numK kd st.1).1), .imm 1 [], .imm 1 []] := by
    unfold bcell bqS
    rw [if_neg (show ¬ (x, kd, (numK kd st.1).1).2.1 = 1 by show ¬ kd = 1; omega)]
   unfold envS brow erow at *
   rw [List.map_append, List.map_append, h]
   simp only [List.map_cons, List.map_nil, e]
  obtain ⟨es1, g1, g2, g3⟩ := env_fold hk l (envS kd st x) _ hb
  refine ⟨(x, kd, (numK kd st.1).1) :: es1, by rw [List.foldl_cons, g1, List.append_assoc]; rfl, by rw [List.map_cons, g2], fun e he => ?_⟩
  rcases List.mem_cons.1 he with rfl | he
  ·refine ⟨⟨?_, h1⟩, rfl⟩
   rcases hk with rfl | rfl
   ·exact .inr (.inl ⟨rfl, h2 rfl⟩)
   ·exact .inr (.inr rfl)
  ·exact g3 e he
theorem env_ex {kd : Int} (hk : kd = 2 ∨ kd = 3) (c : Ch) : ∃ es : List Bq, brow (envC kd c).2 = erow es ∧ es.map (·.1) = vars ∧ ∀ e ∈ es, okB e ∧ e.2.1 = kd := by
 obtain ⟨es, h1, h2, h3⟩ := env_fold hk vars (c, []) [] rfl
 exact ⟨es, h1, h2, h3⟩
theorem envQ_T (l : List Int) {kd : Int} (hk : kd = 2 ∨ kd = 3) : ∃ (es : List Bq) (C : Ch), es.map (·.1) = vars ∧ (∀ e ∈ es, okB e ∧ e.2.1 = kd) ∧ T 20 44 [.box (0, 0) (chC (l.take 400, 0)), .int .i64 kd] = some (.own (0, 0) 6 (erow es), [chC C]) := by
 have hc0 : okCh (l.take 400, 0) := ⟨by simp only [List.length_take]; omega, by simp only; omega⟩
 generalize (l.take 400, 0) = C0 at *
 obtain ⟨es, h1, h2, h3⟩ := env_ex hk C0
 have h := linEnv_T (k := 9) C0 hc0 kd
 rw [h1] at h
 exact ⟨es, (envC kd C0).1, h2, h3, h⟩
end Go.PE
