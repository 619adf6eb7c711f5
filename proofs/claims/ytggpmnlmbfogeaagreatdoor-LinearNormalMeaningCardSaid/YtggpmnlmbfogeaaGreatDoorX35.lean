/-
  A part of the proof that the law's function returns true and leaves its arguments as they were, for every input (no condition): own lemmas of the proof, in the order of their use.
-/
import Derived.Test.YtggpmnlmbfogeaaGreatDoorX31
import Derived.Test.YtggpmnlmbfogeaaGreatDoorX30
set_option linter.all false
namespace Go.PE
open Go.RowKit Go.Proofs.Tryz
set_option maxRecDepth 100000
variable {k : Nat}
def fiQ {α : Type} (us : List α) (p : α → Bool) : Int := if us.findIdx p < us.length then (us.findIdx p : Int) else -1
theorem fi_hit {α : Type} {us : List α} {p : α → Bool} {i : Nat} {d : α} (hi : i < us.length) (h1 : ∀ w ∈ us.take i, p w = false) (h2 : p (us.getD i d) = true) : fiQ us p = i := by
 have h3 : us.findIdx p = i := by
  rw [List.findIdx_eq hi]
  have e : us.getD i d = us[i] := by simp [List.getD, List.getElem?_eq_getElem hi]
  refine ⟨by rw [← e]; exact h2, fun j hj => h1 _ ?_⟩
  rw [List.mem_take_iff_getElem]
  exact ⟨j, by omega, rfl⟩
 unfold fiQ
 rw [h3, if_pos hi]
theorem fi_miss {α : Type} {us : List α} {p : α → Bool} (h : ∀ w ∈ us, p w = false) : fiQ us p = -1 := by
 unfold fiQ
 rw [List.findIdx_eq_length.2 h, if_neg (by omega)]
theorem fi_any {α : Type} (us : List α) (p : α → Bool) : decide (0 ≤ fiQ us p) = us.any p := by
 unfold fiQ
 by_cases h : us.any p = true
 ·have : us.findIdx p < us.length := List.findIdx_lt_length.2 (by simpa using List.any_eq_true.1 h)
  rw [if_pos this, h]
  exact decide_eq_true (by omega)
 ·have h : us.any p = false := by simpa using h
  have : ¬ us.findIdx p < us.length := fun hh => by
   have := List.findIdx_lt_length.1 hh
   obtain ⟨x, hx, hp⟩ := this
   have : us.any p = true := List.any_eq_true.2 ⟨x, hx, hp⟩
   rw [h] at this; cases this
  rw [if_neg this, h]
  rfl
theorem take_snocG {α : Type} {us : List α} {i : Nat} {d : α} (h : i < us.length) : us.take (i + 1) = us.take i ++ [us.getD i d] := by
 rw [List.take_succ, List.getElem?_eq_getElem h]
 simp [List.getD, List.getElem?_eq_getElem h]
def wholeQ (us : List QT) (c : Rat) : Bool := decide (c.den = 1) && us.all fun u => decide (u.2.den = 1)
def niQ (u : QT) : Bool := !decide (u.2.den = 1)
theorem whole1_T (u : QT) (h : (rs u.2).length < 150994900) : T (k + 5) 196 [.agg [.str u.1, .str (rs u.2)]] = some (.bool (niQ u), []) := by
 have h1 := isInt_Q (k := k) u.2 h
 refine enter rfl func196 rfl (by decide) (by kernel_rfl) rfl rfl ?_
 refine zs1 h1 ?_
 rfl
theorem idxC_T (us : List QT) (hs : ∀ u ∈ us, (rs u.2).length < 150994900) (hl : us.length < 268435456) : T (k + 6) 245 [.imm 2 (trow (tx us)), .func 196 []] = some (.int .i64 (fiQ us niQ), []) := by
 refine enter rfl func245 rfl (by decide) (by kernel_rfl) rfl rfl ?_
 refine zs0 ?_
 refine W.loop (fun e m => ∃ (i : Nat), e = [(0, .imm 2 (trow (tx us))), (1, .func 196 []), (7, .int .i64 (trow (tx us)).length), (8, .int .i64 i)] ∧ i ≤ us.length ∧ (∀ w ∈ us.take i, niQ w = false) ∧ m = us.length - i) us.length ?_ ?_ ?_
 ·exact ⟨0, rfl, by omega, by simp, by omega⟩
 ·show _ < 4611686018427387904; omega
 ·rintro e m ⟨i, rfl, hi, hno, rfl⟩
  refine zs0 ?_
  refine W.cond rfl (fun hlt => ?_) (fun hlt => ?_)
  ·have hlt := of_decide_eq_true hlt
   rw [trow_len, tx_len, idx_eq] at hlt
   have hget := tx_get (us := us) (i := i) hlt
   have hm := getD_mem hlt
   have h1 := whole1_T (k := k) (us.getD i ([], 0)) (hs _ hm)
   have htk := take_snoc hlt
   have hhit := fi_hit (p := niQ) (d := (([], 0) : QT)) hlt hno
   generalize us.getD i ([], 0) = u at *
   refine zs0 ?_
   refine WX.idxImm tab_eq rfl rfl rfl rfl rfl rfl (by omega) (hget) ?_
   refine zs1 h1 ?_
   refine W.cond rfl (fun c1 => ?_) (fun c1 => ?_)
   ·refine zs0 ?_
    rw [hhit c1]
    rfl
   ·refine zs0 ?_
    rw [wrap_i64 (x := (i : Int) + 1) (by omega) (by omega)]
    show ∃ m', _
    refine ⟨us.length - (i + 1), by omega, i + 1, rfl, by omega, fun w hw => ?_, rfl⟩
    rw [htk] at hw
    rcases List.mem_append.1 hw with hw | hw
    ·exact hno w hw
    ·obtain rfl := List.mem_singleton.1 hw
     exact c1
  ·have hlt := of_decide_eq_false hlt
   rw [trow_len, tx_len, idx_eq] at hlt
   have hie : i = us.length := by omega
   subst hie
   rw [List.take_length] at hno
   rw [fi_miss hno]
   refine zs0 ?_
   rfl
theorem whole_T (kd : Int) (us : List QT) (c : Rat) (hs : ∀ u ∈ us, (rs u.2).length < 150994900) (hc : (rs c).length < 150994900) (hl : us.length < 268435456) :
  T (k + 8) 115 [linP kd us c] = some (.bool (wholeQ us c), []) := by
 have h1 := isInt_Q (k := k + 3) c hc
 have h2 : T (k + 7) 195 [.imm 2 (trow (tx us)), .func 196 []] = some (.bool (us.any niQ), []) := by
  have h3 := idxC_T (k := k) us hs hl
  rw [← fi_any]
  refine enter rfl func195 rfl (by decide) (by kernel_rfl) rfl rfl ?_
  refine zs1 h3 ?_
  rfl
 have e : (us.all fun u => decide (u.2.den = 1)) = !us.any niQ := by
  rw [List.not_any_eq_all_not]
  congr 1
  funext u
  simp [niQ]
 unfold wholeQ
 rw [e]
 cases hd : decide (c.den = 1)
 ·rw [hd] at h1
  refine enter rfl func115 rfl (by decide) (by kernel_rfl) rfl rfl ?_
  refine zs1 h1 ?_
  rfl
 ·rw [hd] at h1
  refine enter rfl func115 rfl (by decide) (by kernel_rfl) rfl rfl ?_
  refine zs1 h1 ?_
  refine zs2 h2 ?_
  rfl
theorem risInt_Q (q : Rat) (h : (rs q).length < 268435456) : T (k + 7) 52 [.str (rs q)] = some (.bool (decide (q.den = 1)), []) := by
 have h1 := risInt_T (k := k) (rs q) h
 rw [rd_rs] at h1
 exact h1
theorem rwhole_T (kd : Int) (us : List QT) (c : Rat) (hs : ∀ u ∈ us, (rs u.2).length < 268435456) (hc : (rs c).length < 268435456) (hl : us.length < 268435456) :
  T (k + 8) 116 [linP kd us c] = some (.bool (wholeQ us c), []) := by
 have h0 := risInt_Q (k := k) c hc
 refine enter rfl func116 rfl (by decide) (by kernel_rfl) rfl rfl ?_
 refine zs0 ?_
 refine W.loop (fun e m => ∃ (i : Nat), e = [(1, .box (0, 0) [.int .i64 kd, .imm 2 (trow (tx us)), .str (rs c)]), (3, .int .i64 i)] ∧ i ≤ us.length ∧ (∀ w ∈ us.take i, decide (w.2.den = 1) = true) ∧ m = us.length - i) us.length ?_ ?_ ?_
 ·exact ⟨0, rfl, by omega, by simp, by omega⟩
 ·show _ < 4611686018427387904; omega
 ·rintro e m ⟨i, rfl, hi, hno, rfl⟩
  refine zs0 ?_
  refine W.cond rfl (fun hlt => ?_) (fun hlt => ?_)
  ·have hlt := of_decide_eq_true hlt
   rw [trow_len, tx_len, idx_eq] at hlt
   have hget := tx_get (us := us) (i := i) hlt
   have hm := getD_mem hlt
   have h1 := risInt_Q (k := k) (us.getD i ([], 0)).2 (hs _ hm)
   have htk := take_snoc hlt
   generalize us.getD i ([], 0) = u at *
   refine zs0 ?_
   refine WX.idxImm tab_eq rfl rfl rfl rfl rfl rfl (by omega) (hget) ?_
   refine zs1 h1 ?_
   refine W.cond rfl (fun c1 => ?_) (fun c1 => ?_)
   ·have c1 : decide (u.2.den = 1) = false := by simpa using c1
    have e : wholeQ us c = false := by
     unfold wholeQ
     rw [show (us.all fun u => decide (u.2.den = 1)) = false from List.all_eq_false.2 ⟨u, hm, by rw [c1]; decide⟩, Bool.and_false]
    rw [e]
    refine zs0 ?_
    rfl
   ·have c1 : decide (u.2.den = 1) = true := by simpa using c1
    refine zs0 ?_
    rw [wrap_i64 (x := (i : Int) + 1) (by omega) (by omega)]
    show ∃ m', _
    refine ⟨us.length - (i + 1), by omega, i + 1, rfl, by omega, fun w hw => ?_, rfl⟩
    rw [htk] at hw
    rcases List.mem_append.1 hw with hw | hw
    ·exact hno w hw
    ·obtain rfl := List.mem_singleton.1 hw
     exact c1
  ·have hlt := of_decide_eq_false hlt
   rw [trow_len, tx_len, idx_eq] at hlt
   have hie : i = us.length := by omega
   subst hie
   rw [List.take_length] at hno
   have e : wholeQ us c = decide (c.den = 1) := by
    unfold wholeQ
    rw [List.all_eq_true.2 hno, Bool.and_true]
   rw [e]
   refine zs1 h0 ?_
   rfl
end Go.PE
