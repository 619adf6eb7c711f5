/-
  A part of the proof that the law's function returns true and leaves its arguments as they were, for every input (no condition): own lemmas of the proof, in the order of their use.
-/
import Derived.Test.YtggpmnlmbfogeaaGreatDoorX23
set_option linter.all false
namespace Go.PE
open Go.RowKit Go.Proofs.Tryz
set_option maxRecDepth 100000
variable {k : Nat}
def irow (l : List Nat) : List (List PV) := l.map fun (n : Nat) => [.int .i64 (n : Int)]
theorem irow_get {l : List Nat} {i : Nat} (h : i < l.length) : (irow l)[i]? = some [.int .i64 (l.getD i 0 : Nat)] := by
 unfold irow
 rw [List.getElem?_map, List.getElem?_eq_getElem h]
 simp [List.getD, List.getElem?_eq_getElem h]
theorem irow_len (l : List Nat) : (irow l).length = l.length := by simp [irow]
theorem irow_set (l : List Nat) (i x : Nat) : (irow l).set i [.int .i64 (x : Int)] = irow (l.set i x) := by simp [irow, List.map_set]
theorem irow_rep (n : Nat) : List.replicate n [PV.int .i64 0] = irow (List.replicate n 0) := by simp [irow]
def dval : List Nat → Nat
 | [] => 0
 | a :: l => a * 10 ^ l.length + dval l
theorem dval_rep : ∀ n, dval (List.replicate n 0) = 0
 | 0 => rfl
 | n + 1 => by rw [List.replicate_succ, dval, dval_rep n]; simp
theorem dval_set : ∀ (l : List Nat) (i x : Nat), i < l.length → dval (l.set i (l.getD i 0 + x)) = dval l + x * 10 ^ (l.length - 1 - i)
 | [], i, x, h => by simp at h
 | a :: l, 0, x, h => by
  simp only [List.set_cons_zero, List.getD_cons_zero, dval, List.length_cons, Nat.add_sub_cancel, Nat.sub_zero]
  rw [Nat.add_mul]; omega
 | a :: l, i + 1, x, h => by
  have hi : i < l.length := by simpa using h
  rw [List.set_cons_succ, List.getD_cons_succ, dval, dval, dval_set l i x hi, List.length_set, List.length_cons, show l.length + 1 - 1 - (i + 1) = l.length - 1 - i by omega]
  omega
theorem dval_drop {l : List Nat} {i : Nat} (h : i < l.length) : dval (l.drop i) = l.getD i 0 * 10 ^ (l.length - 1 - i) + dval (l.drop (i + 1)) := by
 rw [List.drop_eq_getElem_cons h, dval, List.length_drop, show l.length - (i + 1) = l.length - 1 - i by omega]
 simp [List.getD, List.getElem?_eq_getElem h]
theorem getD_setN {l : List Nat} {i j x M : Nat} (h : l.getD j 0 ≤ M) (hx : x ≤ M) : (l.set i x).getD j 0 ≤ M := by
 simp only [List.getD, List.getElem?_set]
 split
 ·split
  ·simpa using hx
  ·simp
 ·exact h
theorem dg_getD {s : Bs} {i : Nat} (h : s.all isDg = true) (hi : i < s.length) : (s.getD i 0).toNat = 48 + dv (s.getD i 0) := by
 have := getD_dg h hi
 rw [isDg_eq] at this
 simp only [Bool.and_eq_true, decide_eq_true_eq] at this
 unfold dv; omega
theorem tmodD (n : Nat) : ((n : Nat) : Int).tmod 10 = ((n % 10 : Nat) : Int) := rfl
theorem tdivD (n : Nat) : ((n : Nat) : Int).tdiv 10 = ((n / 10 : Nat) : Int) := rfl
theorem mulMag_T (a b : Nat) (ha : (dec a).length < 1048576) (hb : (dec b).length < 1048576) :
  T (k + 2) 98 [.str (dec a), .str (dec b)] = some (.str (dec (a * b)), []) := by
 have va := val_dec a
 have vb := val_dec b
 have da := dec_all a
 have db := dec_all b
 have la := dec_lt_pow a
 have lb := dec_lt_pow b
 have na := dec_ne a
 have na := List.length_pos_iff.2 na
 generalize hx : dec a = x at *
 generalize hy : dec b = y at *
 have hM : ∃ M : Nat, M = 1048576 := ⟨_, rfl⟩
 obtain ⟨M, hM⟩ := hM
 have hiM : ∀ i : Nat, i ≤ x.length → i * M ≤ 1048576 * 1048576 := fun i h => by rw [hM]; exact Nat.mul_le_mul_right _ (by omega)
 refine enter rfl func98 rfl (by decide) (by kernel_rfl) rfl rfl ?_
 refine zs0 ?_
 rw [wrap_i64 (x := (x.length : Int) + y.length) (by omega) (by omega), show (x.length : Int) + y.length = ((x.length + y.length : Nat) : Int) by omega]
 refine wS te rfl rfl (by refine ⟨by omega, by omega, by omega, by omega⟩) ?_
 refine zs0 ?_
 rw [Int.toNat_natCast]
 refine W.loop (fun e m => ∃ (i : Nat) (r : List Nat), e = [(0, .str x), (1, .str y), (5, .own (0, 0) 1 (irow r)), (6, .int .i64 i)] ∧
  i ≤ x.length ∧ r.length = x.length + y.length ∧ (∀ j, r.getD j 0 ≤ 81 * (i * M)) ∧ dval r = val (x.take i) * 10 ^ (x.length - i) * b ∧ m = x.length - i) x.length ?_ ?_ ?_
 ·refine ⟨0, List.replicate (x.length + y.length) 0, ?_, by omega, by simp, fun j => by rw [getD_rep]; omega, by rw [dval_rep]; simp [val_nil], by omega⟩
  rw [← irow_rep]; rfl
 ·show _ < 4611686018427387904; omega
 ·rintro e m ⟨i, r, rfl, hi, hlen, hbd, hv, rfl⟩
  refine zs0 ?_
  refine W.cond rfl (fun hlt => ?_) (fun hlt => ?_)
  ·have hlt := of_decide_eq_true hlt
   have hdx := dg_getD (i := i) da (by omega)
   have hcx := dv_lt (getD_dg (i := i) da (by omega))
   have hvx := val_take1 (s := x) (i := i) (by omega)
   refine zs0 ?_
   refine W.loop (fun e m => ∃ (j : Nat) (r2 : List Nat), e = [(0, .str x), (1, .str y), (5, .own (0, 0) 1 (irow r2)), (6, .int .i64 i), (7, .int .i64 j)] ∧
    j ≤ y.length ∧ r2.length = x.length + y.length ∧ (∀ t, r2.getD t 0 ≤ 81 * (i * M + j)) ∧ dval r2 = val (x.take i) * 10 ^ (x.length - i) * b + dv (x.getD i 0) * 10 ^ (x.length - 1 - i) * (val (y.take j) * 10 ^ (y.length - j)) ∧ m = y.length - j) y.length ?_ ?_ ?_
   ·exact ⟨0, r, rfl, by omega, hlen, fun j => by have := hbd j; omega, by rw [hv]; simp [val_nil], by omega⟩
   ·show _ < 4611686018427387904; omega
   ·rintro e m ⟨j, r2, rfl, hj, hlen2, hbd2, hv2, rfl⟩
    refine zs0 ?_
    refine W.cond rfl (fun hlt2 => ?_) (fun hlt2 => ?_)
    ·have hlt2 := of_decide_eq_true hlt2
     have hdy := dg_getD (i := j) db (by omega)
     have hcy := dv_lt (getD_dg (i := j) db (by omega))
     have hvy := val_take1 (s := y) (i := j) (by omega)
     refine zd8 ?_
     rw [wrap_i64 (x := (i : Int) + j) (by omega) (by omega), wrap_i64 (x := (i : Int) + j + 1) (by omega) (by omega), show (i : Int) + j + 1 = ((i + j + 1 : Nat) : Int) by omega]
     have hi1 := hiM i (by omega)
     have hidx : 0 + ((i + j + 1 : Nat) : Int).toNat = i + j + 1 := by omega
     have hg := irow_get (l := r2) (i := i + j + 1) (by omega)
     have hz := hbd2 (i + j + 1)
     have hset := dval_set r2 (i + j + 1) (dv (x.getD i 0) * dv (y.getD j 0)) (by omega)
     have hbd3 : ∀ t, (r2.set (i + j + 1) (r2.getD (i + j + 1) 0 + dv (x.getD i 0) * dv (y.getD j 0))).getD t 0 ≤ 81 * (i * M + (j + 1)) := by
      intro t
      have hxy : dv (x.getD i 0) * dv (y.getD j 0) ≤ 9 * 9 := Nat.mul_le_mul (by omega) (by omega)
      exact getD_setN (by have := hbd2 t; omega) (by omega)
     have hxy : dv (x.getD i 0) * dv (y.getD j 0) ≤ 9 * 9 := Nat.mul_le_mul (by omega) (by omega)
     refine wD te rfl rfl (by rw [irow_len, hlen2]; omega) ?_
     rw [hidx]
     refine WX.ldElemD tab_eq rfl rfl rfl (hg) rfl rfl rfl rfl ?_
     refine zd0 ?_
     generalize hzz : r2.getD (i + j + 1) 0 = z at *
     refine wD te rfl rfl (by constructor <;> omega) ?_
     refine zd0 ?_
     refine wD te rfl rfl (by constructor <;> omega) ?_
     refine zd0 ?_
     rw [Int.toNat_natCast, Int.toNat_natCast, hdx, hdy]
     generalize hdxe : dv (x.getD i 0) = u at *
     generalize hdye : dv (y.getD j 0) = v at *
     rw [show ((48 + u : Nat) : Int) - 48 = u by omega, show ((48 + v : Nat) : Int) - 48 = v by omega, wrap_u8 (x := (u : Int)) (by omega) (by omega), wrap_u8 (x := (v : Int)) (by omega) (by omega), wrap_i64 (x := (u : Int)) (by omega) (by omega), wrap_i64 (x := (v : Int)) (by omega) (by omega)]
     rw [show (u : Int) * (v : Int) = ((u * v : Nat) : Int) from (Int.natCast_mul u v).symm, wrap_i64 (x := ((u * v : Nat) : Int)) (by omega) (by omega), wrap_i64 (x := (z : Int) + ((u * v : Nat) : Int)) (by omega) (by omega), show (z : Int) + ((u * v : Nat) : Int) = ((z + u * v : Nat) : Int) by omega]
     refine zd0 ?_
     refine wD te rfl rfl (by rw [irow_len, hlen2]; omega) ?_
     rw [hidx]
     refine WX.stElemD tab_eq rfl rfl rfl (hg) rfl rfl rfl ?_
     refine zd7 ?_
     rw [irow_set, wrap_i64 (x := (j : Int) + 1) (by omega) (by omega)]
     show ∃ m', _
     refine ⟨y.length - (j + 1), by omega, j + 1, r2.set (i + j + 1) (z + u * v), rfl, by omega, by simp [hlen2], hbd3, ?_, rfl⟩
     rw [hset, hv2, hvy, hlen2, show x.length + y.length - 1 - (i + j + 1) = (x.length - 1 - i) + (y.length - (j + 1)) by omega, Nat.pow_add, show y.length - j = y.length - (j + 1) + 1 by omega, Nat.pow_succ]
     generalize 10 ^ (y.length - (j + 1)) = q
     generalize 10 ^ (x.length - 1 - i) = pp
     generalize val (y.take j) = V
     rw [Nat.add_assoc]
     congr 1
     rw [Nat.add_mul, Nat.mul_add, Nat.mul_assoc V 10 q, Nat.mul_comm 10 q]
     congr 1
     rw [Nat.mul_mul_mul_comm]
    ·have hlt2 := of_decide_eq_false hlt2
     have hje : j = y.length := by omega
     subst hje
     rw [List.take_length, vb, Nat.sub_self, Nat.pow_zero, Nat.mul_one] at hv2
     refine zs0 ?_
     rw [wrap_i64 (x := (i : Int) + 1) (by omega) (by omega)]
     show ∃ m', _
     refine ⟨x.length - (i + 1), by omega, i + 1, r2, rfl, by omega, hlen2, ?_, ?_, rfl⟩
     ·intro t; have := hbd2 t; rw [Nat.add_mul]; omega
     ·rw [hv2, hvx, show x.length - i = x.length - (i + 1) + 1 by omega, show x.length - 1 - i = x.length - (i + 1) by omega, Nat.pow_succ]
      generalize 10 ^ (x.length - (i + 1)) = q
      generalize val (x.take i) = V
      rw [Nat.add_mul, Nat.add_mul, Nat.mul_comm q 10, Nat.mul_assoc V 10 q]
  ·have hlt := of_decide_eq_false hlt
   have hie : i = x.length := by omega
   subst hie
   rw [List.take_length, va, Nat.sub_self, Nat.pow_zero, Nat.mul_one] at hv
   have hbM : ∀ j, r.getD j 0 ≤ 89060441849856 := fun j => by have := hbd j; have := hiM x.length (Nat.le_refl _); omega
   refine zs0 ?_
   rw [irow_len, hlen]
   refine wS te rfl rfl (by refine ⟨by omega, by omega, by omega, by omega⟩) ?_
   refine zs0 ?_
   rw [irow_len, hlen, Int.toNat_natCast, wrap_i64 (x := ((x.length + y.length : Nat) : Int) - 1) (by omega) (by omega)]
   generalize hN : x.length + y.length = N at *
   refine W.loop (fun e m => ∃ (t c : Nat) (out : Bs), e = [(5, .own (0, 0) 1 (irow r)), (8, .own (0, 0) 1 (bytesPV out)), (9, .int .i64 c), (10, .int .i64 ((N : Int) - 1 - t))] ∧
    t ≤ N ∧ out.length = N ∧ c ≤ 10000000000000 ∧ (out.drop (N - t)).all isDg = true ∧ val (out.drop (N - t)) + c * 10 ^ t = dval (r.drop (N - t)) ∧ m = N - t) N ?_ ?_ ?_
   ·refine ⟨0, 0, List.replicate N 0, ?_, by omega, by simp, by omega, ?_, ?_, by omega⟩
    ·rw [← bytes_rep]; simp only [Int.natCast_zero, Int.sub_zero]; rfl
    ·rw [List.drop_of_length_le (by simp)]; rfl
    ·rw [List.drop_of_length_le (by simp), List.drop_of_length_le (by omega)]; simp [val_nil, dval]
   ·show _ < 4611686018427387904; omega
   ·rintro e m ⟨t, c, out, rfl, ht, hol, hc, hd, hv2, rfl⟩
    refine zs0 ?_
    refine W.cond rfl (fun hlt2 => ?_) (fun hlt2 => ?_)
    ·have hlt2 := of_decide_eq_true hlt2
     have hg := irow_get (l := r) (i := N - 1 - t) (by omega)
     have hz := hbM (N - 1 - t)
     have hdr := dval_drop (l := r) (i := N - 1 - t) (by omega)
     refine zs0 ?_
     refine wS te rfl rfl (by rw [irow_len, hlen]; omega) ?_
     rw [show 0 + ((N : Int) - 1 - t).toNat = N - 1 - t by omega]
     refine WX.ldElem tab_eq rfl rfl rfl (hg) rfl rfl rfl rfl ?_
     refine zs0 ?_
     generalize hzz : r.getD (N - 1 - t) 0 = z at *
     rw [wrap_i64 (x := (z : Int) + c) (by omega) (by omega)]
     rw [show (z : Int) + c = ((z + c : Nat) : Int) by omega, tmodD]
     have hm10 := Nat.mod_lt (z + c) (show 0 < 10 by omega)
     rw [show (48 : Int) + (((z + c) % 10 : Nat) : Int) = ((48 + (z + c) % 10 : Nat) : Int) by omega, wrap_i64 (x := ((48 + (z + c) % 10 : Nat) : Int)) (by omega) (by omega), wrap_u8 (x := ((48 + (z + c) % 10 : Nat) : Int)) (by omega) (by omega), ofNat48 hm10]
     refine wS te rfl rfl (by rw [bytes_len]; omega) ?_
     rw [show 0 + ((N : Int) - 1 - t).toNat = N - 1 - t by omega]
     refine WX.stElem tab_eq rfl rfl rfl (bytes_get (s := out) (i := N - 1 - t) (by omega)) rfl rfl rfl ?_
     refine zs0 ?_
     rw [bytes_set, tdivD, wrap_i64 (x := (((z + c) / 10 : Nat) : Int)) (by omega) (by omega), wrap_i64 (x := (N : Int) - 1 - t - 1) (by omega) (by omega)]
     show ∃ m', _
     have hset := drop_set (s := out) (i := N - 1 - t) (UInt8.ofNat (48 + (z + c) % 10)) (by omega)
     rw [show N - 1 - t + 1 = N - t by omega] at hset hdr
     refine ⟨N - (t + 1), by omega, t + 1, (z + c) / 10, out.set (N - 1 - t) (UInt8.ofNat (48 + (z + c) % 10)), ?_, by omega, by simp [hol], by omega, ?_, ?_, rfl⟩
     ·rw [show (N : Int) - 1 - t - 1 = (N : Int) - 1 - ((t + 1 : Nat) : Int) by omega]; rfl
     ·rw [show N - (t + 1) = N - 1 - t by omega, hset, List.all_cons, hd, dg_isDg hm10]; rfl
     ·rw [show N - (t + 1) = N - 1 - t by omega, hset, val_cons, dg_dv hm10, hdr, List.length_drop, hol, hlen, show N - (N - t) = t by omega, show N - 1 - (N - 1 - t) = t by omega, Nat.pow_succ, ← hv2]
      have hdm := Nat.mod_add_div (z + c) 10
      generalize 10 ^ t = p
      generalize (z + c) / 10 = q at *
      generalize (z + c) % 10 = s at *
      have e1 : q * (p * 10) = 10 * q * p := by rw [Nat.mul_comm p 10, ← Nat.mul_assoc, Nat.mul_comm q 10]
      have e2 : s * p + 10 * q * p = z * p + c * p := by rw [← Nat.add_mul, ← Nat.add_mul, hdm]
      rw [e1]; omega
    ·have hlt2 := of_decide_eq_false hlt2
     have hte : t = N := by omega
     subst hte
     rw [Nat.sub_self, List.drop_zero, List.drop_zero] at hv2
     rw [Nat.sub_self, List.drop_zero] at hd
     have hvo := val_lt hd
     rw [hol] at hvo
     have hc0 : c = 0 := by
      have h1 : a * b < 10 ^ t := by rw [← hN, Nat.pow_add]; exact Nat.mul_lt_mul'' la lb
      rw [← hv, ← hv2] at h1
      apply Nat.eq_zero_of_not_pos
      intro h
      have : 1 * 10 ^ t ≤ c * 10 ^ t := Nat.mul_le_mul_right _ h
      omega
     rw [hc0, Nat.zero_mul, Nat.add_zero, hv] at hv2
     refine zs0 ?_
     refine WX.convS tab_eq rfl rfl rfl rfl rfl (by rw [List.drop_zero, List.take_length]; exact bytesOf_PV out) ?_
     refine zs0 ?_
     refine wC te rfl rfl rfl rfl rfl (rtrim_T (k := k) out hd (by rintro rfl; simp at hol; omega) (by omega)) rfl rfl ?_
     refine zs0 ?_
     rw [hv2]
     rfl
end Go.PE
namespace Go.PE
open Go.RowKit Go.Proofs.Tryz
set_option maxRecDepth 100000
variable {k : Nat}
theorem sg_mul (p q : Rat) : sg (!(decide (p.num < 0) == decide (q.num < 0))) (p.num.natAbs * q.num.natAbs) = p.num * q.num := by
 rw [← Int.natAbs_mul]
 unfold sg
 by_cases hp : p.num < 0 <;> by_cases hq : q.num < 0
 ·have := Int.mul_pos_of_neg_of_neg hp hq; simp [hp, hq]; omega
 ·have := Int.mul_nonpos_of_nonpos_of_nonneg (show p.num ≤ 0 by omega) (show 0 ≤ q.num by omega); simp [hp, hq]; omega
 ·have := Int.mul_nonpos_of_nonneg_of_nonpos (show 0 ≤ p.num by omega) (show q.num ≤ 0 by omega); simp [hp, hq]; omega
 ·have := Int.mul_nonneg (show 0 ≤ p.num by omega) (show 0 ≤ q.num by omega); simp [hp, hq]; omega
theorem qt_red (neg : Bool) (n d : Nat) (hd : d ≠ 0) : qt neg (n / n.gcd d) (d / n.gcd d) = rs (mkRat (sg neg n) d) := (rs_mkRat neg n d hd).symm
theorem mul_rs (p q : Rat) : mkRat (sg (!(decide (p.num < 0) == decide (q.num < 0))) (p.num.natAbs * q.num.natAbs)) (p.den * q.den) = p * q := by
 rw [sg_mul, Rat.mul_def']
theorem div_rs (p q : Rat) (h : q.num ≠ 0) : mkRat (sg (!(decide (p.num < 0) == decide (q.num < 0))) (p.num.natAbs * q.den)) (p.den * q.num.natAbs) = p / q := by
 have e : p / q = Rat.divInt (p.num * q.den) (p.den * q.num) := by
  rw [Rat.div_def, Rat.inv_def, ← Rat.divInt_mul_divInt, Rat.num_divInt_den]
 rw [e]
 by_cases hq : q.num < 0
 ·have h2 : (p.den : Int) * q.num = -((p.den * q.num.natAbs : Nat) : Int) := by
   rw [Int.natCast_mul, ← Int.mul_neg]; congr 1; omega
  rw [h2, ← Rat.neg_divInt_neg, Int.neg_neg, show Rat.divInt (-(p.num * q.den)) ((p.den * q.num.natAbs : Nat) : Int) = mkRat (-(p.num * q.den)) (p.den * q.num.natAbs) from rfl]
  congr 1
  have h3 : ((p.num.natAbs * q.den : Nat) : Int) = (p.num.natAbs : Int) * q.den := Int.natCast_mul ..
  unfold sg
  by_cases hp : p.num < 0
  ·simp only [hp, hq, decide_true, beq_self_eq_true, Bool.not_true, Bool.false_eq_true, if_false]
   rw [h3, ← Int.neg_mul]; congr 1; omega
  ·simp only [hp, hq, decide_true, decide_false, Bool.false_beq, Bool.not_true, Bool.not_false, if_true]
   rw [h3]; congr 2; omega
 ·have h2 : (p.den : Int) * q.num = ((p.den * q.num.natAbs : Nat) : Int) := by
   rw [Int.natCast_mul]; congr 1; omega
  rw [h2, show Rat.divInt (p.num * q.den) ((p.den * q.num.natAbs : Nat) : Int) = mkRat (p.num * q.den) (p.den * q.num.natAbs) from rfl]
  congr 1
  have h3 : ((p.num.natAbs * q.den : Nat) : Int) = (p.num.natAbs : Int) * q.den := Int.natCast_mul ..
  unfold sg
  by_cases hp : p.num < 0
  ·simp only [hp, hq, decide_true, decide_false, show (true == false) = false from rfl, Bool.not_false, if_true]
   rw [h3, ← Int.neg_mul]; congr 1; omega
  ·simp only [hp, hq, decide_false, beq_self_eq_true, Bool.not_true, Bool.false_eq_true, if_false]
   rw [h3]; congr 1; omega
theorem dec_mul_len (a b : Nat) : (dec (a * b)).length ≤ (dec a).length + (dec b).length := by
 have h1 := dec_lt_pow a
 have h2 := dec_lt_pow b
 have h3 := dec_len_pos a
 exact dec_len_le (by omega) (by rw [Nat.pow_add]; exact Nat.mul_lt_mul'' h1 h2)
def smQ (q : Rat) : Prop := (dec q.num.natAbs).length < 524288 ∧ (dec q.den).length < 524288
theorem rs_len (q : Rat) : (rs q).length ≤ 2 + (dec q.num.natAbs).length + (dec q.den).length := by
 unfold rs qt; rw [List.length_append, List.length_append]
 split <;> split <;> simp <;> omega
theorem rd_small {q : Rat} (h : smQ q) : (rs q).length < 268435456 := by
 have := rs_len q; unfold smQ at h; omega
theorem red_text (neg : Bool) (n d : Nat) (hd : d ≠ 0) (hn : (dec n).length < 536870912) (hdl : (dec d).length < 536870912) :
  T (k + 1) 99 [.agg [.bool (neg && decide (n ≠ 0)), .str (dec (n / n.gcd d)), .str (dec (d / n.gcd d))]] = some (.str (rs (mkRat (sg neg n) d)), []) := by
 have l1 := dec_len_mono (Nat.div_le_self n (n.gcd d))
 have l2 := dec_len_mono (Nat.div_le_self d (n.gcd d))
 rw [rtext_T (k := k) (neg && decide (n ≠ 0)) (dec (n / n.gcd d)) (dec (d / n.gcd d)) (by omega) (by omega), text_qt neg n d hd, qt_red neg n d hd]
theorem rmul_T (p q : Rat) (hp : smQ p) (hq : smQ q) : T (k + 7) 90 [.str (rs p), .str (rs q)] = some (.str (rs (p * q)), []) := by
 have h1 := rparse_T (k := k) (rs p) (rd_small hp)
 have h2 := rparse_T (k := k) (rs q) (rd_small hq)
 unfold rdA at h1 h2
 rw [rd_rs] at h1 h2
 have m1 := mulMag_T (k := k + 4) p.num.natAbs q.num.natAbs (by have := hp.1; omega) (by have := hq.1; omega)
 have m2 := mulMag_T (k := k + 4) p.den q.den (by have := hp.2; omega) (by have := hq.2; omega)
 have l1 := dec_mul_len p.num.natAbs q.num.natAbs
 have l2 := dec_mul_len p.den q.den
 have d0 : p.den * q.den ≠ 0 := Nat.mul_ne_zero p.den_nz q.den_nz
 unfold smQ at hp hq
 have hr := rreduce_T (k := k + 1) (!(decide (p.num < 0) == decide (q.num < 0))) (p.num.natAbs * q.num.natAbs) (p.den * q.den) d0 (by omega) (by omega)
 have hx := red_text (k := k + 5) (!(decide (p.num < 0) == decide (q.num < 0))) (p.num.natAbs * q.num.natAbs) (p.den * q.den) d0 (by omega) (by omega)
 rw [mul_rs] at hx
 refine enter rfl func90 rfl (by decide) (by kernel_rfl) rfl rfl ?_
 refine zs1 h1 ?_
 refine zs2 h2 ?_
 refine zd2 m1 ?_
 refine zd4 m2 ?_
 refine zd4 hr ?_
 refine zd5 hx ?_
 rfl
theorem rdiv_T (p q : Rat) (h0 : q ≠ 0) (hp : smQ p) (hq : smQ q) : T (k + 7) 29 [.str (rs p), .str (rs q)] = some (.str (rs (p / q)), []) := by
 have hq0 : q.num ≠ 0 := fun e => h0 (Rat.num_eq_zero.1 e)
 have hz : dec q.num.natAbs ≠ [48] := by
  rw [← dec_zero]; intro e; have := dec_inj e; omega
 have h1 := rparse_T (k := k) (rs p) (rd_small hp)
 have h2 := rparse_T (k := k) (rs q) (rd_small hq)
 unfold rdA at h1 h2
 rw [rd_rs] at h1 h2
 have m1 := mulMag_T (k := k + 4) p.num.natAbs q.den (by have := hp.1; omega) (by have := hq.2; omega)
 have m2 := mulMag_T (k := k + 4) p.den q.num.natAbs (by have := hp.2; omega) (by have := hq.1; omega)
 have l1 := dec_mul_len p.num.natAbs q.den
 have l2 := dec_mul_len p.den q.num.natAbs
 have d0 : p.den * q.num.natAbs ≠ 0 := Nat.mul_ne_zero p.den_nz (by omega)
 unfold smQ at hp hq
 have hr := rreduce_T (k := k + 1) (!(decide (p.num < 0) == decide (q.num < 0))) (p.num.natAbs * q.den) (p.den * q.num.natAbs) d0 (by omega) (by omega)
 have hx := red_text (k := k + 5) (!(decide (p.num < 0) == decide (q.num < 0))) (p.num.natAbs * q.den) (p.den * q.num.natAbs) d0 (by omega) (by omega)
 rw [div_rs p q hq0] at hx
 refine enter rfl func29 rfl (by decide) (by kernel_rfl) rfl rfl ?_
 refine zs1 h1 ?_
 refine zs2 h2 ?_
 refine W.cond rfl (fun c1 => ?_) (fun c1 => ?_)
 ·exact absurd (of_decide_eq_true c1) hz
 ·refine zd8 ?_
  refine zd4 m1 ?_
  refine zd4 m2 ?_
  refine zd4 hr ?_
  refine zd5 hx ?_
  rfl
end Go.PE
namespace Go.PE
open Go.RowKit Go.Proofs.Tryz
set_option maxRecDepth 100000
variable {k : Nat}
def zrow (l : List Int) : List (List PV) := l.map fun n => [.int .i64 n]
theorem zrow_get {l : List Int} {i : Nat} (h : i < l.length) : (zrow l)[i]? = some [.int .i64 (l.getD i 0)] := by
 unfold zrow
 rw [List.getElem?_map, List.getElem?_eq_getElem h]
 simp [List.getD, List.getElem?_eq_getElem h]
theorem zrow_len (l : List Int) : (zrow l).length = l.length := by simp [zrow]
def modV (a n : Int) : Int := IntKind.i64.wrap ((IntKind.u64.wrap a).tmod (IntKind.u64.wrap n))
theorem modV_lt (a n : Int) (h0 : 0 < n) (h1 : n ≤ 1099511627776) : 0 ≤ modV a n ∧ modV a n < n := by
 unfold modV
 rw [wrap_u64 (x := n) (by omega) (by omega)]
 have h2 : 0 ≤ IntKind.u64.wrap a := by
  have e : ∀ n : Int, IntKind.u64.wrap n = n % 18446744073709551616 := fun n => by simp [IntKind.wrap, IntKind.bits, IntKind.signed]
  rw [e]; omega
 have h3 := Int.tmod_lt_of_pos (IntKind.u64.wrap a) h0
 have h4 := Int.tmod_nonneg n h2
 rw [wrap_i64 (by omega) (by omega)]
 exact ⟨h4, h3⟩
theorem mod_T (a n : Int) (h0 : 0 < n) (h1 : n ≤ 1099511627776) : T (k + 1) 31 [.int .i64 a, .int .i64 n] = some (.int .i64 (modV a n), []) := by
 have hn : IntKind.u64.wrap n = n := wrap_u64 (by omega) (by omega)
 unfold modV
 refine enter rfl func31 rfl (by decide) (by kernel_rfl) rfl rfl ?_
 refine zs0 ?_
 refine wS te rfl rfl (by rw [hn]; omega) ?_
 refine zs0 ?_
 rfl
abbrev Ch := List Int × Nat
def chC (c : Ch) : List PV := [.imm 1 (zrow c.1), .int .i64 c.2]
def nxV (c : Ch) (n : Int) : Int := if c.2 < c.1.length then modV (c.1.getD c.2 0) n else 0
def nxC (c : Ch) : Ch := if c.2 < c.1.length then (c.1, c.2 + 1) else c
theorem next_T (c : Ch) (n : Int) (h0 : 0 < n) (h1 : n ≤ 1099511627776) (hl : c.1.length ≤ 1000) (hc : c.2 ≤ c.1.length) :
  T (k + 2) 55 [.box (0, 0) (chC c), .int .i64 n] = some (.int .i64 (nxV c n), [chC (nxC c)]) := by
 obtain ⟨l, p⟩ := c
 unfold nxV nxC chC
 simp only at *
 refine enter rfl func55 rfl (by decide) (by kernel_rfl) rfl rfl ?_
 refine zd8 ?_
 refine WX.nilD (by kernel_rfl) ?_
 refine zs0 ?_
 rw [zrow_len]
 refine W.cond rfl (fun c1 => ?_) (fun c1 => ?_)
 ·have c1 := of_decide_eq_true c1
  rw [if_neg (by omega), if_neg (by omega)]
  refine zs0 ?_
  rfl
 ·have c1 := of_decide_eq_false c1
  rw [if_pos (by omega), if_pos (by omega)]
  have hg := zrow_get (l := l) (i := p) (by omega)
  refine zs0 ?_
  rw [wrap_i64 (x := (p : Int) + 1) (by omega) (by omega)]
  refine zd0 ?_
  rw [wrap_i64 (x := (p : Int) + 1 - 1) (by omega) (by omega)]
  refine WX.idxImmD tab_eq rfl rfl rfl rfl rfl rfl (by omega) (by rw [show ((p : Int) + 1 - 1).toNat = p by omega]; exact hg) ?_
  refine zd6 (mod_T (k := k) (l.getD p 0) n h0 h1) ?_
  rfl
theorem new_T (l : List Int) (hl : l.length ≤ 4611686018427387904) : T (k + 1) 19 [.imm 1 (zrow l)] = some (.box (0, 0) (chC (l.take 400, 0)), []) := by
 refine enter rfl func19 rfl (by decide) (by kernel_rfl) rfl rfl ?_
 refine zs0 ?_
 rw [zrow_len]
 have hmin : min (l.length : Int) 400 = ((min l.length 400 : Nat) : Int) := by omega
 rw [hmin]
 refine wS te rfl rfl (by rw [zrow_len]; omega) ?_
 refine zs0 ?_
 have ht : (zrow l).take (min l.length 400) = zrow (l.take 400) := by
  unfold zrow; rw [List.map_take]
  by_cases h : l.length ≤ 400
  ·rw [Nat.min_eq_left h, List.take_of_length_le (by simp), List.take_of_length_le (by simpa using h)]
  ·rw [Nat.min_eq_right (by omega)]
 rw [Int.toNat_natCast, ht]
 rfl
def intN (c : Ch) : Int :=
 if nxV c 8 = 6 then nxV (nxC c) 2001 - 1000
 else if nxV c 8 = 7 then (nxV (nxC c) 1099511627776 - 549755813888) * nxV (nxC (nxC c)) 1099511627776
 else nxV (nxC c) 9 - 4
def intC (c : Ch) : Ch :=
 if nxV c 8 = 6 then nxC (nxC c) else if nxV c 8 = 7 then nxC (nxC (nxC c)) else nxC (nxC c)
def okCh (c : Ch) : Prop := c.1.length ≤ 1000 ∧ c.2 ≤ c.1.length
theorem okCh_nx {c : Ch} (h : okCh c) : okCh (nxC c) := by
 unfold nxC okCh at *; split
 ·exact ⟨h.1, by simp only; omega⟩
 ·exact h
theorem nx_lt (c : Ch) {n : Int} (h0 : 0 < n) (h1 : n ≤ 1099511627776) : 0 ≤ nxV c n ∧ nxV c n < n := by
 unfold nxV; split
 ·exact modV_lt _ n h0 h1
 ·omega
theorem smQ_int (n : Int) (h : n.natAbs < 10 ^ 100) : smQ (n : Rat) := by
 unfold smQ
 have e1 : (n : Rat).num = n := rfl
 have e2 : (n : Rat).den = 1 := rfl
 rw [e1, e2]
 have := dec_len_le (n := n.natAbs) (k := 100) (by omega) h
 have h2 := dec_len_le (n := 1) (k := 1) (by omega) (by omega)
 omega
theorem integer_T (c : Ch) (h : okCh c) : T (k + 8) 108 [.box (0, 0) (chC c)] = some (.str (rs (intN c)), [chC (intC c)]) := by
 have n1 := next_T (k := k + 5) c 8 (by omega) (by omega) h.1 h.2
 have b1 := nx_lt c (n := 8) (by omega) (by omega)
 have h' := okCh_nx h
 have h'' := okCh_nx h'
 unfold intN intC
 generalize nxV c 8 = v at *
 generalize nxC c = c1 at *
 have n2 := next_T (k := k + 5) c1 2001 (by omega) (by omega) h'.1 h'.2
 have b2 := nx_lt c1 (n := 2001) (by omega) (by omega)
 have n3 := next_T (k := k + 5) c1 1099511627776 (by omega) (by omega) h'.1 h'.2
 have b3 := nx_lt c1 (n := 1099511627776) (by omega) (by omega)
 have n4 := next_T (k := k + 5) (nxC c1) 1099511627776 (by omega) (by omega) h''.1 h''.2
 have b4 := nx_lt (nxC c1) (n := 1099511627776) (by omega) (by omega)
 have n5 := next_T (k := k + 5) c1 9 (by omega) (by omega) h'.1 h'.2
 have b5 := nx_lt c1 (n := 9) (by omega) (by omega)
 generalize nxV c1 2001 = v2 at *
 generalize nxV c1 1099511627776 = v3 at *
 generalize nxV (nxC c1) 1099511627776 = v4 at *
 generalize nxV c1 9 = v5 at *
 refine enter rfl func108 rfl (by decide) (by kernel_rfl) rfl rfl ?_
 refine zs1 n1 ?_
 refine W.cond rfl (fun c1 => ?_) (fun c1 => ?_)
 ·have c1 := of_decide_eq_true c1
  rw [if_pos c1, if_pos c1]
  refine zs1 n2 ?_
  rw [wrap_i64 (x := v2 - 1000) (by omega) (by omega)]
  refine wC te rfl rfl rfl rfl rfl (fromInt_T (k := k + 6) (v2 - 1000) (by omega) (by omega)) rfl rfl ?_
  refine zs0 ?_
  rfl
 ·have c1 := of_decide_eq_false c1
  rw [if_neg c1, if_neg c1]
  refine zs0 ?_
  refine W.cond rfl (fun c2 => ?_) (fun c2 => ?_)
  ·have c2 := of_decide_eq_true c2
   rw [if_pos c2, if_pos c2]
   refine zs1 n3 ?_
   rw [wrap_i64 (x := v3 - 549755813888) (by omega) (by omega)]
   refine wC te rfl rfl rfl rfl rfl (fromInt_T (k := k + 6) (v3 - 549755813888) (by omega) (by omega)) rfl rfl ?_
   refine zs1 n4 ?_
   refine wC te rfl rfl rfl rfl rfl (fromInt_T (k := k + 6) v4 (by omega) (by omega)) rfl rfl ?_
   refine zs0 ?_
   refine wC te rfl rfl rfl rfl rfl (rmul_T (k := k) (v3 - 549755813888 : Int) (v4 : Int) (smQ_int _ (by omega)) (smQ_int _ (by omega))) rfl rfl ?_
   refine zs0 ?_
   rw [Rat.intCast_mul]
   rfl
  ·have c2 := of_decide_eq_false c2
   rw [if_neg c2, if_neg c2]
   refine zs1 n5 ?_
   rw [wrap_i64 (x := v5 - 4) (by omega) (by omega)]
   refine wC te rfl rfl rfl rfl rfl (fromInt_T (k := k + 6) (v5 - 4) (by omega) (by omega)) rfl rfl ?_
   refine zs0 ?_
   rfl
end Go.PE
namespace Go.PE
open Go.RowKit Go.Proofs.Tryz
set_option maxRecDepth 100000
variable {k : Nat}
def numQ (c : Ch) : Rat := (intN c : Rat) / ((1 + nxV (intC c) 4 : Int) : Rat)
def numC (c : Ch) : Ch := nxC (intC c)
theorem okCh_int {c : Ch} (h : okCh c) : okCh (intC c) := by
 unfold intC
 split
 ·exact okCh_nx (okCh_nx h)
 ·split
  ·exact okCh_nx (okCh_nx (okCh_nx h))
  ·exact okCh_nx (okCh_nx h)
theorem okCh_num {c : Ch} (h : okCh c) : okCh (numC c) := okCh_nx (okCh_int h)
theorem intN_lt (c : Ch) : (intN c).natAbs < 10 ^ 30 := by
 unfold intN
 have b2 := nx_lt (nxC c) (n := 2001) (by omega) (by omega)
 have b3 := nx_lt (nxC c) (n := 1099511627776) (by omega) (by omega)
 have b4 := nx_lt (nxC (nxC c)) (n := 1099511627776) (by omega) (by omega)
 have b5 := nx_lt (nxC c) (n := 9) (by omega) (by omega)
 split
 ·omega
 ·split
  ·rw [Int.natAbs_mul]
   have : (nxV (nxC c) 1099511627776 - 549755813888).natAbs * (nxV (nxC (nxC c)) 1099511627776).natAbs ≤ 1099511627776 * 1099511627776 := Nat.mul_le_mul (by omega) (by omega)
   omega
  ·omega
theorem qt_len (neg : Bool) (n d : Nat) : (qt neg n d).length ≤ 2 + (dec n).length + (dec d).length := by
 unfold qt; rw [List.length_append, List.length_append]
 split <;> split <;> simp <;> omega
theorem numQ_len (c : Ch) : (rs (numQ c)).length ≤ 100 := by
 have b := nx_lt (intC c) (n := 4) (by omega) (by omega)
 have hi := intN_lt c
 unfold numQ
 generalize nxV (intC c) 4 = v at *
 generalize intN c = m at *
 have e : ((m : Rat) / ((1 + v : Int) : Rat)) = mkRat m (1 + v).toNat := by
  rw [Rat.mkRat_eq_div]
  congr 1
  rw [show ((1 + v).toNat : Rat) = (((1 + v).toNat : Int) : Rat) from rfl, Int.toNat_of_nonneg (by omega)]
 have hs : m = sg (decide (m < 0)) m.natAbs := by
  unfold sg; by_cases h : m < 0 <;> simp [h] <;> omega
 rw [e, hs, rs_mkRat _ _ _ (by omega)]
 have h1 := qt_len (decide (m < 0)) (m.natAbs / m.natAbs.gcd (1 + v).toNat) ((1 + v).toNat / m.natAbs.gcd (1 + v).toNat)
 have h2 := dec_len_mono (Nat.div_le_self m.natAbs (m.natAbs.gcd (1 + v).toNat))
 have h3 := dec_len_mono (Nat.div_le_self (1 + v).toNat (m.natAbs.gcd (1 + v).toNat))
 have h4 := dec_len_le (n := m.natAbs) (k := 30) (by omega) hi
 have h5 := dec_len_le (n := (1 + v).toNat) (k := 1) (by omega) (by omega)
 omega
theorem number_T (c : Ch) (h : okCh c) : T (k + 9) 35 [.box (0, 0) (chC c)] = some (.str (rs (numQ c)), [chC (numC c)]) := by
 have n1 := integer_T (k := k) c h
 have h' := okCh_int h
 have n2 := next_T (k := k + 6) (intC c) 4 (by omega) (by omega) h'.1 h'.2
 have b := nx_lt (intC c) (n := 4) (by omega) (by omega)
 have hi := intN_lt c
 unfold numQ numC
 generalize nxV (intC c) 4 = v at *
 generalize intN c = m at *
 have hv : ((1 + v : Int) : Rat) ≠ 0 := by
  intro e
  have : ((1 + v : Int) : Rat).num = (0 : Rat).num := by rw [e]
  have : (1 + v : Int) = 0 := this
  omega
 refine enter rfl func35 rfl (by decide) (by kernel_rfl) rfl rfl ?_
 refine zs1 n1 ?_
 refine zs2 n2 ?_
 rw [wrap_i64 (x := 1 + v) (by omega) (by omega)]
 refine wC te rfl rfl rfl rfl rfl (fromInt_T (k := k + 7) (1 + v) (by omega) (by omega)) rfl rfl ?_
 refine zs0 ?_
 refine wC te rfl rfl rfl rfl rfl (rdiv_T (k := k + 1) (m : Rat) ((1 + v : Int) : Rat) hv (smQ_int _ (by omega)) (smQ_int _ (by omega))) rfl rfl ?_
 refine zs0 ?_
 rfl
def linS (st : Ch × List Trm) (x : Bs) : Ch × List Trm :=
 let q := numQ st.1
 let c1 := numC st.1
 let v := nxV c1 2
 (nxC c1, if v = 1 ∧ rs q ≠ [48] then st.2 ++ [(x, rs q)] else st.2)
def vars : List Bs := [[117], [118], [120], [121]]
def linG (c : Ch) : Bs × (Ch × List Trm) := (rs (numQ c), vars.foldl linS (numC c, []))
theorem linear_T (c : Ch) (h : okCh c) (kind : Int) : T (k + 10) 21 [.box (0, 0) (chC c), .int .i64 kind] = some (.agg [.int .i64 kind, .imm 2 (trow (linG c).2.2), .str (linG c).1], [chC (linG c).2.1]) := by
 have n1 := number_T (k := k) c h
 have h' := okCh_num h
 unfold linG
 generalize numC c = c1 at *
 generalize numQ c = q at *
 refine enter rfl func21 rfl (by decide) (by kernel_rfl) rfl rfl ?_
 refine zs1 n1 ?_
 refine W.loop (fun e m => ∃ (i : Nat) (st : Ch × List Trm), e = [(0, .box (0, 0) (chC st.1)), (4, .box (0, 0) [.int .i64 0, .own (0, 0) 2 [], .str []]), (5, .box (0, 0) [.int .i64 kind, .own (0, 0) 2 (trow st.2), .str (rs q)]), (6, .own (0, 0) 1 (vars.map fun w => [.str w])), (7, .int .i64 i)] ∧
  i ≤ 4 ∧ okCh st.1 ∧ st.2.length ≤ i ∧ (vars.drop i).foldl linS st = vars.foldl linS (c1, []) ∧ m = 4 - i) 4 ?_ ?_ ?_
 ·refine ⟨0, (c1, []), ?_, by omega, h', by simp, rfl, by omega⟩
  rfl
 ·show _ < 4611686018427387904; omega
 ·rintro e m ⟨i, st, rfl, hi, hk, hln, hf, rfl⟩
  refine zs0 ?_
  refine W.cond rfl (fun hlt => ?_) (fun hlt => ?_)
  ·have hi4 : i < 4 := by
    have := of_decide_eq_true hlt
    simp only [List.length_map, vars, List.length_cons, List.length_nil] at this
    omega
   have hdrop : vars.drop i = vars.getD i [] :: vars.drop (i + 1) := by
    rw [List.drop_eq_getElem_cons (show i < vars.length from hi4)]
    simp [List.getD, List.getElem?_eq_getElem (show i < vars.length from hi4)]
   have hg : (vars.map fun w => [PV.str w])[i]? = some [.str (vars.getD i [])] := by
    rw [List.getElem?_map, List.getElem?_eq_getElem (show i < vars.length from hi4)]
    simp [List.getD, List.getElem?_eq_getElem (show i < vars.length from hi4)]
   rw [hdrop, List.foldl_cons] at hf
   obtain ⟨cc, acc⟩ := st
   simp only at hk hln hf
   have n2 := number_T (k := k) cc hk
   have hk2 := okCh_num hk
   have n3 := next_T (k := k + 7) (numC cc) 2 (by omega) (by omega) hk2.1 hk2.2
   have b3 := nx_lt (numC cc) (n := 2) (by omega) (by omega)
   have hk3 := okCh_nx hk2
   unfold linS at hf
   simp only at hf
   refine zs1 n2 ?_
   refine zs2 n3 ?_
   refine WX.boolM rfl rfl (fun c1 => ?_) (fun c1 => ?_)
   ·have c1 := of_decide_eq_true c1
    refine zs0 ?_
    refine W.cond rfl (fun c2 => ?_) (fun c2 => ?_)
    ·have c2 : rs (numQ cc) ≠ [48] := of_decide_eq_true c2
     rw [if_pos ⟨c1, c2⟩] at hf
     refine zd8 ?_
     refine wD te rfl rfl (by rw [List.length_map]; exact ⟨by omega, by show (i : Int) < 4; omega⟩) ?_
     rw [show 0 + (i : Int).toNat = i by omega]
     refine WX.ldElemD tab_eq rfl rfl rfl (hg) rfl rfl rfl rfl ?_
     refine zd0 ?_
     refine wD te rfl rfl (by simp [trow_len]; omega) ?_
     refine zd7 ?_
     rw [wrap_i64 (x := (i : Int) + 1) (by omega) (by omega)]
     show ∃ m', _
     refine ⟨4 - (i + 1), by omega, i + 1, (nxC (numC cc), acc ++ [(vars.getD i [], rs (numQ cc))]), ?_, by omega, hk3, by simp only [List.length_append, List.length_singleton]; omega, hf, rfl⟩
     have e : (trow acc).take (trow acc).length ++ [[PV.str (vars.getD i []), .str (rs (numQ cc))]] = trow (acc ++ [(vars.getD i [], rs (numQ cc))]) := by
      rw [List.take_length]; simp [trow]
     rw [← e]
     rfl
    ·have c2 : rs (numQ cc) = [48] := Decidable.not_not.1 (of_decide_eq_false c2)
     rw [if_neg (fun h => h.2 c2)] at hf
     refine zs0 ?_
     rw [wrap_i64 (x := (i : Int) + 1) (by omega) (by omega)]
     show ∃ m', _
     exact ⟨4 - (i + 1), by omega, i + 1, (nxC (numC cc), acc), rfl, by omega, hk3, by simp only; omega, hf, rfl⟩
   ·have c1 := of_decide_eq_false c1
    rw [if_neg (fun h => c1 h.1)] at hf
    refine zs0 ?_
    rw [wrap_i64 (x := (i : Int) + 1) (by omega) (by omega)]
    show ∃ m', _
    exact ⟨4 - (i + 1), by omega, i + 1, (nxC (numC cc), acc), rfl, by omega, hk3, by simp only; omega, hf, rfl⟩
  ·have hi4 : i = 4 := by
    have := of_decide_eq_false hlt
    simp only [List.length_map, vars, List.length_cons, List.length_nil] at this
    omega
   subst hi4
   have hf : st = vars.foldl linS (c1, []) := hf
   refine zs0 ?_
   rw [← hf]
   rfl
end Go.PE
namespace Go.PE
open Go.RowKit Go.Proofs.Tryz
set_option maxRecDepth 100000
variable {k : Nat}
theorem linS_ok (st : Ch × List Trm) (x : Bs) (h : okCh st.1) : okCh (linS st x).1 := okCh_nx (okCh_num h)
theorem foldl_ok (l : List Bs) : ∀ st : Ch × List Trm, okCh st.1 → okCh (l.foldl linS st).1 := by
 induction l with
 | nil => intro st h; exact h
 | cons x l ih => intro st h; rw [List.foldl_cons]; exact ih _ (linS_ok st x h)
theorem linG_ok (c : Ch) (h : okCh c) : okCh (linG c).2.1 := foldl_ok vars _ (okCh_num h)
theorem foldl_len (l : List Bs) : ∀ st : Ch × List Trm, (l.foldl linS st).2.length ≤ st.2.length + l.length := by
 induction l with
 | nil => intro st; exact Nat.le_refl _
 | cons x l ih =>
  intro st; rw [List.foldl_cons]
  have := ih (linS st x)
  have h2 : (linS st x).2.length ≤ st.2.length + 1 := by
   unfold linS; simp only; split <;> simp
  rw [List.length_cons]; omega
theorem linG_len (c : Ch) : (linG c).2.2.length ≤ 4 := by
 have := foldl_len vars (numC c, [])
 exact this
theorem linG_c (c : Ch) : (linG c).1.length ≤ 100 := numQ_len c
structure Con where
 rel : Int
 kind : Int
 ts : List Trm
 c : Bs
 m : Bs
def conP (x : Con) : List PV := [.int .i64 x.rel, .int .i64 x.kind, .imm 2 (trow x.ts), .str x.c, .str x.m]
def conG (c : Ch) : Con × Ch :=
 let r := 1 + nxV c 5
 let kd := 2 + nxV (nxC c) 2
 let l := linG (nxC (nxC c))
 if 4 ≤ r then (⟨r, 2, l.2.2, l.1, rs ((1 + nxV l.2.1 12 : Int) : Rat)⟩, nxC l.2.1) else (⟨r, kd, l.2.2, l.1, []⟩, l.2.1)
theorem conG_T (c : Ch) (h : okCh c) : T (k + 11) 20 [.box (0, 0) (chC c)] = some (.agg (conP (conG c).1), [chC (conG c).2]) := by
 have n1 := next_T (k := k + 8) c 5 (by omega) (by omega) h.1 h.2
 have b1 := nx_lt c (n := 5) (by omega) (by omega)
 have h2 := okCh_nx h
 have n2 := next_T (k := k + 8) (nxC c) 2 (by omega) (by omega) h2.1 h2.2
 have b2 := nx_lt (nxC c) (n := 2) (by omega) (by omega)
 have h3 := okCh_nx h2
 unfold conG
 simp only
 generalize nxV c 5 = v1 at *
 generalize nxV (nxC c) 2 = v2 at *
 generalize nxC (nxC c) = c2 at *
 generalize nxC c = c1 at *
 have h4 := linG_ok c2 h3
 have n4 := next_T (k := k + 8) (linG c2).2.1 12 (by omega) (by omega) h4.1 h4.2
 have b4 := nx_lt (linG c2).2.1 (n := 12) (by omega) (by omega)
 by_cases hr : 4 ≤ 1 + v1
 ·have n3 := linear_T (k := k) c2 h3 2
  rw [if_pos hr]
  generalize linG c2 = l at *
  obtain ⟨lc, ch, ts⟩ := l
  simp only at *
  generalize nxV ch 12 = v4 at *
  refine enter rfl func20 rfl (by decide) (by kernel_rfl) rfl rfl ?_
  refine zs1 n1 ?_
  rw [wrap_i64 (x := 1 + v1) (by omega) (by omega)]
  refine zs2 n2 ?_
  refine W.cond rfl (fun c1 => ?_) (fun c1 => ?_)
  ·refine zs1 n3 ?_
   refine W.cond rfl (fun c2 => ?_) (fun c2 => ?_)
   ·refine zs1 n4 ?_
    rw [wrap_i64 (x := 1 + v4) (by omega) (by omega)]
    refine wC te rfl rfl rfl rfl rfl (fromInt_T (k := k + 9) (1 + v4) (by omega) (by omega)) rfl rfl ?_
    refine zs0 ?_
    rfl
   ·exact absurd hr (of_decide_eq_false c2)
  ·exact absurd hr (of_decide_eq_false c1)
 ·have n3 := linear_T (k := k) c2 h3 (2 + v2)
  rw [if_neg hr]
  generalize linG c2 = l at *
  obtain ⟨lc, ch, ts⟩ := l
  simp only at *
  refine enter rfl func20 rfl (by decide) (by kernel_rfl) rfl rfl ?_
  refine zs1 n1 ?_
  rw [wrap_i64 (x := 1 + v1) (by omega) (by omega)]
  refine zs2 n2 ?_
  rw [wrap_i64 (x := 2 + v2) (by omega) (by omega)]
  refine W.cond rfl (fun c1 => ?_) (fun c1 => ?_)
  ·exact absurd (of_decide_eq_true c1) hr
  ·refine zs1 n3 ?_
   refine W.cond rfl (fun c2 => ?_) (fun c2 => ?_)
   ·exact absurd (of_decide_eq_true c2) hr
   ·refine zs0 ?_
    rfl
end Go.PE
namespace Go.PE
open Go.RowKit Go.Proofs.Tryz
set_option maxRecDepth 100000
variable {k : Nat}
def smT (t : Trm) : Bool := decide (t.1.length ≤ 60) && decide (t.2.length ≤ 40)
def smB (ts : List Trm) (c : Bs) : Bool := decide (ts.length ≤ 8) && (decide (c.length ≤ 40) && (List.range ts.length).all fun i => smT (ts.getD i ([], [])))
theorem smB_spec {ts : List Trm} {c : Bs} (h : smB ts c = true) : ts.length ≤ 8 ∧ c.length ≤ 40 ∧ ∀ t ∈ ts, smallT t := by
 unfold smB at h
 simp only [Bool.and_eq_true, decide_eq_true_eq, List.all_eq_true, List.mem_range] at h
 refine ⟨h.1, h.2.1, fun t ht => ?_⟩
 obtain ⟨i, hi, rfl⟩ := List.mem_iff_getElem.1 ht
 have := h.2.2 i hi
 unfold smT at this
 simp only [List.getD, List.getElem?_eq_getElem hi, Option.getD_some, Bool.and_eq_true, decide_eq_true_eq] at this
 exact ⟨by omega, by omega⟩
theorem small_T (kind : Int) (ts : List Trm) (c : Bs) : T (k + 1) 17 [.agg [.int .i64 kind, .imm 2 (trow ts), .str c]] = some (.bool (smB ts c), []) := by
 refine enter rfl func17 rfl (by decide) (by kernel_rfl) rfl rfl ?_
 refine zs0 ?_
 rw [trow_len]
 refine WX.boolM rfl rfl (fun b1 => ?_) (fun b1 => ?_)
 ·have b1 := of_decide_eq_true b1
  refine zs0 ?_
  (refine (congrArg (fun b => some (PV.bool b, [])) ?_ : some (PV.bool _, []) = some (PV.bool _, [])); (unfold smB; rw [decide_eq_false (p := ts.length ≤ 8) (by omega)]; rfl))
 ·have b1 := of_decide_eq_false b1
  refine zs0 ?_
  refine W.cond rfl (fun b2 => ?_) (fun b2 => ?_)
  ·have b2 := of_decide_eq_true b2
   refine zs0 ?_
   (refine (congrArg (fun b => some (PV.bool b, [])) ?_ : some (PV.bool _, []) = some (PV.bool _, [])); (unfold smB; rw [decide_eq_false (p := c.length ≤ 40) (by omega)]; simp))
  ·have b2 := of_decide_eq_false b2
   have hsm : smB ts c = (List.range ts.length).all fun i => smT (ts.getD i ([], [])) := by
    unfold smB; rw [decide_eq_true (show ts.length ≤ 8 by omega), decide_eq_true (show c.length ≤ 40 by omega)]; rfl
   rw [hsm]
   refine zs0 ?_
   refine W.loop (fun e m => ∃ (i : Nat), e = [(1, .box (0, 0) [.int .i64 kind, .imm 2 (trow ts), .str c]), (3, .int .i64 i)] ∧ i ≤ ts.length ∧ ((List.range i).all fun i => smT (ts.getD i ([], []))) = true ∧ m = ts.length - i) ts.length ?_ ?_ ?_
   ·exact ⟨0, rfl, by omega, rfl, by omega⟩
   ·show _ < 4611686018427387904; omega
   ·rintro e m ⟨i, rfl, hi, hd, rfl⟩
    refine zs0 ?_
    rw [trow_len]
    refine W.cond rfl (fun hlt => ?_) (fun hlt => ?_)
    ·have hlt := of_decide_eq_true hlt
     have hg := trow_get (ts := ts) (i := i) (by omega)
     have hgo := @range_step i (fun i => smT (ts.getD i ([], []))) hd
     have hno := @range_stop ts.length i (fun i => smT (ts.getD i ([], []))) (by omega)
     simp only [smT] at hgo hno
     refine zs0 ?_
     refine wI te rfl rfl rfl rfl rfl rfl (by omega) (hg) ?_
     refine zs0 ?_
     refine WX.boolM rfl rfl (fun b3 => ?_) (fun b3 => ?_)
     ·have b3 := of_decide_eq_true b3
      refine zs0 ?_
      (refine (congrArg (fun b => some (PV.bool b, [])) ?_ : some (PV.bool _, []) = some (PV.bool _, [])); exact (hno (by rw [decide_eq_false (p := (ts.getD i ([], [])).1.length ≤ 60) (by omega)]; rfl)).symm)
     ·have b3 := of_decide_eq_false b3
      refine zs0 ?_
      refine wI te rfl rfl rfl rfl rfl rfl (by omega) (hg) ?_
      refine zs0 ?_
      refine W.cond rfl (fun b4 => ?_) (fun b4 => ?_)
      ·have b4 := of_decide_eq_true b4
       refine zs0 ?_
       (refine (congrArg (fun b => some (PV.bool b, [])) ?_ : some (PV.bool _, []) = some (PV.bool _, [])); exact (hno (by rw [decide_eq_false (p := (ts.getD i ([], [])).2.length ≤ 40) (by omega)]; simp)).symm)
      ·have b4 := of_decide_eq_false b4
       refine zs0 ?_
       rw [wrap_i64 (x := (i : Int) + 1) (by omega) (by omega)]
       show ∃ m', _
       exact ⟨ts.length - (i + 1), by omega, i + 1, rfl, by omega, hgo (by rw [decide_eq_true (show (ts.getD i ([], [])).1.length ≤ 60 by omega), decide_eq_true (show (ts.getD i ([], [])).2.length ≤ 40 by omega)]; rfl), rfl⟩
    ·have hlt := of_decide_eq_false hlt
     have hie : i = ts.length := by omega
     subst hie
     refine zs0 ?_
     (refine (congrArg (fun b => some (PV.bool b, [])) ?_ : some (PV.bool _, []) = some (PV.bool _, [])); exact hd.symm)
theorem conG_ts (c : Ch) : (conG c).1.ts = (linG (nxC (nxC c))).2.2 := by
 unfold conG; simp only
 by_cases h : 4 ≤ 1 + nxV c 5
 ·rw [if_pos h]
 ·rw [if_neg h]
theorem conG_c (c : Ch) : (conG c).1.c = (linG (nxC (nxC c))).1 := by
 unfold conG; simp only
 by_cases h : 4 ≤ 1 + nxV c 5
 ·rw [if_pos h]
 ·rw [if_neg h]
end Go.PE
