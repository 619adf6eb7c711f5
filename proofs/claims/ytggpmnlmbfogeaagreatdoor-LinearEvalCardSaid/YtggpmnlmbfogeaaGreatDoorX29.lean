/-
  A part of the proof that the law's function returns true and leaves its arguments as they were, for every input (no condition): own lemmas of the proof, in the order of their use.
-/
import Derived.Test.YtggpmnlmbfogeaaGreatDoorX28
import Derived.Test.YtggpmnlmbfogeaaGreatDoorX24
set_option linter.all false
namespace Go.PE
open Go.RowKit Go.Proofs.Tryz
set_option maxRecDepth 100000
variable {k : Nat}
theorem cast_mul (a b : Nat) : ((a : Int) : Rat) * ((b : Int) : Rat) = (((a * b : Nat) : Int) : Rat) := by
 rw [← Rat.intCast_mul, Int.natCast_mul]
theorem rs_eq_nat {a b : Nat} : rs ((a : Int) : Rat) = rs ((b : Int) : Rat) ↔ a = b := by
 rw [rs_nat, rs_nat]; exact ⟨fun h => dec_inj h, fun h => by rw [h]⟩
theorem stepD_def (P : Nat) (st : List QT × Nat) (v : QT) : stepD P st v = if v.2.num % (P : Int) = 0 then st else (st.1 ++ [(v.1, ((v.2.num % (P : Int) : Int) : Rat))], Nat.gcd st.2 (v.2.num % (P : Int)).natAbs) := rfl
theorem rs_int0 (z : Int) : rs (z : Rat) = [48] ↔ z = 0 := by
 rw [rs_is0]; exact ⟨fun h => by exact_mod_cast h, fun h => by rw [h]; rfl⟩
set_option maxHeartbeats 4000000 in
theorem normalDivides_T (rel : Int) (us : List QT) (c : Rat) (M : Nat) (hrel : rel = 4 ∨ rel = 5) (hg : goodU us) (hc : szQ c 1000) (hM0 : M ≠ 0) (hM : (dec M).length ≤ 1000) :
  T (k + 13) 77 [conQ rel 2 us c (rs ((M : Int) : Rat))] = some (divV rel us c M, []) := by
 have hl8 := hg.1
 have lc := hc.len
 have hsz : ∀ u ∈ us, szQ u.2 1000 := fun u h => (hg.2 u h).1
 have hd1 := den_Q (k := k + 5) c (by omega)
 have ld : ∀ i, (dec (lcmU c.den (us.take i))).length ≤ 9001 := fun i => by
  have h1 := lcmU_len (us := us.take i) (d := c.den) (M := 1000) fun u hu => hsz u (List.mem_of_mem_take hu)
  rw [List.length_take] at h1
  have := Nat.min_le_right i us.length
  have := hc.2
  omega
 have hsc := scale_T (k := k + 2) 2 us c ((dD us c : Int) : Rat) (L := 9000) (hc.mono (by omega)) (dDq hg hc) (fun u h => (hsz u h).mono (by omega)) (by omega) (by omega)
 have hmul := mul_Q (k := k + 3) ((M : Int) : Rat) ((dD us c : Int) : Rat) (L := 9000) ((szZ (a := (M : Int)) hM).mono (by omega)) (dDq hg hc) (by omega)
 rw [cast_mul] at hmul
 have hP0 : M * dD us c ≠ 0 := Nat.mul_ne_zero hM0 (dD_ne us c)
 have hP : (dec (M * dD us c)).length ≤ 11000 := by have := dec_mul_len M (dD us c); have := dD_len hg hc; omega
 have hcs := szQ_mul hc (dDq hg hc)
 have hrem := rem_Q (k := k + 5) (c * ((dD us c : Int) : Rat)).num ((M * dD us c : Nat) : Int) (by omega) (L := 11000) (Nat.le_trans hcs.1 (by omega)) hP (by omega)
 rw [← dD_int] at hrem
 have hc0 : (dec ((c * ((dD us c : Int) : Rat)).num % ((M * dD us c : Nat) : Int)).natAbs).length ≤ 11000 := by
  generalize (c * ((dD us c : Int) : Rat)).num = z
  have e1 := Int.emod_nonneg z (show ((M * dD us c : Nat) : Int) ≠ 0 by omega)
  have e2 := Int.emod_lt_of_pos z (show (0 : Int) < ((M * dD us c : Nat) : Int) by omega)
  exact Nat.le_trans (dec_len_mono (show (z % ((M * dD us c : Nat) : Int)).natAbs ≤ M * dD us c by omega)) hP
 have hvi := vs_int (us := us) (c := c)
 have hvs := vs_sz hg hc
 have hvl := vs_len (us := us) (c := c)
 unfold divV
 have hf := fun i => invD_fold hP0 hP ((scU us ((dD us c : Int) : Rat)).take i) (invD_0 hP0 hP)
 rcases hrel with rfl | rfl
 ·refine enter rfl func77 rfl (by decide) (by kernel_rfl) rfl rfl ?_
  refine zs1 hd1 ?_
  refine W.loop (fun e m => ∃ (i : Nat), e = [(1, .box (0, 0) [.int .i64 4, .int .i64 2, .imm 2 (trow (tx us)), .str (rs c), .str (rs ((M : Int) : Rat))]), (2, .box (0, 0) [.int .i64 0, .int .i64 0, .own (0, 0) 2 [], .str [], .str []]),
   (3, .str (rs ((lcmU c.den (us.take i) : Nat) : Int))), (18, .loc 1 (0, 0) 1), (19, .loc 1 (0, 0) 2), (20, .imm 2 (trow (tx us))), (21, .int .i64 (trow (tx us)).length), (22, .int .i64 i)] ∧
   i ≤ us.length ∧ m = us.length - i) us.length ?_ ?_ ?_
  ·refine ⟨0, ?_, by omega, by omega⟩
   rw [List.take_zero]
   rfl
  ·show _ < 4611686018427387904; omega
  ·rintro e m ⟨i, rfl, hi, rfl⟩
   refine zs0 ?_
   refine W.cond rfl (fun hlt => ?_) (fun hlt => ?_)
   ·have hlt := of_decide_eq_true hlt
    rw [trow_len, tx_len] at hlt
    have hget : (trow (tx us))[i]? = some [.str (us.getD i ([], 0)).1, .str (rs (us.getD i ([], 0)).2)] := tx_get (by omega)
    have hs := hsz _ (getD_mem (us := us) (i := i) (by omega))
    have hl1 := hs.len
    have hden := den_Q (k := k + 5) (us.getD i ([], 0)).2 (by omega)
    have hlcm := lcm_Q (k := k + 2) (lcmU c.den (us.take i)) (us.getD i ([], 0)).2.den (lcmU_pos c.den_nz) (us.getD i ([], 0)).2.den_nz (ld i) (Nat.le_trans hs.2 (by omega)) (by omega)
    refine zs0 ?_
    refine wI te rfl rfl rfl rfl rfl rfl (by omega) (hget) ?_
    refine zs1 hden ?_
    refine zs2 hlcm ?_
    rw [wrap_i64 (x := (i : Int) + 1) (by omega) (by omega)]
    show ∃ m', _
    refine ⟨us.length - (i + 1), by omega, i + 1, ?_, by omega, rfl⟩
    rw [take_snoc (show i < us.length by omega), lcmU_snoc]
    rfl
   ·have hlt := of_decide_eq_false hlt
    rw [trow_len, tx_len] at hlt
    have hie : i = us.length := by omega
    subst hie
    rw [List.take_length, show lcmU c.den us = dD us c from rfl]
    refine zd8 ?_
    refine zd4 hsc ?_
    refine zd5 hmul ?_
    refine zd6 hrem ?_
    generalize (c * ((dD us c : Int) : Rat)).num % ((M * dD us c : Nat) : Int) = c0 at *
    generalize c * ((dD us c : Int) : Rat) = c1 at *
    generalize scU us ((dD us c : Int) : Rat) = vs at *
    generalize M * dD us c = P at *
    refine W.loop (fun e m => ∃ (i : Nat), e = [(1, .box (0, 0) [.int .i64 4, .int .i64 2, .imm 2 (trow (tx us)), .str (rs c), .str (rs ((M : Int) : Rat))]), (2, .box (0, 0) [.int .i64 0, .int .i64 0, .own (0, 0) 2 [], .str [], .str []]),
     (6, .box (0, 0) [.int .i64 2, .imm 2 (trow (tx vs)), .str (rs c1)]), (7, .str (rs ((P : Int) : Rat))), (8, .box (0, 0) [.int .i64 2, .own (0, 0) 2 (trow (tx ((vs.take i).foldl (stepD P) ([], P)).1)), .str (rs (c0 : Rat))]), (9, .str (rs ((((vs.take i).foldl (stepD P) ([], P)).2 : Int) : Rat))),
     (48, .loc 6 (0, 0) 1), (49, .imm 2 (trow (tx vs))), (50, .int .i64 (trow (tx vs)).length), (51, .int .i64 i)] ∧
     i ≤ vs.length ∧ m = vs.length - i) vs.length ?_ ?_ ?_
    ·refine ⟨0, ?_, by omega, by omega⟩
     rw [List.take_zero]
     rfl
    ·show _ < 4611686018427387904; omega
    ·rintro e m ⟨i, rfl, hi, rfl⟩
     refine zs0 ?_
     refine W.cond rfl (fun hlt => ?_) (fun hlt => ?_)
     ·have hlt := of_decide_eq_true hlt
      rw [trow_len, tx_len] at hlt
      have hget : (trow (tx vs))[i]? = some [.str (vs.getD i ([], 0)).1, .str (rs (vs.getD i ([], 0)).2)] := tx_get (by omega)
      have hmem := getD_mem (us := vs) (i := i) (by omega)
      have hv2 := hvs _ hmem
      have hrm := rem_Q (k := k + 5) (vs.getD i ([], 0)).2.num (P : Int) (by omega) (L := 11000) (Nat.le_trans hv2.1 (by omega)) hP (by omega)
      rw [← show (vs.getD i ([], 0)).2 = (((vs.getD i ([], 0)).2.num : Int) : Rat) from hvi _ hmem] at hrm
      have hsn := foldD_snoc P (vs.take i) (vs.getD i ([], 0)) ([], P)
      rw [← take_snoc (show i < vs.length by omega)] at hsn
      have hinv := hf i
      have hr1 := Int.emod_nonneg (vs.getD i ([], 0)).2.num (show (P : Int) ≠ 0 by omega)
      have hr2 := Int.emod_lt_of_pos (vs.getD i ([], 0)).2.num (show (0 : Int) < P by omega)
      rw [stepD_def] at hsn
      generalize (vs.take i).foldl (stepD P) ([], P) = st at *
      generalize (vs.getD i ([], 0)).1 = nm at *
      generalize hr : (vs.getD i ([], 0)).2.num % (P : Int) = r at *
      obtain ⟨i1, i2, i3, i4, i5⟩ := hinv
      rw [List.length_take] at i1
      have hmn := Nat.min_le_left i vs.length
      have hgc := gcd_Q (k := k + 6) (st.2 : Int) r (L := 11000) i3 (Nat.le_trans (dec_len_mono (show r.natAbs ≤ P by omega)) hP) (by omega)
      refine zs0 ?_
      refine wI te rfl rfl rfl rfl rfl rfl (by omega) (hget) ?_
      refine zs1 hrm ?_
      refine W.cond rfl (fun b1 => ?_) (fun b1 => ?_)
      ·have b1 : ¬ r = 0 := fun e => of_decide_eq_true b1 ((rs_int0 r).2 e)
       rw [if_neg b1] at hsn
       refine zs0 ?_
       refine wS te rfl rfl (by simp [trow_len, tx_len]; omega) ?_
       refine zs1 hgc ?_
       rw [wrap_i64 (x := (i : Int) + 1) (by omega) (by omega)]
       show ∃ m', _
       refine ⟨vs.length - (i + 1), by omega, i + 1, ?_, by omega, rfl⟩
       rw [hsn]
       have e : (trow (tx st.1)).take (trow (tx st.1)).length ++ [[PV.str nm, .str (rs (r : Rat))]] = trow (tx (st.1 ++ [(nm, (r : Rat))])) := by
        rw [List.take_length]; simp [trow, tx]
       rw [← e]
       rfl
      ·have b1 : r = 0 := (rs_int0 r).1 (Classical.not_not.1 (of_decide_eq_false b1))
       rw [if_pos b1] at hsn
       refine zs0 ?_
       rw [wrap_i64 (x := (i : Int) + 1) (by omega) (by omega)]
       show ∃ m', _
       refine ⟨vs.length - (i + 1), by omega, i + 1, ?_, by omega, rfl⟩
       rw [hsn]
       rfl
     ·have hlt := of_decide_eq_false hlt
      rw [trow_len, tx_len] at hlt
      have hie : i = vs.length := by omega
      subst hie
      have hinv := hf vs.length
      rw [List.take_length] at hinv ⊢
      unfold divE
      generalize vs.foldl (stepD P) ([], P) = st at *
      obtain ⟨i1, i2, i3, i4, i5⟩ := hinv
      have hrem2 := rem_Q (k := k + 5) c0 (st.2 : Int) (by omega) (L := 11000) hc0 i3 (by omega)
      have hz1 : szQ ((1 : Int) : Rat) 11000 := szZ (by rw [show (1 : Int).natAbs = 1 from rfl, dec1_len]; omega)
      have hz2 : szQ ((st.2 : Int) : Rat) 11000 := szZ (a := (st.2 : Int)) i3
      have hne : ((st.2 : Int) : Rat) ≠ 0 := by
       intro h
       have h2 : (st.2 : Int) = 0 := by exact_mod_cast h
       omega
      have hdv := div_Q (k := k + 3) ((1 : Int) : Rat) ((st.2 : Int) : Rat) hne hz1 hz2 (by omega)
      rw [show rs ((1 : Int) : Rat) = [49] from (rs_nat 1).trans decOne] at hdv
      have hzd := szQ_div hne hz1 hz2
      have hs2 := scale_T (k := k + 2) 2 st.1 (c0 : Rat) (((1 : Int) : Rat) / ((st.2 : Int) : Rat)) (L := 22000) ((szZ hc0).mono (by omega)) hzd (fun u h => (i5 u h).mono (by omega)) (by omega) (by omega)
      have hqu := quo_Q (k := k + 5) (P : Int) (st.2 : Int) (by omega) (L := 11000) hP i3 (by omega)
      refine zs1 hrem2 ?_
      refine W.cond rfl (fun b1 => ?_) (fun b1 => ?_)
      ·have b1 : ¬ c0 % (st.2 : Int) = 0 := fun e => of_decide_eq_true b1 ((rs_int0 _).2 e)
       rw [if_pos b1]
       refine zs1 (truth_T (k := k + 11) 2 (!decide ((4 : Int) = 4))) ?_
       rfl
      ·have b1 : c0 % (st.2 : Int) = 0 := (rs_int0 _).1 (Classical.not_not.1 (of_decide_eq_false b1))
       rw [if_neg (fun h => h b1)]
       refine zs0 ?_
       refine W.cond rfl (fun b2 => ?_) (fun b2 => ?_)
       ·have b2 : st.2 = P := rs_eq_nat.1 (of_decide_eq_true b2)
        rw [if_pos b2]
        refine zs1 (truth_T (k := k + 11) 2 (decide ((4 : Int) = 4))) ?_
        rfl
       ·have b2 : ¬ st.2 = P := fun e => of_decide_eq_false b2 (rs_eq_nat.2 e)
        rw [if_neg b2]
        refine zd8 ?_
        refine zd4 hdv ?_
        refine zd4 hs2 ?_
        refine zd5 hqu ?_
        rfl
 ·refine enter rfl func77 rfl (by decide) (by kernel_rfl) rfl rfl ?_
  refine zs1 hd1 ?_
  refine W.loop (fun e m => ∃ (i : Nat), e = [(1, .box (0, 0) [.int .i64 5, .int .i64 2, .imm 2 (trow (tx us)), .str (rs c), .str (rs ((M : Int) : Rat))]), (2, .box (0, 0) [.int .i64 0, .int .i64 0, .own (0, 0) 2 [], .str [], .str []]),
   (3, .str (rs ((lcmU c.den (us.take i) : Nat) : Int))), (18, .loc 1 (0, 0) 1), (19, .loc 1 (0, 0) 2), (20, .imm 2 (trow (tx us))), (21, .int .i64 (trow (tx us)).length), (22, .int .i64 i)] ∧
   i ≤ us.length ∧ m = us.length - i) us.length ?_ ?_ ?_
  ·refine ⟨0, ?_, by omega, by omega⟩
   rw [List.take_zero]
   rfl
  ·show _ < 4611686018427387904; omega
  ·rintro e m ⟨i, rfl, hi, rfl⟩
   refine zs0 ?_
   refine W.cond rfl (fun hlt => ?_) (fun hlt => ?_)
   ·have hlt := of_decide_eq_true hlt
    rw [trow_len, tx_len] at hlt
    have hget : (trow (tx us))[i]? = some [.str (us.getD i ([], 0)).1, .str (rs (us.getD i ([], 0)).2)] := tx_get (by omega)
    have hs := hsz _ (getD_mem (us := us) (i := i) (by omega))
    have hl1 := hs.len
    have hden := den_Q (k := k + 5) (us.getD i ([], 0)).2 (by omega)
    have hlcm := lcm_Q (k := k + 2) (lcmU c.den (us.take i)) (us.getD i ([], 0)).2.den (lcmU_pos c.den_nz) (us.getD i ([], 0)).2.den_nz (ld i) (Nat.le_trans hs.2 (by omega)) (by omega)
    refine zs0 ?_
    refine wI te rfl rfl rfl rfl rfl rfl (by omega) (hget) ?_
    refine zs1 hden ?_
    refine zs2 hlcm ?_
    rw [wrap_i64 (x := (i : Int) + 1) (by omega) (by omega)]
    show ∃ m', _
    refine ⟨us.length - (i + 1), by omega, i + 1, ?_, by omega, rfl⟩
    rw [take_snoc (show i < us.length by omega), lcmU_snoc]
    rfl
   ·have hlt := of_decide_eq_false hlt
    rw [trow_len, tx_len] at hlt
    have hie : i = us.length := by omega
    subst hie
    rw [List.take_length, show lcmU c.den us = dD us c from rfl]
    refine zd8 ?_
    refine zd4 hsc ?_
    refine zd5 hmul ?_
    refine zd6 hrem ?_
    generalize (c * ((dD us c : Int) : Rat)).num % ((M * dD us c : Nat) : Int) = c0 at *
    generalize c * ((dD us c : Int) : Rat) = c1 at *
    generalize scU us ((dD us c : Int) : Rat) = vs at *
    generalize M * dD us c = P at *
    refine W.loop (fun e m => ∃ (i : Nat), e = [(1, .box (0, 0) [.int .i64 5, .int .i64 2, .imm 2 (trow (tx us)), .str (rs c), .str (rs ((M : Int) : Rat))]), (2, .box (0, 0) [.int .i64 0, .int .i64 0, .own (0, 0) 2 [], .str [], .str []]),
     (6, .box (0, 0) [.int .i64 2, .imm 2 (trow (tx vs)), .str (rs c1)]), (7, .str (rs ((P : Int) : Rat))), (8, .box (0, 0) [.int .i64 2, .own (0, 0) 2 (trow (tx ((vs.take i).foldl (stepD P) ([], P)).1)), .str (rs (c0 : Rat))]), (9, .str (rs ((((vs.take i).foldl (stepD P) ([], P)).2 : Int) : Rat))),
     (48, .loc 6 (0, 0) 1), (49, .imm 2 (trow (tx vs))), (50, .int .i64 (trow (tx vs)).length), (51, .int .i64 i)] ∧
     i ≤ vs.length ∧ m = vs.length - i) vs.length ?_ ?_ ?_
    ·refine ⟨0, ?_, by omega, by omega⟩
     rw [List.take_zero]
     rfl
    ·show _ < 4611686018427387904; omega
    ·rintro e m ⟨i, rfl, hi, rfl⟩
     refine zs0 ?_
     refine W.cond rfl (fun hlt => ?_) (fun hlt => ?_)
     ·have hlt := of_decide_eq_true hlt
      rw [trow_len, tx_len] at hlt
      have hget : (trow (tx vs))[i]? = some [.str (vs.getD i ([], 0)).1, .str (rs (vs.getD i ([], 0)).2)] := tx_get (by omega)
      have hmem := getD_mem (us := vs) (i := i) (by omega)
      have hv2 := hvs _ hmem
      have hrm := rem_Q (k := k + 5) (vs.getD i ([], 0)).2.num (P : Int) (by omega) (L := 11000) (Nat.le_trans hv2.1 (by omega)) hP (by omega)
      rw [← show (vs.getD i ([], 0)).2 = (((vs.getD i ([], 0)).2.num : Int) : Rat) from hvi _ hmem] at hrm
      have hsn := foldD_snoc P (vs.take i) (vs.getD i ([], 0)) ([], P)
      rw [← take_snoc (show i < vs.length by omega)] at hsn
      have hinv := hf i
      have hr1 := Int.emod_nonneg (vs.getD i ([], 0)).2.num (show (P : Int) ≠ 0 by omega)
      have hr2 := Int.emod_lt_of_pos (vs.getD i ([], 0)).2.num (show (0 : Int) < P by omega)
      rw [stepD_def] at hsn
      generalize (vs.take i).foldl (stepD P) ([], P) = st at *
      generalize (vs.getD i ([], 0)).1 = nm at *
      generalize hr : (vs.getD i ([], 0)).2.num % (P : Int) = r at *
      obtain ⟨i1, i2, i3, i4, i5⟩ := hinv
      rw [List.length_take] at i1
      have hmn := Nat.min_le_left i vs.length
      have hgc := gcd_Q (k := k + 6) (st.2 : Int) r (L := 11000) i3 (Nat.le_trans (dec_len_mono (show r.natAbs ≤ P by omega)) hP) (by omega)
      refine zs0 ?_
      refine wI te rfl rfl rfl rfl rfl rfl (by omega) (hget) ?_
      refine zs1 hrm ?_
      refine W.cond rfl (fun b1 => ?_) (fun b1 => ?_)
      ·have b1 : ¬ r = 0 := fun e => of_decide_eq_true b1 ((rs_int0 r).2 e)
       rw [if_neg b1] at hsn
       refine zs0 ?_
       refine wS te rfl rfl (by simp [trow_len, tx_len]; omega) ?_
       refine zs1 hgc ?_
       rw [wrap_i64 (x := (i : Int) + 1) (by omega) (by omega)]
       show ∃ m', _
       refine ⟨vs.length - (i + 1), by omega, i + 1, ?_, by omega, rfl⟩
       rw [hsn]
       have e : (trow (tx st.1)).take (trow (tx st.1)).length ++ [[PV.str nm, .str (rs (r : Rat))]] = trow (tx (st.1 ++ [(nm, (r : Rat))])) := by
        rw [List.take_length]; simp [trow, tx]
       rw [← e]
       rfl
      ·have b1 : r = 0 := (rs_int0 r).1 (Classical.not_not.1 (of_decide_eq_false b1))
       rw [if_pos b1] at hsn
       refine zs0 ?_
       rw [wrap_i64 (x := (i : Int) + 1) (by omega) (by omega)]
       show ∃ m', _
       refine ⟨vs.length - (i + 1), by omega, i + 1, ?_, by omega, rfl⟩
       rw [hsn]
       rfl
     ·have hlt := of_decide_eq_false hlt
      rw [trow_len, tx_len] at hlt
      have hie : i = vs.length := by omega
      subst hie
      have hinv := hf vs.length
      rw [List.take_length] at hinv ⊢
      unfold divE
      generalize vs.foldl (stepD P) ([], P) = st at *
      obtain ⟨i1, i2, i3, i4, i5⟩ := hinv
      have hrem2 := rem_Q (k := k + 5) c0 (st.2 : Int) (by omega) (L := 11000) hc0 i3 (by omega)
      have hz1 : szQ ((1 : Int) : Rat) 11000 := szZ (by rw [show (1 : Int).natAbs = 1 from rfl, dec1_len]; omega)
      have hz2 : szQ ((st.2 : Int) : Rat) 11000 := szZ (a := (st.2 : Int)) i3
      have hne : ((st.2 : Int) : Rat) ≠ 0 := by
       intro h
       have h2 : (st.2 : Int) = 0 := by exact_mod_cast h
       omega
      have hdv := div_Q (k := k + 3) ((1 : Int) : Rat) ((st.2 : Int) : Rat) hne hz1 hz2 (by omega)
      rw [show rs ((1 : Int) : Rat) = [49] from (rs_nat 1).trans decOne] at hdv
      have hzd := szQ_div hne hz1 hz2
      have hs2 := scale_T (k := k + 2) 2 st.1 (c0 : Rat) (((1 : Int) : Rat) / ((st.2 : Int) : Rat)) (L := 22000) ((szZ hc0).mono (by omega)) hzd (fun u h => (i5 u h).mono (by omega)) (by omega) (by omega)
      have hqu := quo_Q (k := k + 5) (P : Int) (st.2 : Int) (by omega) (L := 11000) hP i3 (by omega)
      refine zs1 hrem2 ?_
      refine W.cond rfl (fun b1 => ?_) (fun b1 => ?_)
      ·have b1 : ¬ c0 % (st.2 : Int) = 0 := fun e => of_decide_eq_true b1 ((rs_int0 _).2 e)
       rw [if_pos b1]
       refine zs1 (truth_T (k := k + 11) 2 (!decide ((5 : Int) = 4))) ?_
       rfl
      ·have b1 : c0 % (st.2 : Int) = 0 := (rs_int0 _).1 (Classical.not_not.1 (of_decide_eq_false b1))
       rw [if_neg (fun h => h b1)]
       refine zs0 ?_
       refine W.cond rfl (fun b2 => ?_) (fun b2 => ?_)
       ·have b2 : st.2 = P := rs_eq_nat.1 (of_decide_eq_true b2)
        rw [if_pos b2]
        refine zs1 (truth_T (k := k + 11) 2 (decide ((5 : Int) = 4))) ?_
        rfl
       ·have b2 : ¬ st.2 = P := fun e => of_decide_eq_false b2 (rs_eq_nat.2 e)
        rw [if_neg b2]
        refine zd8 ?_
        refine zd4 hdv ?_
        refine zd4 hs2 ?_
        refine zd5 hqu ?_
        rfl
end Go.PE
namespace Go.PE
open Go.RowKit Go.Proofs.Tryz
set_option maxRecDepth 100000
variable {k : Nat}
theorem eq92_1 : prog.eqGuardType prog.depth 92 = false := by kernel_rfl
theorem eq92_2 : isAggT prog 92 = some true := by kernel_rfl
theorem eq92_3 : sizeT prog 9 = some 1 := by kernel_rfl
theorem eq92_4 : isAggT prog 9 = some false := by kernel_rfl
theorem eq92 (a b : Bs) : eqS prog 92 (.agg [.str a, .str b]) (.agg [.str a, .str b]) = some true := by
 unfold eqS
 simp only [eq92_1, eq92_2]
 simp [eqT, underlying92, eq92_3, eq92_4]
theorem same_T (kd : Int) (ts : List Trm) (c : Bs) (hl : ts.length < 1073741824) :
  T (k + 1) 37 [.agg [.int .i64 kd, .imm 2 (trow ts), .str c], .agg [.int .i64 kd, .imm 2 (trow ts), .str c]] = some (.bool true, []) := by
 refine enter rfl func37 rfl (by decide) (by kernel_rfl) rfl rfl ?_
 refine zs0 ?_
 refine WX.boolM rfl rfl (fun b1 => ?_) (fun b1 => ?_)
 ·exact absurd rfl (of_decide_eq_true b1)
 ·refine zs0 ?_
  refine WX.boolM rfl rfl (fun b2 => ?_) (fun b2 => ?_)
  ·exact absurd rfl (of_decide_eq_true b2)
  ·refine zs0 ?_
   refine W.cond rfl (fun b3 => ?_) (fun b3 => ?_)
   ·exact absurd rfl (of_decide_eq_true b3)
   ·refine zs0 ?_
    refine W.loop (fun e m => ∃ (i : Nat), e = [(2, .box (0, 0) [.int .i64 kd, .imm 2 (trow ts), .str c]), (3, .box (0, 0) [.int .i64 kd, .imm 2 (trow ts), .str c]), (5, .int .i64 i)] ∧
     i ≤ ts.length ∧ m = ts.length - i) ts.length ?_ ?_ ?_
    ·exact ⟨0, rfl, by omega, by omega⟩
    ·show _ < 4611686018427387904; omega
    ·rintro e m ⟨i, rfl, hi, rfl⟩
     refine zs0 ?_
     refine W.cond rfl (fun hlt => ?_) (fun hlt => ?_)
     ·have hlt := of_decide_eq_true hlt
      rw [trow_len] at hlt
      have hget := trow_get (ts := ts) (i := i) (by omega)
      refine zd8 ?_
      refine WX.idxImmD tab_eq rfl rfl rfl rfl rfl rfl (by omega) (hget) ?_
      refine zd0 ?_
      refine WX.idxImmD tab_eq rfl rfl rfl rfl rfl rfl (by omega) (hget) ?_
      refine zd0 ?_
      refine WX.neAggD rfl rfl rfl (eq92 _ _) ?_
      refine WX.nilD (by kernel_rfl) ?_
      refine zs0 ?_
      rw [wrap_i64 (x := (i : Int) + 1) (by omega) (by omega)]
      show ∃ m', _
      exact ⟨ts.length - (i + 1), by omega, i + 1, rfl, by omega, rfl⟩
     ·refine zs0 ?_
      rfl
theorem sameCon_T (rel kd : Int) (ts : List Trm) (c m : Bs) (hl : ts.length < 1073741824) :
  T (k + 2) 28 [.agg [.int .i64 rel, .int .i64 kd, .imm 2 (trow ts), .str c, .str m], .agg [.int .i64 rel, .int .i64 kd, .imm 2 (trow ts), .str c, .str m]] = some (.bool true, []) := by
 have h := same_T (k := k) kd ts c hl
 refine enter rfl func28 rfl (by decide) (by kernel_rfl) rfl rfl ?_
 refine zs0 ?_
 refine WX.boolM rfl rfl (fun b1 => ?_) (fun b1 => ?_)
 ·refine zs0 ?_
  refine WX.boolM rfl rfl (fun b2 => ?_) (fun b2 => ?_)
  ·refine zs1 h ?_
   rfl
  ·exact absurd rfl (of_decide_eq_false b2)
 ·exact absurd rfl (of_decide_eq_false b1)
end Go.PE
namespace Go.PE
open Go.RowKit Go.Proofs.Tryz
set_option maxRecDepth 100000
variable {k : Nat}
theorem sz_of_len {q : Rat} {L : Nat} (h1 : 1 ≤ L) (h : (rs q).length ≤ L) : szQ q L := by
 unfold rs qt at h
 rw [List.length_append, List.length_append] at h
 unfold szQ
 refine ⟨by omega, ?_⟩
 by_cases hd : q.den = 1
 ·rw [hd, dec1_len]; exact h1
 ·rw [if_neg hd, List.length_cons] at h; omega
theorem con_cases {rel kd : Int} {ts : List Trm} {c m : Bs} (h : conB rel kd ts c m = true) (hl : ts.length ≤ 8) (ht : ∀ t ∈ ts, t.2.length ≤ 1000) (hc : c.length ≤ 1000) (hm : m.length ≤ 1000) :
  ∃ (us : List QT) (q : Rat), ts = tx us ∧ c = rs q ∧ goodU us ∧ szQ q 1000 ∧ (kd = 2 ∨ kd = 3) ∧
   ((m = [] ∧ (rel = 1 ∨ rel = 2 ∨ rel = 3)) ∨ (kd = 2 ∧ (rel = 4 ∨ rel = 5) ∧ ∃ M : Nat, M ≠ 0 ∧ m = rs ((M : Int) : Rat) ∧ (dec M).length ≤ 1000)) := by
 have hlin : linB kd ts c = true ∧ ((m = [] ∧ (rel = 1 ∨ rel = 2 ∨ rel = 3)) ∨ (kd = 2 ∧ (rel = 4 ∨ rel = 5) ∧ isIq m = true ∧ 0 < sgq m)) := by
  unfold conB at h
  split at h
  ·rename_i hr
   simp only [Bool.and_eq_true, decide_eq_true_eq] at h
   exact ⟨h.1, .inl ⟨h.2, hr⟩⟩
  ·split at h
   ·rename_i hr
    simp only [Bool.and_eq_true, decide_eq_true_eq] at h
    exact ⟨h.1, .inr ⟨h.2.1, hr, h.2.2.1, h.2.2.2⟩⟩
   ·cases h
 obtain ⟨h1, h2⟩ := hlin
 unfold linB at h1
 simp only [Bool.and_eq_true, Bool.or_eq_true, decide_eq_true_eq, List.all_eq_true, List.mem_range] at h1
 obtain ⟨hk, hcs, hok⟩ := h1
 obtain ⟨q, hq⟩ := Option.isSome_iff_exists.1 hcs
 have hcq := rs_rd hq
 have hok2 : ∀ t ∈ ts, ∃ u : Rat, rd t.2 = some u ∧ t.2 ≠ [48] := by
  intro t htm
  obtain ⟨i, hi, he⟩ := List.mem_iff_getElem.1 htm
  have h3 := hok i hi
  have e : ts.getD i ([], []) = t := by simp [List.getD, List.getElem?_eq_getElem hi, he]
  unfold okI at h3
  rw [e] at h3
  simp only [Bool.and_eq_true, decide_eq_true_eq] at h3
  obtain ⟨u, hu⟩ := Option.isSome_iff_exists.1 h3.2.1
  exact ⟨u, hu, h3.2.2.1⟩
 refine ⟨ts.map fun t => (t.1, (rd t.2).getD 0), q, ?_, hcq, ⟨by simpa using hl, ?_⟩, sz_of_len (by omega) (hcq ▸ hc), hk, ?_⟩
 ·unfold tx
  rw [List.map_map]
  conv => lhs; rw [← List.map_id ts]
  refine List.map_congr_left fun t htm => ?_
  obtain ⟨u, hu, _⟩ := hok2 t htm
  have := rs_rd hu
  show t = (t.1, rs ((rd t.2).getD 0))
  rw [hu]
  show t = (t.1, rs u)
  rw [← this]
 ·intro v hv
  obtain ⟨t, htm, rfl⟩ := List.mem_map.1 hv
  obtain ⟨u, hu, hne⟩ := hok2 t htm
  have e := rs_rd hu
  show szQ ((rd t.2).getD 0) 1000 ∧ (rd t.2).getD 0 ≠ 0
  rw [hu]
  show szQ u 1000 ∧ u ≠ 0
  refine ⟨sz_of_len (by omega) (e ▸ ht t htm), fun h0 => hne ?_⟩
  rw [e, h0]; exact rs_zero
 ·rcases h2 with h2 | ⟨a1, a2, a3, a4⟩
  ·exact .inl h2
  ·refine .inr ⟨a1, a2, ?_⟩
   unfold isIq at a3
   unfold sgq at a4
   cases hr : rd m with
   | none => rw [hr] at a3; cases a3
   | some w =>
    rw [hr] at a3 a4
    have hd : w.den = 1 := of_decide_eq_true a3
    have hw : 0 < w.num := by
     rcases sgn_cases w with ⟨_, b2⟩ | ⟨_, b2⟩ | ⟨b1, _⟩
     ·simp only at a4; omega
     ·simp only at a4; omega
     ·exact b1
    have e : w = ((w.num.natAbs : Int) : Rat) := by
     have e1 : ((w.num.natAbs : Nat) : Int) = w.num := by omega
     rw [e1]
     have := Rat.num_divInt_den w
     rw [hd] at this
     exact this.symm.trans (divInt_one' _)
    have hm2 := rs_rd hr
    have hsz := sz_of_len (q := w) (L := 1000) (by omega) (hm2 ▸ hm)
    refine ⟨w.num.natAbs, by omega, ?_, hsz.1⟩
    rw [hm2]
    exact congrArg rs e
def zeroC : PV := .agg [.int .i64 0, .int .i64 0, .imm 2 [], .str [], .str []]
def conS (v : PV) : Prop := ∃ (r kd : Int) (ts : List Trm) (c m : Bs), v = .agg [.int .i64 r, .int .i64 kd, .imm 2 (trow ts), .str c, .str m] ∧ ts.length ≤ 8
theorem truQ_S (kd : Int) (b : Bool) : conS (truQ kd b) := ⟨_, _, [], _, _, rfl, by simp⟩
theorem conQ_S {rel kd : Int} {us : List QT} {c : Rat} {m : Bs} (h : us.length ≤ 8) : conS (conQ rel kd us c m) := ⟨_, _, _, _, _, rfl, by rw [tx_len]; exact h⟩
theorem scU_len (us : List QT) (q : Rat) : (scU us q).length ≤ us.length := by
 unfold scU; split
 ·simp
 ·rw [mulU_len]; exact Nat.le_refl _
theorem divV_shape (rel : Int) {us : List QT} {c : Rat} (M : Nat) (hg : goodU us) (hc : szQ c 1000) (hM0 : M ≠ 0) (hM : (dec M).length ≤ 1000) : conS (divV rel us c M) := by
 have hP0 : M * dD us c ≠ 0 := Nat.mul_ne_zero hM0 (dD_ne us c)
 have hP : (dec (M * dD us c)).length ≤ 11000 := by have := dec_mul_len M (dD us c); have := dD_len hg hc; omega
 have hf := invD_fold hP0 hP (scU us ((dD us c : Int) : Rat)) (invD_0 hP0 hP)
 rw [vs_len] at hf
 have := hf.1
 have h8 := hg.1
 unfold divV divE
 split
 ·exact truQ_S _ _
 ·split
  ·exact truQ_S _ _
  ·refine conQ_S (Nat.le_trans (scU_len _ _) (by omega))
theorem normalD_T (rel : Int) (us : List QT) (c : Rat) (M : Nat) (hrel : rel = 4 ∨ rel = 5) (hg : goodU us) (hc : szQ c 1000) (hM0 : M ≠ 0) (hM : (dec M).length ≤ 1000)
  (hv : T (k + 13) 24 [conQ rel 2 us c (rs ((M : Int) : Rat))] = some (.bool true, [])) : T (k + 14) 26 [conQ rel 2 us c (rs ((M : Int) : Rat))] = some (.tup [divV rel us c M, .int .i64 0], []) := by
 have hd := normalDivides_T (k := k) rel us c M hrel hg hc hM0 hM
 obtain ⟨r, kd, ts, c', m, he, _⟩ := divV_shape rel M hg hc hM0 hM
 rw [he] at hd ⊢
 rcases hrel with rfl | rfl
 all_goals
  refine enter rfl func26 rfl (by decide) (by kernel_rfl) rfl rfl ?_
  refine zs1 hv ?_
  refine zs2 hd ?_
  rfl
end Go.PE
namespace Go.PE
open Go.RowKit Go.Proofs.Tryz
set_option maxRecDepth 100000
variable {k : Nat}
def smallC (b : Con) : Prop := b.ts.length ≤ 8 ∧ (∀ t ∈ b.ts, t.1.length ≤ 1000 ∧ t.2.length ≤ 1000) ∧ b.c.length ≤ 1000 ∧ b.m.length ≤ 1000
end Go.PE
namespace Go.PE
open Go.RowKit Go.Proofs.Tryz
set_option maxRecDepth 100000
variable {k : Nat}
def okAll (ts : List Trm) : Prop := ∀ i, i < ts.length → okI ts i = true
theorem okAll_snoc {ts : List Trm} {x : Bs} {q : Rat} (h : okAll ts) (hx : nameB x = true) (hq : rs q ≠ [48]) (hlt : ∀ t ∈ ts, Op.bytesLess t.1 x = true) : okAll (ts ++ [(x, rs q)]) := by
 intro i hi
 rw [List.length_append, List.length_singleton] at hi
 by_cases he : i = ts.length
 ·subst he
  unfold okI
  have e1 : (ts ++ [(x, rs q)]).getD ts.length ([], []) = (x, rs q) := by simp [List.getD]
  rw [e1]
  simp only [hx, rd_rs, Option.isSome_some, Bool.true_and]
  rw [decide_eq_true hq, Bool.true_and]
  by_cases h0 : ts.length = 0
  ·rw [decide_eq_true h0]; rfl
  ·have hl : ts.length - 1 < ts.length := by omega
   have e2 : (ts ++ [(x, rs q)]).getD (ts.length - 1) ([], []) = ts[ts.length - 1] := by
    simp [List.getD, List.getElem?_append_left hl, List.getElem?_eq_getElem hl]
   rw [e2, hlt _ (List.getElem_mem hl), Bool.or_true]
 ·have hl : i < ts.length := by omega
  have h3 := h i hl
  unfold okI at h3 ⊢
  have e1 : (ts ++ [(x, rs q)]).getD i ([], []) = ts.getD i ([], []) := by simp [List.getD, List.getElem?_append_left hl]
  have e2 : (ts ++ [(x, rs q)]).getD (i - 1) ([], []) = ts.getD (i - 1) ([], []) := by
   have : i - 1 < ts.length := by omega
   simp [List.getD, List.getElem?_append_left this]
  rw [e1, e2]; exact h3
def linI (pre : List Bs) (ts : List Trm) : Prop := okAll ts ∧ ∀ t ∈ ts, t.1 ∈ pre ∧ t.2.length ≤ 100
theorem linS_in {st : Ch × List Trm} {x : Bs} {pre : List Bs} (h : linI pre st.2) (hx : nameB x = true) (hlt : ∀ a ∈ pre, Op.bytesLess a x = true) : linI (pre ++ [x]) (linS st x).2 := by
 obtain ⟨h1, h2⟩ := h
 unfold linS
 simp only
 split
 ·rename_i hc
  refine ⟨okAll_snoc h1 hx hc.2 fun t ht => hlt _ (h2 t ht).1, fun t ht => ?_⟩
  rcases List.mem_append.1 ht with ht | ht
  ·exact ⟨by simp [(h2 t ht).1], (h2 t ht).2⟩
  ·obtain rfl := List.mem_singleton.1 ht
   exact ⟨by simp, numQ_len _⟩
 ·exact ⟨h1, fun t ht => ⟨by simp [(h2 t ht).1], (h2 t ht).2⟩⟩
theorem linG_ok2 (c : Ch) : linI vars (linG c).2.2 := by
 have h0 : linI [] (numC c, ([] : List Trm)).2 := ⟨fun i hi => by simp at hi, fun t ht => by cases ht⟩
 have h1 := linS_in (x := [117]) h0 (by decide) (by decide)
 have h2 := linS_in (x := [118]) h1 (by decide) (by decide)
 have h3 := linS_in (x := [120]) h2 (by decide) (by decide)
 exact linS_in (x := [121]) h3 (by decide) (by decide)
theorem linG_lin (kd : Int) (hkd : kd = 2 ∨ kd = 3) (c : Ch) : linB kd (linG c).2.2 (linG c).1 = true := by
 have h := (linG_ok2 c).1
 unfold linB
 rw [show (linG c).1 = rs (numQ c) from rfl, rd_rs]
 simp only [Option.isSome_some, Bool.true_and, Bool.and_eq_true, Bool.or_eq_true, decide_eq_true_eq, List.all_eq_true, List.mem_range]
 exact ⟨hkd, h⟩
theorem conG_good (c : Ch) : smallC (conG c).1 ∧ conB (conG c).1.rel (conG c).1.kind (conG c).1.ts (conG c).1.c (conG c).1.m = true := by
 have b1 := nx_lt c (n := 5) (by omega) (by omega)
 have b2 := nx_lt (nxC c) (n := 2) (by omega) (by omega)
 have b4 := nx_lt (linG (nxC (nxC c))).2.1 (n := 12) (by omega) (by omega)
 have hv : ∀ a ∈ vars, a.length ≤ 1000 := by decide
 have hl := linG_len (nxC (nxC c))
 have hc := linG_c (nxC (nxC c))
 obtain ⟨h1, h2⟩ := linG_ok2 (nxC (nxC c))
 have h3 := fun kd hkd => linG_lin kd hkd (nxC (nxC c))
 unfold conG
 simp only
 generalize linG (nxC (nxC c)) = l at *
 generalize nxV c 5 = v1 at *
 generalize nxV (nxC c) 2 = v2 at *
 generalize nxV l.2.1 12 = v4 at *
 by_cases hr : 4 ≤ 1 + v1
 ·rw [if_pos hr]
  refine ⟨⟨by show l.2.2.length ≤ 8; omega, fun t ht => ⟨hv _ (h2 t ht).1, by have := (h2 t ht).2; omega⟩, by show l.1.length ≤ 1000; omega, ?_⟩, ?_⟩
  ·show (rs ((1 + v4 : Int) : Rat)).length ≤ 1000
   have e : (1 + v4 : Int) = (((1 + v4).toNat : Nat) : Int) := by omega
   rw [e, rs_nat]
   have := dec_len_mono (show (1 + v4).toNat ≤ 12 by omega)
   have h12 : (dec 12).length = 2 := by rw [← decN_eq]; rfl
   omega
  ·unfold conB
   simp only
   rw [if_neg (by omega), if_pos (by omega), h3 2 (.inl rfl)]
   unfold isIq sgq
   rw [rd_rs]
   have hs : 0 < sgn ((1 + v4 : Int) : Rat) := by
    rcases sgn_cases ((1 + v4 : Int) : Rat) with ⟨a, _⟩ | ⟨a, _⟩ | ⟨_, a⟩
    ·have a : 1 + v4 < 0 := a
     omega
    ·have a : (1 + v4 : Int) = 0 := by exact_mod_cast a
     omega
    ·rw [a]; decide
   simp only [Bool.true_and, decide_true]
   rw [decide_eq_true hs]
   rfl
 ·rw [if_neg hr]
  refine ⟨⟨by show l.2.2.length ≤ 8; omega, fun t ht => ⟨hv _ (h2 t ht).1, by have := (h2 t ht).2; omega⟩, by show l.1.length ≤ 1000; omega, by simp⟩, ?_⟩
  unfold conB
  simp only
  rw [if_pos (by omega), h3 (2 + v2) (by omega)]
  rfl
end Go.PE
namespace Go.PE
open Go.RowKit Go.Proofs.Tryz
set_option maxRecDepth 100000
variable {k : Nat}
end Go.PE
namespace Go.PE
open Go.RowKit Go.Proofs.Tryz
set_option maxRecDepth 100000
abbrev lss (a b : Bs) : Prop := Op.bytesLess a b = true
theorem lss_irr : ∀ a : Bs, ¬ lss a a
 | [] => by simp [lss, Op.bytesLess]
 | a :: x => by
  have := lss_irr x
  simp [lss, Op.bytesLess] at this ⊢
  exact this
theorem lss_tr : ∀ {a b c : Bs}, lss a b → lss b c → lss a c
 | _, [], _, h, _ => by cases ‹Bs› <;> simp [lss, Op.bytesLess] at h
 | _, _ :: _, [], _, h => by simp [lss, Op.bytesLess] at h
 | [], _ :: _, _ :: _, _, _ => by simp [lss, Op.bytesLess]
 | a :: x, b :: y, c :: z, h, h' => by
  have ih := @lss_tr x y z
  simp only [lss, Op.bytesLess, Bool.or_eq_true, decide_eq_true_eq, Bool.and_eq_true, beq_iff_eq] at h h' ih ⊢
  rcases h with h | ⟨rfl, h⟩
  ·rcases h' with h' | ⟨rfl, _⟩
   ·exact .inl (UInt8.lt_trans h h')
   ·exact .inl h
  ·rcases h' with h' | ⟨rfl, h'⟩
   ·exact .inl h'
   ·exact .inr ⟨rfl, ih h h'⟩
theorem lss_tri : ∀ {a b : Bs}, ¬ lss a b → ¬ lss b a → a = b
 | [], [], _, _ => rfl
 | [], _ :: _, h, _ => by simp [lss, Op.bytesLess] at h
 | _ :: _, [], _, h => by simp [lss, Op.bytesLess] at h
 | a :: x, b :: y, h, h' => by
  have ih := @lss_tri x y
  simp only [lss, Op.bytesLess, Bool.or_eq_true, decide_eq_true_eq, Bool.and_eq_true, beq_iff_eq, not_or, not_and] at h h' ih
  have e : a = b := UInt8.le_antisymm (UInt8.not_lt.1 h'.1) (UInt8.not_lt.1 h.1)
  subst e
  rw [ih (h.2 rfl) (h'.2 rfl)]
theorem lss_ne {a b : Bs} (h : lss a b) : a ≠ b := fun e => lss_irr b (e ▸ h)
theorem lss_as {a b : Bs} (h : lss a b) : ¬ lss b a := fun h' => lss_irr a (lss_tr h h')
def okU (us : List QT) : Prop := (∀ u ∈ us, nameB u.1 = true ∧ u.2 ≠ 0) ∧ us.Pairwise (fun a b => lss a.1 b.1)
theorem okU_nil : okU [] := ⟨fun u hu => (by cases hu), .nil⟩
theorem okU_cons {u : QT} {us : List QT} : okU (u :: us) ↔ (nameB u.1 = true ∧ u.2 ≠ 0) ∧ (∀ v ∈ us, lss u.1 v.1) ∧ okU us := by
 unfold okU
 rw [List.pairwise_cons]
 constructor
 ·rintro ⟨h1, h2, h3⟩
  exact ⟨h1 u (by simp), h2, fun v hv => h1 v (by simp [hv]), h3⟩
 ·rintro ⟨h1, h2, h3, h4⟩
  refine ⟨fun v hv => ?_, h2, h4⟩
  rcases List.mem_cons.1 hv with rfl | hv
  ·exact h1
  ·exact h3 v hv
theorem tx_getD {us : List QT} {i : Nat} (h : i < us.length) : (tx us).getD i ([], []) = ((us.getD i ([], 0)).1, rs (us.getD i ([], 0)).2) := by
 simp [tx, List.getD, List.getElem?_eq_getElem h]
theorem adj_pair {us : List QT} (h : ∀ i, i < us.length → i ≠ 0 → lss (us.getD (i - 1) ([], 0)).1 (us.getD i ([], 0)).1) : us.Pairwise (fun a b => lss a.1 b.1) := by
 induction us with
 | nil => exact .nil
 | cons u us ih =>
  have h2 : us.Pairwise (fun a b => lss a.1 b.1) := ih fun i hi h0 => by
   have := h (i + 1) (by simp only [List.length_cons]; omega) (by omega)
   rw [show i + 1 - 1 = (i - 1) + 1 by omega] at this
   simpa [List.getD] using this
  refine List.pairwise_cons.2 ⟨?_, h2⟩
  cases us with
  | nil => intro v hv; cases hv
  | cons w ws =>
   have h3 : lss u.1 w.1 := by
    have := h 1 (by simp) (by omega)
    simpa [List.getD] using this
   intro v hv
   rcases List.mem_cons.1 hv with rfl | hv
   ·exact h3
   ·exact lss_tr h3 ((List.pairwise_cons.1 h2).1 v hv)
theorem pair_adj {us : List QT} (h : us.Pairwise (fun a b => lss a.1 b.1)) {i : Nat} (hi : i < us.length) (h0 : i ≠ 0) : lss (us.getD (i - 1) ([], 0)).1 (us.getD i ([], 0)).1 := by
 have h1 : i - 1 < us.length := by omega
 have := List.pairwise_iff_getElem.1 h (i - 1) i h1 hi (by omega)
 simpa [List.getD, List.getElem?_eq_getElem h1, List.getElem?_eq_getElem hi] using this
theorem okI_tx {us : List QT} {i : Nat} (hi : i < us.length) : okI (tx us) i = true ↔ nameB (us.getD i ([], 0)).1 = true ∧ (us.getD i ([], 0)).2 ≠ 0 ∧ (i ≠ 0 → lss (us.getD (i - 1) ([], 0)).1 (us.getD i ([], 0)).1) := by
 unfold okI
 rw [tx_getD hi, tx_getD (show i - 1 < us.length by omega)]
 simp only [rd_rs, Option.isSome_some, Bool.true_and, Bool.and_eq_true, Bool.or_eq_true, decide_eq_true_eq, ne_eq, rs_is0, lss]
 constructor
 ·rintro ⟨h1, h2, h3⟩
  exact ⟨h1, h2, fun h0 => h3.resolve_left h0⟩
 ·rintro ⟨h1, h2, h3⟩
  exact ⟨h1, h2, (Classical.em (i = 0)).imp id h3⟩
theorem linB_tx {kd : Int} {us : List QT} {q : Rat} : linB kd (tx us) (rs q) = true ↔ (kd = 2 ∨ kd = 3) ∧ okU us := by
 unfold linB
 simp only [rd_rs, Option.isSome_some, Bool.true_and, Bool.and_eq_true, Bool.or_eq_true, decide_eq_true_eq, List.all_eq_true, List.mem_range, tx_len]
 refine and_congr_right fun _ => ⟨fun h => ⟨fun u hu => ?_, adj_pair fun i hi h0 => ((okI_tx hi).1 (h i hi)).2.2 h0⟩, fun h i hi => (okI_tx hi).2 ?_⟩
 ·obtain ⟨i, hi, rfl⟩ := List.mem_iff_getElem.1 hu
  have := (okI_tx hi).1 (h i hi)
  simp only [List.getD, List.getElem?_eq_getElem hi, Option.getD_some] at this
  exact ⟨this.1, this.2.1⟩
 ·exact ⟨(h.1 _ (getD_mem hi)).1, (h.1 _ (getD_mem hi)).2, fun h0 => pair_adj h.2 hi h0⟩
theorem linB_ex {kd : Int} {ts : List Trm} {c : Bs} (h : linB kd ts c = true) : ∃ (us : List QT) (q : Rat), ts = tx us ∧ c = rs q ∧ (kd = 2 ∨ kd = 3) ∧ okU us := by
 have h1 := h
 unfold linB at h1
 simp only [Bool.and_eq_true, Bool.or_eq_true, decide_eq_true_eq, List.all_eq_true, List.mem_range] at h1
 obtain ⟨hk, hcs, hok⟩ := h1
 obtain ⟨q, hq⟩ := Option.isSome_iff_exists.1 hcs
 have hcq := rs_rd hq
 have e : ts = tx (ts.map fun t => (t.1, (rd t.2).getD 0)) := by
  unfold tx
  rw [List.map_map]
  conv => lhs; rw [← List.map_id ts]
  refine List.map_congr_left fun t htm => ?_
  obtain ⟨i, hi, he⟩ := List.mem_iff_getElem.1 htm
  have h3 := hok i hi
  have e : ts.getD i ([], []) = t := by simp [List.getD, List.getElem?_eq_getElem hi, he]
  unfold okI at h3
  rw [e] at h3
  simp only [Bool.and_eq_true, decide_eq_true_eq] at h3
  obtain ⟨u, hu⟩ := Option.isSome_iff_exists.1 h3.2.1
  have := rs_rd hu
  show t = (t.1, rs ((rd t.2).getD 0))
  rw [hu]
  show t = (t.1, rs u)
  rw [← this]
 refine ⟨_, q, e, hcq, hk, ?_⟩
 rw [e, hcq] at h
 exact (linB_tx.1 h).2
def co : List QT → Bs → Rat
 | [], _ => 0
 | u :: us, n => if u.1 = n then u.2 else co us n
theorem co_0 {us : List QT} {n : Bs} (h : ∀ u ∈ us, u.1 ≠ n) : co us n = 0 := by
 induction us with
 | nil => rfl
 | cons u us ih =>
  unfold co
  rw [if_neg (h u (by simp)), ih fun v hv => h v (by simp [hv])]
theorem co_lt {us : List QT} {n : Bs} (h : ∀ u ∈ us, lss n u.1) : co us n = 0 := co_0 fun u hu => (lss_ne (h u hu)).symm
theorem okU_ext : ∀ {a b : List QT}, okU a → okU b → (∀ n, co a n = co b n) → a = b
 | [], [], _, _, _ => rfl
 | [], v :: b, _, hb, h => by
  have := h v.1
  simp only [co, if_true] at this
  exact absurd this.symm (okU_cons.1 hb).1.2
 | u :: a, [], ha, _, h => by
  have := h u.1
  simp only [co, if_true] at this
  exact absurd this (okU_cons.1 ha).1.2
 | u :: a, v :: b, ha, hb, h => by
  obtain ⟨⟨_, u0⟩, hu, ha'⟩ := okU_cons.1 ha
  obtain ⟨⟨_, v0⟩, hv, hb'⟩ := okU_cons.1 hb
  have e : u.1 = v.1 := by
   refine lss_tri (fun hlt => ?_) (fun hlt => ?_)
   ·have := h u.1
    rw [co_lt (us := v :: b) (fun w hw => by
     rcases List.mem_cons.1 hw with rfl | hw
     ·exact hlt
     ·exact lss_tr hlt (hv w hw))] at this
    simp only [co, if_true] at this
    exact u0 this
   ·have := h v.1
    rw [co_lt (us := u :: a) (fun w hw => by
     rcases List.mem_cons.1 hw with rfl | hw
     ·exact hlt
     ·exact lss_tr hlt (hu w hw))] at this
    simp only [co, if_true] at this
    exact v0 this.symm
  have e2 : u.2 = v.2 := by
   have := h u.1
   simpa only [co, if_true, e] using this
  have e3 : u = v := Prod.ext e e2
  subst e3
  rw [okU_ext ha' hb' fun n => ?_]
  by_cases hn : u.1 = n
  ·subst hn
   rw [co_lt hu, co_lt hv]
  ·have := h n
   simpa only [co, if_neg hn] using this
theorem mulU_cons (u : QT) (us : List QT) (q : Rat) : mulU (u :: us) q = (u.1, u.2 * q) :: mulU us q := rfl
theorem mulU_mem {us : List QT} {q : Rat} {v : QT} (h : v ∈ mulU us q) : ∃ u ∈ us, v = (u.1, u.2 * q) := by
 obtain ⟨u, hu, rfl⟩ := List.mem_map.1 h
 exact ⟨u, hu, rfl⟩
theorem mulU_mul (us : List QT) (p q : Rat) : mulU (mulU us p) q = mulU us (p * q) := by
 unfold mulU
 rw [List.map_map]
 exact List.map_congr_left fun u _ => by simp [Rat.mul_assoc]
theorem okU_mul {us : List QT} {q : Rat} (h : okU us) (hq : q ≠ 0) : okU (mulU us q) := by
 induction us with
 | nil => exact h
 | cons u us ih =>
  obtain ⟨h1, h2, h3⟩ := okU_cons.1 h
  rw [mulU_cons]
  refine okU_cons.2 ⟨⟨h1.1, fun e => (Rat.mul_eq_zero.1 e).elim h1.2 hq⟩, fun v hv => ?_, ih h3⟩
  obtain ⟨w, hw, rfl⟩ := mulU_mem hv
  exact h2 w hw
theorem okU_sc {us : List QT} {q : Rat} (h : okU us) : okU (scU us q) := by
 unfold scU
 split
 ·exact okU_nil
 ·exact okU_mul h ‹_›
theorem co_mulU (us : List QT) (q : Rat) (n : Bs) : co (mulU us q) n = co us n * q := by
 induction us with
 | nil => exact (Rat.zero_mul q).symm
 | cons u us ih =>
  rw [mulU_cons]
  unfold co
  split
  ·rfl
  ·exact ih
theorem co_sc (us : List QT) (q : Rat) (n : Bs) : co (scU us q) n = co us n * q := by
 unfold scU
 split
 ·rename_i h
  rw [h, Rat.mul_zero]; rfl
 ·exact co_mulU us q n
def addU : List QT → List QT → List QT
 | [], b => b
 | u :: a, [] => u :: a
 | u :: a, v :: b =>
  if lss u.1 v.1 then u :: addU a (v :: b) else
  if lss v.1 u.1 then v :: addU (u :: a) b else
  if u.2 + v.2 = 0 then addU a b else (u.1, u.2 + v.2) :: addU a b
termination_by a b => a.length + b.length
theorem addU_nil (a : List QT) : addU a [] = a := by cases a <;> simp [addU]
theorem nil_addU (b : List QT) : addU [] b = b := by simp [addU]
theorem addU_lt {u v : QT} {a b : List QT} (h : lss u.1 v.1) : addU (u :: a) (v :: b) = u :: addU a (v :: b) := by
 rw [addU, if_pos h]
theorem addU_gt {u v : QT} {a b : List QT} (h : lss v.1 u.1) : addU (u :: a) (v :: b) = v :: addU (u :: a) b := by
 rw [addU, if_neg (lss_as h), if_pos h]
theorem addU_eq {u v : QT} {a b : List QT} (h : u.1 = v.1) : addU (u :: a) (v :: b) = if u.2 + v.2 = 0 then addU a b else (u.1, u.2 + v.2) :: addU a b := by
 have h1 : ¬ lss u.1 v.1 := fun e => lss_ne e h
 have h2 : ¬ lss v.1 u.1 := fun e => lss_ne e h.symm
 rw [addU, if_neg h1, if_neg h2]
theorem addU_low {m : Bs} (a b : List QT) : (∀ u ∈ a, lss m u.1) → (∀ v ∈ b, lss m v.1) → ∀ w ∈ addU a b, lss m w.1 := by
 fun_induction addU a b with
 | case1 b => exact fun _ h => h
 | case2 u a => exact fun h _ => h
 | case3 u a v b h ih =>
  intro ha hb w hw
  rcases List.mem_cons.1 hw with rfl | hw
  ·exact ha _ (by simp)
  ·exact ih (fun x hx => ha x (by simp [hx])) hb w hw
 | case4 u a v b h1 h ih =>
  intro ha hb w hw
  rcases List.mem_cons.1 hw with rfl | hw
  ·exact hb _ (by simp)
  ·exact ih ha (fun x hx => hb x (by simp [hx])) w hw
 | case5 u a v b h1 h2 h ih =>
  intro ha hb w hw
  exact ih (fun x hx => ha x (by simp [hx])) (fun x hx => hb x (by simp [hx])) w hw
 | case6 u a v b h1 h2 h ih =>
  intro ha hb w hw
  rcases List.mem_cons.1 hw with rfl | hw
  ·exact ha u (by simp)
  ·exact ih (fun x hx => ha x (by simp [hx])) (fun x hx => hb x (by simp [hx])) w hw
theorem okU_add (a b : List QT) : okU a → okU b → okU (addU a b) := by
 fun_induction addU a b with
 | case1 b => exact fun _ h => h
 | case2 u a => exact fun h _ => h
 | case3 u a v b h ih =>
  intro ha hb
  obtain ⟨h1, h2, h3⟩ := okU_cons.1 ha
  obtain ⟨k1, k2, k3⟩ := okU_cons.1 hb
  refine okU_cons.2 ⟨h1, addU_low a (v :: b) h2 (fun x hx => ?_), ih h3 hb⟩
  rcases List.mem_cons.1 hx with rfl | hx
  ·exact h
  ·exact lss_tr h (k2 x hx)
 | case4 u a v b h0 h ih =>
  intro ha hb
  obtain ⟨h1, h2, h3⟩ := okU_cons.1 ha
  obtain ⟨k1, k2, k3⟩ := okU_cons.1 hb
  refine okU_cons.2 ⟨k1, addU_low (u :: a) b (fun x hx => ?_) k2, ih ha k3⟩
  rcases List.mem_cons.1 hx with rfl | hx
  ·exact h
  ·exact lss_tr h (h2 x hx)
 | case5 u a v b h1 h2 h ih =>
  intro ha hb
  exact ih (okU_cons.1 ha).2.2 (okU_cons.1 hb).2.2
 | case6 u a v b h1 h2 h ih =>
  intro ha hb
  obtain ⟨g1, g2, g3⟩ := okU_cons.1 ha
  obtain ⟨k1, k2, k3⟩ := okU_cons.1 hb
  have e := lss_tri h1 h2
  exact okU_cons.2 ⟨⟨g1.1, h⟩, addU_low a b g2 (fun x hx => by show lss u.1 x.1; rw [e]; exact k2 x hx), ih g3 k3⟩
theorem co_add (a b : List QT) (n : Bs) : okU a → okU b → co (addU a b) n = co a n + co b n := by
 fun_induction addU a b with
 | case1 b => exact fun _ _ => by simp only [co, Rat.zero_add]
 | case2 u a => exact fun _ _ => by simp only [co, Rat.add_zero]
 | case3 u a v b h ih =>
  intro ha hb
  have ih := ih (okU_cons.1 ha).2.2 hb
  obtain ⟨k1, k2, k3⟩ := okU_cons.1 hb
  by_cases hn : u.1 = n
  ·subst hn
   rw [co_lt (us := v :: b) fun x hx => by
    rcases List.mem_cons.1 hx with rfl | hx
    ·exact h
    ·exact lss_tr h (k2 x hx)]
   simp only [co, if_true, Rat.add_zero]
  ·rw [co, if_neg hn, ih]
   conv => rhs; rw [co, if_neg hn]
 | case4 u a v b h0 h ih =>
  intro ha hb
  have ih := ih ha (okU_cons.1 hb).2.2
  obtain ⟨k1, k2, k3⟩ := okU_cons.1 ha
  by_cases hn : v.1 = n
  ·subst hn
   rw [co_lt (us := u :: a) fun x hx => by
    rcases List.mem_cons.1 hx with rfl | hx
    ·exact h
    ·exact lss_tr h (k2 x hx)]
   simp only [co, if_true, Rat.zero_add]
  ·rw [co, if_neg hn, ih]
   conv => rhs; rhs; rw [co, if_neg hn]
 | case5 u a v b h1 h2 h ih =>
  intro ha hb
  have ih := ih (okU_cons.1 ha).2.2 (okU_cons.1 hb).2.2
  have e := lss_tri h1 h2
  rw [ih]
  by_cases hn : u.1 = n
  ·have hn' : v.1 = n := e ▸ hn
   rw [co_lt (us := a) fun x hx => hn ▸ (okU_cons.1 ha).2.1 x hx, co_lt (us := b) fun x hx => hn' ▸ (okU_cons.1 hb).2.1 x hx]
   simp only [co, if_pos hn, if_pos hn', h, Rat.add_zero]
  ·have hn' : ¬ v.1 = n := e ▸ hn
   simp only [co, if_neg hn, if_neg hn']
 | case6 u a v b h1 h2 h ih =>
  intro ha hb
  have ih := ih (okU_cons.1 ha).2.2 (okU_cons.1 hb).2.2
  have e := lss_tri h1 h2
  by_cases hn : u.1 = n
  ·have hn' : v.1 = n := e ▸ hn
   simp only [co, if_pos hn, if_pos hn']
  ·have hn' : ¬ v.1 = n := e ▸ hn
   simp only [co, if_neg hn, if_neg hn', ih]
theorem addU_len (a b : List QT) : (addU a b).length ≤ a.length + b.length := by
 fun_induction addU a b with
 | case1 b => simp
 | case2 u a => simp
 | case3 u a v b h ih => simp only [List.length_cons] at ih ⊢; omega
 | case4 u a v b h0 h ih => simp only [List.length_cons] at ih ⊢; omega
 | case5 u a v b h1 h2 h ih => simp only [List.length_cons] at ih ⊢; omega
 | case6 u a v b h1 h2 h ih => simp only [List.length_cons] at ih ⊢; omega
theorem addU_sz (a b : List QT) {L M : Nat} : (∀ u ∈ a, szQ u.2 L) → (∀ u ∈ b, szQ u.2 M) → ∀ u ∈ addU a b, szQ u.2 (2 * (L + M)) := by
 fun_induction addU a b with
 | case1 b => exact fun _ h u hu => (h u hu).mono (by omega)
 | case2 u a => exact fun h _ u hu => (h u hu).mono (by omega)
 | case3 u a v b h ih =>
  intro ha hb w hw
  rcases List.mem_cons.1 hw with rfl | hw
  ·exact (ha _ (by simp)).mono (by omega)
  ·exact ih (fun x hx => ha x (by simp [hx])) hb w hw
 | case4 u a v b h1 h ih =>
  intro ha hb w hw
  rcases List.mem_cons.1 hw with rfl | hw
  ·exact (hb _ (by simp)).mono (by omega)
  ·exact ih ha (fun x hx => hb x (by simp [hx])) w hw
 | case5 u a v b h1 h2 h ih =>
  intro ha hb w hw
  exact ih (fun x hx => ha x (by simp [hx])) (fun x hx => hb x (by simp [hx])) w hw
 | case6 u a v b h1 h2 h ih =>
  intro ha hb w hw
  rcases List.mem_cons.1 hw with rfl | hw
  ·exact szQ_add (ha u (by simp)) (hb v (by simp))
  ·exact ih (fun x hx => ha x (by simp [hx])) (fun x hx => hb x (by simp [hx])) w hw
theorem scU_sz {us : List QT} {q : Rat} {L M : Nat} (h : ∀ u ∈ us, szQ u.2 L) (hq : szQ q M) : ∀ u ∈ scU us q, szQ u.2 (L + M) := by
 unfold scU
 split
 ·intro u hu; cases hu
 ·intro u hu
  obtain ⟨w, hw, rfl⟩ := mulU_mem hu
  exact szQ_mul (h w hw) hq
end Go.PE
