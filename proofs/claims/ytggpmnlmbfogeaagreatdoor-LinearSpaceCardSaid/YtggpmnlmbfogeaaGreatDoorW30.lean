/-
  A part of the proof that the law's function returns true and leaves its arguments as they were, for every input (no condition): own lemmas of the proof, in the order of their use.
-/
import Derived.Test.YtggpmnlmbfogeaaGreatDoorW29
import Derived.Test.YtggpmnlmbfogeaaGreatDoorW24
set_option linter.all false
namespace Go.PE
open Go.RowKit Go.Proofs.Tryz
set_option maxRecDepth 100000
variable {k : Nat}
/-! ### Divisibility: what both sides compute -/
def intQ (q : Rat) : Prop := q = ((q.num : Int) : Rat)
def stepD (P : Nat) (st : List QT × Nat) (v : QT) : List QT × Nat :=
  if v.2.num % (P : Int) = 0 then st else (st.1 ++ [(v.1, ((v.2.num % (P : Int) : Int) : Rat))], Nat.gcd st.2 (v.2.num % (P : Int)).natAbs)
def divE (rel : Int) (P : Nat) (c0 : Int) (st : List QT × Nat) : PV :=
  if c0 % (st.2 : Int) ≠ 0 then truQ 2 (!decide (rel = 4)) else
  if st.2 = P then truQ 2 (decide (rel = 4)) else
  conQ rel 2 (scU st.1 (((1 : Int) : Rat) / ((st.2 : Int) : Rat))) ((c0 : Rat) * (((1 : Int) : Rat) / ((st.2 : Int) : Rat))) (rs ((((P : Int) / (st.2 : Int) : Int)) : Rat))
def dD (us : List QT) (c : Rat) : Nat := lcmU c.den us
def divV (rel : Int) (us : List QT) (c : Rat) (M : Nat) : PV :=
  divE rel (M * dD us c) ((c * ((dD us c : Int) : Rat)).num % ((M * dD us c : Nat) : Int)) ((scU us ((dD us c : Int) : Rat)).foldl (stepD (M * dD us c)) ([], M * dD us c))
theorem dD_ne (us : List QT) (c : Rat) : dD us c ≠ 0 := lcmU_pos c.den_nz
theorem dD_len {us : List QT} {c : Rat} (h : goodU us) (hc : szQ c 1000) : (dec (dD us c)).length ≤ 9000 := by
  have h1 := lcmU_len (us := us) (d := c.den) (M := 1000) fun u hu => (h.2 u hu).1
  have := h.1
  have := hc.2
  unfold dD; omega
theorem dD_int {us : List QT} {c : Rat} : intQ (c * ((dD us c : Int) : Rat)) := by
  have h := zU_eq (d := dD us c) (u := (([] : Bs), c)) (lcmU_dvd (us := us) (d := c.den)).1
  unfold intQ
  rw [show c * ((dD us c : Int) : Rat) = ((zU (dD us c) (([] : Bs), c) : Int) : Rat) from h]
  rfl
theorem scU_dD {us : List QT} {c : Rat} : scU us ((dD us c : Int) : Rat) = mulU us ((dD us c : Int) : Rat) := by
  unfold scU
  rw [if_neg]
  intro h
  have h2 : (dD us c : Int) = 0 := by exact_mod_cast h
  exact dD_ne us c (by omega)
theorem vs_int {us : List QT} {c : Rat} : ∀ v ∈ scU us ((dD us c : Int) : Rat), intQ v.2 := by
  rw [scU_dD]
  intro v hv
  obtain ⟨u, hu, rfl⟩ := List.mem_map.1 hv
  have h := zU_eq (d := dD us c) (u := u) ((lcmU_dvd (us := us) (d := c.den)).2 u hu)
  unfold intQ
  rw [show (u.1, u.2 * ((dD us c : Int) : Rat)).2 = u.2 * ((dD us c : Int) : Rat) from rfl, h]
  rfl
theorem vs_len {us : List QT} {c : Rat} : (scU us ((dD us c : Int) : Rat)).length = us.length := by
  rw [scU_dD, mulU_len]
theorem dDq {us : List QT} {c : Rat} (h : goodU us) (hc : szQ c 1000) : szQ ((dD us c : Int) : Rat) 9000 := szZ (by show (dec (dD us c)).length ≤ _; exact dD_len h hc)
theorem vs_sz {us : List QT} {c : Rat} (h : goodU us) (hc : szQ c 1000) : ∀ v ∈ scU us ((dD us c : Int) : Rat), szQ v.2 10000 := by
  rw [scU_dD]
  intro v hv
  obtain ⟨u, hu, rfl⟩ := List.mem_map.1 hv
  exact (szQ_mul (h.2 u hu).1 (dDq h hc)).mono (by omega)
def invD (P : Nat) (n : Nat) (st : List QT × Nat) : Prop := st.1.length ≤ n ∧ st.2 ≠ 0 ∧ (dec st.2).length ≤ 11000 ∧ st.2 ∣ P ∧ ∀ u ∈ st.1, szQ u.2 11000
theorem invD_step {P n : Nat} {st : List QT × Nat} {v : QT} (hP0 : P ≠ 0) (hP : (dec P).length ≤ 11000) (h : invD P n st) : invD P (n + 1) (stepD P st v) := by
  obtain ⟨h1, h2, h3, h4, h5⟩ := h
  unfold stepD
  by_cases hz : v.2.num % (P : Int) = 0
  · rw [if_pos hz]
    exact ⟨by omega, h2, h3, h4, h5⟩
  · rw [if_neg hz]
    have hg := Nat.gcd_pos_of_pos_left (v.2.num % (P : Int)).natAbs (show 0 < st.2 by omega)
    have h6 := dec_len_mono (Nat.gcd_le_left (v.2.num % (P : Int)).natAbs (show 0 < st.2 by omega))
    refine ⟨by simp only [List.length_append, List.length_singleton]; omega, by show Nat.gcd _ _ ≠ 0; omega, by show (dec (Nat.gcd _ _)).length ≤ _; omega, Nat.dvd_trans (Nat.gcd_dvd_left _ _) h4, fun u hu => ?_⟩
    rcases List.mem_append.1 hu with hu | hu
    · exact h5 u hu
    · obtain rfl := List.mem_singleton.1 hu
      refine szZ ?_
      have e1 := Int.emod_nonneg v.2.num (show (P : Int) ≠ 0 by omega)
      have e2 := Int.emod_lt_of_pos v.2.num (show (0 : Int) < P by omega)
      exact Nat.le_trans (dec_len_mono (show (v.2.num % (P : Int)).natAbs ≤ P by omega)) hP
theorem foldD_snoc (P : Nat) (vs : List QT) (v : QT) (st : List QT × Nat) : (vs ++ [v]).foldl (stepD P) st = stepD P (vs.foldl (stepD P) st) v := by simp
theorem invD_fold {P : Nat} (hP0 : P ≠ 0) (hP : (dec P).length ≤ 11000) : ∀ (vs : List QT) {n : Nat} {st : List QT × Nat}, invD P n st → invD P (n + vs.length) (vs.foldl (stepD P) st)
  | [], _, _, h => h
  | v :: vs, n, st, h => by
    have := invD_fold hP0 hP vs (invD_step (v := v) hP0 hP h)
    rw [List.length_cons, show n + (vs.length + 1) = n + 1 + vs.length by omega]
    exact this
theorem invD_0 {P : Nat} (hP0 : P ≠ 0) (hP : (dec P).length ≤ 11000) : invD P 0 ([], P) := ⟨Nat.le_refl _, hP0, hP, Nat.dvd_refl _, fun u hu => by cases hu⟩
end Go.PE
namespace Go.PE
open Go.RowKit Go.Proofs.Tryz
set_option maxRecDepth 100000
variable {k : Nat}
theorem cast_mul (a b : Nat) : ((a : Int) : Rat) * ((b : Int) : Rat) = (((a * b : Nat) : Int) : Rat) := by
  rw [← Rat.intCast_mul, Int.natCast_mul]
theorem rs_eq_nat {a b : Nat} : rs ((a : Int) : Rat) = rs ((b : Int) : Rat) ↔ a = b := by
  rw [rs_nat, rs_nat]; exact ⟨fun h => dec_inj h, fun h => by rw [h]⟩
theorem stepD_def (P : Nat) (st : List QT × Nat) (v : QT) : stepD P st v = if v.2.num % (P : Int) = 0 then st else (st.1 ++ [(v.1, ((v.2.num % (P : Int) : Int) : Rat))], Nat.gcd st.2 (v.2.num % (P : Int)).natAbs) := rfl
theorem rs_int0 (z : Int) : rs (z : Rat) = [48] ↔ z = 0 := by
  rw [rs_is0]; exact ⟨fun h => by exact_mod_cast h, fun h => by rw [h]; rfl⟩
set_option maxHeartbeats 4000000 in
theorem normalDivides_T (rel : Int) (us : List QT) (c : Rat) (M : Nat) (hrel : rel = 4 ∨ rel = 5) (hg : goodU us) (hc : szQ c 1000) (hM0 : M ≠ 0) (hM : (dec M).length ≤ 1000) :
    T (k + 13) 77 [conQ rel 2 us c (rs ((M : Int) : Rat))] = some (divV rel us c M, []) := by
  have hl8 := hg.1
  have lc := hc.len
  have hsz : ∀ u ∈ us, szQ u.2 1000 := fun u h => (hg.2 u h).1
  have hd1 := den_Q (k := k + 5) c (by omega)
  have ld : ∀ i, (dec (lcmU c.den (us.take i))).length ≤ 9001 := fun i => by
    have h1 := lcmU_len (us := us.take i) (d := c.den) (M := 1000) fun u hu => hsz u (List.mem_of_mem_take hu)
    rw [List.length_take] at h1
    have := Nat.min_le_right i us.length
    have := hc.2
    omega
  have hsc := scale_T (k := k + 2) 2 us c ((dD us c : Int) : Rat) (L := 9000) (hc.mono (by omega)) (dDq hg hc) (fun u h => (hsz u h).mono (by omega)) (by omega) (by omega)
  have hmul := mul_Q (k := k + 3) ((M : Int) : Rat) ((dD us c : Int) : Rat) (L := 9000) ((szZ (a := (M : Int)) hM).mono (by omega)) (dDq hg hc) (by omega)
  rw [cast_mul] at hmul
  have hP0 : M * dD us c ≠ 0 := Nat.mul_ne_zero hM0 (dD_ne us c)
  have hP : (dec (M * dD us c)).length ≤ 11000 := by have := dec_mul_len M (dD us c); have := dD_len hg hc; omega
  have hcs := szQ_mul hc (dDq hg hc)
  have hrem := rem_Q (k := k + 5) (c * ((dD us c : Int) : Rat)).num ((M * dD us c : Nat) : Int) (by omega) (L := 11000) (Nat.le_trans hcs.1 (by omega)) hP (by omega)
  rw [← dD_int] at hrem
  have hc0 : (dec ((c * ((dD us c : Int) : Rat)).num % ((M * dD us c : Nat) : Int)).natAbs).length ≤ 11000 := by
    generalize (c * ((dD us c : Int) : Rat)).num = z
    have e1 := Int.emod_nonneg z (show ((M * dD us c : Nat) : Int) ≠ 0 by omega)
    have e2 := Int.emod_lt_of_pos z (show (0 : Int) < ((M * dD us c : Nat) : Int) by omega)
    exact Nat.le_trans (dec_len_mono (show (z % ((M * dD us c : Nat) : Int)).natAbs ≤ M * dD us c by omega)) hP
  have hvi := vs_int (us := us) (c := c)
  have hvs := vs_sz hg hc
  have hvl := vs_len (us := us) (c := c)
  unfold divV
  have hf := fun i => invD_fold hP0 hP ((scU us ((dD us c : Int) : Rat)).take i) (invD_0 hP0 hP)
  rcases hrel with rfl | rfl
  · refine enter rfl func77 rfl (by decide) (by kernel_rfl) rfl rfl ?_
    refine zs1 hd1 ?_
    refine W.loop (fun e m => ∃ (i : Nat), e = [(1, .box (0, 0) [.int .i64 4, .int .i64 2, .imm 2 (trow (tx us)), .str (rs c), .str (rs ((M : Int) : Rat))]), (2, .box (0, 0) [.int .i64 0, .int .i64 0, .own (0, 0) 2 [], .str [], .str []]),
      (3, .str (rs ((lcmU c.den (us.take i) : Nat) : Int))), (18, .loc 1 (0, 0) 1), (19, .loc 1 (0, 0) 2), (20, .imm 2 (trow (tx us))), (21, .int .i64 (trow (tx us)).length), (22, .int .i64 i)] ∧
      i ≤ us.length ∧ m = us.length - i) us.length ?_ ?_ ?_
    · refine ⟨0, ?_, by omega, by omega⟩
      rw [List.take_zero]
      rfl
    · show _ < 4611686018427387904; omega
    · rintro e m ⟨i, rfl, hi, rfl⟩
      refine zs0 ?_
      refine W.cond rfl (fun hlt => ?_) (fun hlt => ?_)
      · have hlt := of_decide_eq_true hlt
        rw [trow_len, tx_len] at hlt
        have hget : (trow (tx us))[i]? = some [.str (us.getD i ([], 0)).1, .str (rs (us.getD i ([], 0)).2)] := tx_get (by omega)
        have hs := hsz _ (getD_mem (us := us) (i := i) (by omega))
        have hl1 := hs.len
        have hden := den_Q (k := k + 5) (us.getD i ([], 0)).2 (by omega)
        have hlcm := lcm_Q (k := k + 2) (lcmU c.den (us.take i)) (us.getD i ([], 0)).2.den (lcmU_pos c.den_nz) (us.getD i ([], 0)).2.den_nz (ld i) (Nat.le_trans hs.2 (by omega)) (by omega)
        refine zs0 ?_
        refine wI te rfl rfl rfl rfl rfl rfl (by omega) (hget) ?_
        refine zs1 hden ?_
        refine zs2 hlcm ?_
        rw [wrap_i64 (x := (i : Int) + 1) (by omega) (by omega)]
        show ∃ m', _
        refine ⟨us.length - (i + 1), by omega, i + 1, ?_, by omega, rfl⟩
        rw [take_snoc (show i < us.length by omega), lcmU_snoc]
        rfl
      · have hlt := of_decide_eq_false hlt
        rw [trow_len, tx_len] at hlt
        have hie : i = us.length := by omega
        subst hie
        rw [List.take_length, show lcmU c.den us = dD us c from rfl]
        refine zd8 ?_
        refine zd4 hsc ?_
        refine zd5 hmul ?_
        refine zd6 hrem ?_
        generalize (c * ((dD us c : Int) : Rat)).num % ((M * dD us c : Nat) : Int) = c0 at *
        generalize c * ((dD us c : Int) : Rat) = c1 at *
        generalize scU us ((dD us c : Int) : Rat) = vs at *
        generalize M * dD us c = P at *
        refine W.loop (fun e m => ∃ (i : Nat), e = [(1, .box (0, 0) [.int .i64 4, .int .i64 2, .imm 2 (trow (tx us)), .str (rs c), .str (rs ((M : Int) : Rat))]), (2, .box (0, 0) [.int .i64 0, .int .i64 0, .own (0, 0) 2 [], .str [], .str []]),
          (6, .box (0, 0) [.int .i64 2, .imm 2 (trow (tx vs)), .str (rs c1)]), (7, .str (rs ((P : Int) : Rat))), (8, .box (0, 0) [.int .i64 2, .own (0, 0) 2 (trow (tx ((vs.take i).foldl (stepD P) ([], P)).1)), .str (rs (c0 : Rat))]), (9, .str (rs ((((vs.take i).foldl (stepD P) ([], P)).2 : Int) : Rat))),
          (48, .loc 6 (0, 0) 1), (49, .imm 2 (trow (tx vs))), (50, .int .i64 (trow (tx vs)).length), (51, .int .i64 i)] ∧
          i ≤ vs.length ∧ m = vs.length - i) vs.length ?_ ?_ ?_
        · refine ⟨0, ?_, by omega, by omega⟩
          rw [List.take_zero]
          rfl
        · show _ < 4611686018427387904; omega
        · rintro e m ⟨i, rfl, hi, rfl⟩
          refine zs0 ?_
          refine W.cond rfl (fun hlt => ?_) (fun hlt => ?_)
          · have hlt := of_decide_eq_true hlt
            rw [trow_len, tx_len] at hlt
            have hget : (trow (tx vs))[i]? = some [.str (vs.getD i ([], 0)).1, .str (rs (vs.getD i ([], 0)).2)] := tx_get (by omega)
            have hmem := getD_mem (us := vs) (i := i) (by omega)
            have hv2 := hvs _ hmem
            have hrm := rem_Q (k := k + 5) (vs.getD i ([], 0)).2.num (P : Int) (by omega) (L := 11000) (Nat.le_trans hv2.1 (by omega)) hP (by omega)
            rw [← show (vs.getD i ([], 0)).2 = (((vs.getD i ([], 0)).2.num : Int) : Rat) from hvi _ hmem] at hrm
            have hsn := foldD_snoc P (vs.take i) (vs.getD i ([], 0)) ([], P)
            rw [← take_snoc (show i < vs.length by omega)] at hsn
            have hinv := hf i
            have hr1 := Int.emod_nonneg (vs.getD i ([], 0)).2.num (show (P : Int) ≠ 0 by omega)
            have hr2 := Int.emod_lt_of_pos (vs.getD i ([], 0)).2.num (show (0 : Int) < P by omega)
            rw [stepD_def] at hsn
            generalize (vs.take i).foldl (stepD P) ([], P) = st at *
            generalize (vs.getD i ([], 0)).1 = nm at *
            generalize hr : (vs.getD i ([], 0)).2.num % (P : Int) = r at *
            obtain ⟨i1, i2, i3, i4, i5⟩ := hinv
            rw [List.length_take] at i1
            have hmn := Nat.min_le_left i vs.length
            have hgc := gcd_Q (k := k + 6) (st.2 : Int) r (L := 11000) i3 (Nat.le_trans (dec_len_mono (show r.natAbs ≤ P by omega)) hP) (by omega)
            refine zs0 ?_
            refine wI te rfl rfl rfl rfl rfl rfl (by omega) (hget) ?_
            refine zs1 hrm ?_
            refine W.cond rfl (fun b1 => ?_) (fun b1 => ?_)
            · have b1 : ¬ r = 0 := fun e => of_decide_eq_true b1 ((rs_int0 r).2 e)
              rw [if_neg b1] at hsn
              refine zs0 ?_
              refine wS te rfl rfl (by simp [trow_len, tx_len]; omega) ?_
              refine zs1 hgc ?_
              rw [wrap_i64 (x := (i : Int) + 1) (by omega) (by omega)]
              show ∃ m', _
              refine ⟨vs.length - (i + 1), by omega, i + 1, ?_, by omega, rfl⟩
              rw [hsn]
              have e : (trow (tx st.1)).take (trow (tx st.1)).length ++ [[PV.str nm, .str (rs (r : Rat))]] = trow (tx (st.1 ++ [(nm, (r : Rat))])) := by
                rw [List.take_length]; simp [trow, tx]
              rw [← e]
              rfl
            · have b1 : r = 0 := (rs_int0 r).1 (Classical.not_not.1 (of_decide_eq_false b1))
              rw [if_pos b1] at hsn
              refine zs0 ?_
              rw [wrap_i64 (x := (i : Int) + 1) (by omega) (by omega)]
              show ∃ m', _
              refine ⟨vs.length - (i + 1), by omega, i + 1, ?_, by omega, rfl⟩
              rw [hsn]
              rfl
          · have hlt := of_decide_eq_false hlt
            rw [trow_len, tx_len] at hlt
            have hie : i = vs.length := by omega
            subst hie
            have hinv := hf vs.length
            rw [List.take_length] at hinv ⊢
            unfold divE
            generalize vs.foldl (stepD P) ([], P) = st at *
            obtain ⟨i1, i2, i3, i4, i5⟩ := hinv
            have hrem2 := rem_Q (k := k + 5) c0 (st.2 : Int) (by omega) (L := 11000) hc0 i3 (by omega)
            have hz1 : szQ ((1 : Int) : Rat) 11000 := szZ (by rw [show (1 : Int).natAbs = 1 from rfl, dec1_len]; omega)
            have hz2 : szQ ((st.2 : Int) : Rat) 11000 := szZ (a := (st.2 : Int)) i3
            have hne : ((st.2 : Int) : Rat) ≠ 0 := by
              intro h
              have h2 : (st.2 : Int) = 0 := by exact_mod_cast h
              omega
            have hdv := div_Q (k := k + 3) ((1 : Int) : Rat) ((st.2 : Int) : Rat) hne hz1 hz2 (by omega)
            rw [show rs ((1 : Int) : Rat) = [49] from (rs_nat 1).trans decOne] at hdv
            have hzd := szQ_div hne hz1 hz2
            have hs2 := scale_T (k := k + 2) 2 st.1 (c0 : Rat) (((1 : Int) : Rat) / ((st.2 : Int) : Rat)) (L := 22000) ((szZ hc0).mono (by omega)) hzd (fun u h => (i5 u h).mono (by omega)) (by omega) (by omega)
            have hqu := quo_Q (k := k + 5) (P : Int) (st.2 : Int) (by omega) (L := 11000) hP i3 (by omega)
            refine zs1 hrem2 ?_
            refine W.cond rfl (fun b1 => ?_) (fun b1 => ?_)
            · have b1 : ¬ c0 % (st.2 : Int) = 0 := fun e => of_decide_eq_true b1 ((rs_int0 _).2 e)
              rw [if_pos b1]
              refine zs1 (truth_T (k := k + 11) 2 (!decide ((4 : Int) = 4))) ?_
              rfl
            · have b1 : c0 % (st.2 : Int) = 0 := (rs_int0 _).1 (Classical.not_not.1 (of_decide_eq_false b1))
              rw [if_neg (fun h => h b1)]
              refine zs0 ?_
              refine W.cond rfl (fun b2 => ?_) (fun b2 => ?_)
              · have b2 : st.2 = P := rs_eq_nat.1 (of_decide_eq_true b2)
                rw [if_pos b2]
                refine zs1 (truth_T (k := k + 11) 2 (decide ((4 : Int) = 4))) ?_
                rfl
              · have b2 : ¬ st.2 = P := fun e => of_decide_eq_false b2 (rs_eq_nat.2 e)
                rw [if_neg b2]
                refine zd8 ?_
                refine zd4 hdv ?_
                refine zd4 hs2 ?_
                refine zd5 hqu ?_
                rfl
  · refine enter rfl func77 rfl (by decide) (by kernel_rfl) rfl rfl ?_
    refine zs1 hd1 ?_
    refine W.loop (fun e m => ∃ (i : Nat), e = [(1, .box (0, 0) [.int .i64 5, .int .i64 2, .imm 2 (trow (tx us)), .str (rs c), .str (rs ((M : Int) : Rat))]), (2, .box (0, 0) [.int .i64 0, .int .i64 0, .own (0, 0) 2 [], .str [], .str []]),
      (3, .str (rs ((lcmU c.den (us.take i) : Nat) : Int))), (18, .loc 1 (0, 0) 1), (19, .loc 1 (0, 0) 2), (20, .imm 2 (trow (tx us))), (21, .int .i64 (trow (tx us)).length), (22, .int .i64 i)] ∧
      i ≤ us.length ∧ m = us.length - i) us.length ?_ ?_ ?_
    · refine ⟨0, ?_, by omega, by omega⟩
      rw [List.take_zero]
      rfl
    · show _ < 4611686018427387904; omega
    · rintro e m ⟨i, rfl, hi, rfl⟩
      refine zs0 ?_
      refine W.cond rfl (fun hlt => ?_) (fun hlt => ?_)
      · have hlt := of_decide_eq_true hlt
        rw [trow_len, tx_len] at hlt
        have hget : (trow (tx us))[i]? = some [.str (us.getD i ([], 0)).1, .str (rs (us.getD i ([], 0)).2)] := tx_get (by omega)
        have hs := hsz _ (getD_mem (us := us) (i := i) (by omega))
        have hl1 := hs.len
        have hden := den_Q (k := k + 5) (us.getD i ([], 0)).2 (by omega)
        have hlcm := lcm_Q (k := k + 2) (lcmU c.den (us.take i)) (us.getD i ([], 0)).2.den (lcmU_pos c.den_nz) (us.getD i ([], 0)).2.den_nz (ld i) (Nat.le_trans hs.2 (by omega)) (by omega)
        refine zs0 ?_
        refine wI te rfl rfl rfl rfl rfl rfl (by omega) (hget) ?_
        refine zs1 hden ?_
        refine zs2 hlcm ?_
        rw [wrap_i64 (x := (i : Int) + 1) (by omega) (by omega)]
        show ∃ m', _
        refine ⟨us.length - (i + 1), by omega, i + 1, ?_, by omega, rfl⟩
        rw [take_snoc (show i < us.length by omega), lcmU_snoc]
        rfl
      · have hlt := of_decide_eq_false hlt
        rw [trow_len, tx_len] at hlt
        have hie : i = us.length := by omega
        subst hie
        rw [List.take_length, show lcmU c.den us = dD us c from rfl]
        refine zd8 ?_
        refine zd4 hsc ?_
        refine zd5 hmul ?_
        refine zd6 hrem ?_
        generalize (c * ((dD us c : Int) : Rat)).num % ((M * dD us c : Nat) : Int) = c0 at *
        generalize c * ((dD us c : Int) : Rat) = c1 at *
        generalize scU us ((dD us c : Int) : Rat) = vs at *
        generalize M * dD us c = P at *
        refine W.loop (fun e m => ∃ (i : Nat), e = [(1, .box (0, 0) [.int .i64 5, .int .i64 2, .imm 2 (trow (tx us)), .str (rs c), .str (rs ((M : Int) : Rat))]), (2, .box (0, 0) [.int .i64 0, .int .i64 0, .own (0, 0) 2 [], .str [], .str []]),
          (6, .box (0, 0) [.int .i64 2, .imm 2 (trow (tx vs)), .str (rs c1)]), (7, .str (rs ((P : Int) : Rat))), (8, .box (0, 0) [.int .i64 2, .own (0, 0) 2 (trow (tx ((vs.take i).foldl (stepD P) ([], P)).1)), .str (rs (c0 : Rat))]), (9, .str (rs ((((vs.take i).foldl (stepD P) ([], P)).2 : Int) : Rat))),
          (48, .loc 6 (0, 0) 1), (49, .imm 2 (trow (tx vs))), (50, .int .i64 (trow (tx vs)).length), (51, .int .i64 i)] ∧
          i ≤ vs.length ∧ m = vs.length - i) vs.length ?_ ?_ ?_
        · refine ⟨0, ?_, by omega, by omega⟩
          rw [List.take_zero]
          rfl
        · show _ < 4611686018427387904; omega
        · rintro e m ⟨i, rfl, hi, rfl⟩
          refine zs0 ?_
          refine W.cond rfl (fun hlt => ?_) (fun hlt => ?_)
          · have hlt := of_decide_eq_true hlt
            rw [trow_len, tx_len] at hlt
            have hget : (trow (tx vs))[i]? = some [.str (vs.getD i ([], 0)).1, .str (rs (vs.getD i ([], 0)).2)] := tx_get (by omega)
            have hmem := getD_mem (us := vs) (i := i) (by omega)
            have hv2 := hvs _ hmem
            have hrm := rem_Q (k := k + 5) (vs.getD i ([], 0)).2.num (P : Int) (by omega) (L := 11000) (Nat.le_trans hv2.1 (by omega)) hP (by omega)
            rw [← show (vs.getD i ([], 0)).2 = (((vs.getD i ([], 0)).2.num : Int) : Rat) from hvi _ hmem] at hrm
            have hsn := foldD_snoc P (vs.take i) (vs.getD i ([], 0)) ([], P)
            rw [← take_snoc (show i < vs.length by omega)] at hsn
            have hinv := hf i
            have hr1 := Int.emod_nonneg (vs.getD i ([], 0)).2.num (show (P : Int) ≠ 0 by omega)
            have hr2 := Int.emod_lt_of_pos (vs.getD i ([], 0)).2.num (show (0 : Int) < P by omega)
            rw [stepD_def] at hsn
            generalize (vs.take i).foldl (stepD P) ([], P) = st at *
            generalize (vs.getD i ([], 0)).1 = nm at *
            generalize hr : (vs.getD i ([], 0)).2.num % (P : Int) = r at *
            obtain ⟨i1, i2, i3, i4, i5⟩ := hinv
            rw [List.length_take] at i1
            have hmn := Nat.min_le_left i vs.length
            have hgc := gcd_Q (k := k + 6) (st.2 : Int) r (L := 11000) i3 (Nat.le_trans (dec_len_mono (show r.natAbs ≤ P by omega)) hP) (by omega)
            refine zs0 ?_
            refine wI te rfl rfl rfl rfl rfl rfl (by omega) (hget) ?_
            refine zs1 hrm ?_
            refine W.cond rfl (fun b1 => ?_) (fun b1 => ?_)
            · have b1 : ¬ r = 0 := fun e => of_decide_eq_true b1 ((rs_int0 r).2 e)
              rw [if_neg b1] at hsn
              refine zs0 ?_
              refine wS te rfl rfl (by simp [trow_len, tx_len]; omega) ?_
              refine zs1 hgc ?_
              rw [wrap_i64 (x := (i : Int) + 1) (by omega) (by omega)]
              show ∃ m', _
              refine ⟨vs.length - (i + 1), by omega, i + 1, ?_, by omega, rfl⟩
              rw [hsn]
              have e : (trow (tx st.1)).take (trow (tx st.1)).length ++ [[PV.str nm, .str (rs (r : Rat))]] = trow (tx (st.1 ++ [(nm, (r : Rat))])) := by
                rw [List.take_length]; simp [trow, tx]
              rw [← e]
              rfl
            · have b1 : r = 0 := (rs_int0 r).1 (Classical.not_not.1 (of_decide_eq_false b1))
              rw [if_pos b1] at hsn
              refine zs0 ?_
              rw [wrap_i64 (x := (i : Int) + 1) (by omega) (by omega)]
              show ∃ m', _
              refine ⟨vs.length - (i + 1), by omega, i + 1, ?_, by omega, rfl⟩
              rw [hsn]
              rfl
          · have hlt := of_decide_eq_false hlt
            rw [trow_len, tx_len] at hlt
            have hie : i = vs.length := by omega
            subst hie
            have hinv := hf vs.length
            rw [List.take_length] at hinv ⊢
            unfold divE
            generalize vs.foldl (stepD P) ([], P) = st at *
            obtain ⟨i1, i2, i3, i4, i5⟩ := hinv
            have hrem2 := rem_Q (k := k + 5) c0 (st.2 : Int) (by omega) (L := 11000) hc0 i3 (by omega)
            have hz1 : szQ ((1 : Int) : Rat) 11000 := szZ (by rw [show (1 : Int).natAbs = 1 from rfl, dec1_len]; omega)
            have hz2 : szQ ((st.2 : Int) : Rat) 11000 := szZ (a := (st.2 : Int)) i3
            have hne : ((st.2 : Int) : Rat) ≠ 0 := by
              intro h
              have h2 : (st.2 : Int) = 0 := by exact_mod_cast h
              omega
            have hdv := div_Q (k := k + 3) ((1 : Int) : Rat) ((st.2 : Int) : Rat) hne hz1 hz2 (by omega)
            rw [show rs ((1 : Int) : Rat) = [49] from (rs_nat 1).trans decOne] at hdv
            have hzd := szQ_div hne hz1 hz2
            have hs2 := scale_T (k := k + 2) 2 st.1 (c0 : Rat) (((1 : Int) : Rat) / ((st.2 : Int) : Rat)) (L := 22000) ((szZ hc0).mono (by omega)) hzd (fun u h => (i5 u h).mono (by omega)) (by omega) (by omega)
            have hqu := quo_Q (k := k + 5) (P : Int) (st.2 : Int) (by omega) (L := 11000) hP i3 (by omega)
            refine zs1 hrem2 ?_
            refine W.cond rfl (fun b1 => ?_) (fun b1 => ?_)
            · have b1 : ¬ c0 % (st.2 : Int) = 0 := fun e => of_decide_eq_true b1 ((rs_int0 _).2 e)
              rw [if_pos b1]
              refine zs1 (truth_T (k := k + 11) 2 (!decide ((5 : Int) = 4))) ?_
              rfl
            · have b1 : c0 % (st.2 : Int) = 0 := (rs_int0 _).1 (Classical.not_not.1 (of_decide_eq_false b1))
              rw [if_neg (fun h => h b1)]
              refine zs0 ?_
              refine W.cond rfl (fun b2 => ?_) (fun b2 => ?_)
              · have b2 : st.2 = P := rs_eq_nat.1 (of_decide_eq_true b2)
                rw [if_pos b2]
                refine zs1 (truth_T (k := k + 11) 2 (decide ((5 : Int) = 4))) ?_
                rfl
              · have b2 : ¬ st.2 = P := fun e => of_decide_eq_false b2 (rs_eq_nat.2 e)
                rw [if_neg b2]
                refine zd8 ?_
                refine zd4 hdv ?_
                refine zd4 hs2 ?_
                refine zd5 hqu ?_
                rfl
end Go.PE
namespace Go.PE
open Go.RowKit Go.Proofs.Tryz
set_option maxRecDepth 100000
variable {k : Nat}
theorem div_nat {P g : Nat} (h : g ∣ P) (h0 : g ≠ 0) : ((P : Int) : Rat) / ((g : Int) : Rat) = ((((P : Int) / (g : Int) : Int)) : Rat) := by
  obtain ⟨x, rfl⟩ := h
  have hg : ((g : Int) : Rat) ≠ 0 := by
    intro h
    have h2 : (g : Int) = 0 := by exact_mod_cast h
    omega
  rw [Int.natCast_mul, Int.mul_ediv_cancel_left _ (by omega), Rat.intCast_mul, Rat.mul_comm, Rat.mul_div_cancel hg]
set_option maxHeartbeats 4000000 in
theorem divisibility_T (rel : Int) (us : List QT) (c : Rat) (M : Nat) (hrel : rel = 4 ∨ rel = 5) (hg : goodU us) (hc : szQ c 1000) (hM0 : M ≠ 0) (hM : (dec M).length ≤ 1000) :
    T (k + 13) 85 [conQ rel 2 us c (rs ((M : Int) : Rat))] = some (divV rel us c M, []) := by
  have hl8 := hg.1
  have lc := hc.len
  have hsz : ∀ u ∈ us, szQ u.2 1000 := fun u h => (hg.2 u h).1
  have hd1 := rden_Q (k := k + 5) c (by omega)
  have ld : ∀ i, (dec (lcmU c.den (us.take i))).length ≤ 9001 := fun i => by
    have h1 := lcmU_len (us := us.take i) (d := c.den) (M := 1000) fun u hu => hsz u (List.mem_of_mem_take hu)
    rw [List.length_take] at h1
    have := Nat.min_le_right i us.length
    have := hc.2
    omega
  have hsc := times_T (k := k + 4) 2 us c ((dD us c : Int) : Rat) (L := 9000) (hc.mono (by omega)) (dDq hg hc) (fun u h => (hsz u h).mono (by omega)) (by omega) (by omega)
  have hmul := rmul_T (k := k + 5) ((M : Int) : Rat) ((dD us c : Int) : Rat) ((szZ (a := (M : Int)) hM).sm (by omega)) ((dDq hg hc).sm (by omega))
  rw [cast_mul] at hmul
  have hP0 : M * dD us c ≠ 0 := Nat.mul_ne_zero hM0 (dD_ne us c)
  have hP : (dec (M * dD us c)).length ≤ 11000 := by have := dec_mul_len M (dD us c); have := dD_len hg hc; omega
  have hcs := szQ_mul hc (dDq hg hc)
  have hrem := rrem_Q (k := k + 1) (c * ((dD us c : Int) : Rat)).num ((M * dD us c : Nat) : Int) (by omega) (L := 11000) (Nat.le_trans hcs.1 (by omega)) hP (by omega)
  rw [← dD_int] at hrem
  have hc0 : (dec ((c * ((dD us c : Int) : Rat)).num % ((M * dD us c : Nat) : Int)).natAbs).length ≤ 11000 := by
    generalize (c * ((dD us c : Int) : Rat)).num = z
    have e1 := Int.emod_nonneg z (show ((M * dD us c : Nat) : Int) ≠ 0 by omega)
    have e2 := Int.emod_lt_of_pos z (show (0 : Int) < ((M * dD us c : Nat) : Int) by omega)
    exact Nat.le_trans (dec_len_mono (show (z % ((M * dD us c : Nat) : Int)).natAbs ≤ M * dD us c by omega)) hP
  have hvi := vs_int (us := us) (c := c)
  have hvs := vs_sz hg hc
  have hvl := vs_len (us := us) (c := c)
  unfold divV
  have hf := fun i => invD_fold hP0 hP ((scU us ((dD us c : Int) : Rat)).take i) (invD_0 hP0 hP)
  rcases hrel with rfl | rfl
  · refine enter rfl func85 rfl (by decide) (by kernel_rfl) rfl rfl ?_
    refine zs1 hd1 ?_
    refine W.loop (fun e m => ∃ (i : Nat), e = [(1, .box (0, 0) [.int .i64 4, .int .i64 2, .imm 2 (trow (tx us)), .str (rs c), .str (rs ((M : Int) : Rat))]), (2, .box (0, 0) [.int .i64 0, .int .i64 0, .own (0, 0) 2 [], .str [], .str []]),
      (3, .bool (decide ((4 : Int) = 4))), (4, .str (rs ((lcmU c.den (us.take i) : Nat) : Int))), (5, .int .i64 i)] ∧
      i ≤ us.length ∧ m = us.length - i) us.length ?_ ?_ ?_
    · refine ⟨0, ?_, by omega, by omega⟩
      rw [List.take_zero]
      rfl
    · show _ < 4611686018427387904; omega
    · rintro e m ⟨i, rfl, hi, rfl⟩
      refine zs0 ?_
      refine W.cond rfl (fun hlt => ?_) (fun hlt => ?_)
      · have hlt := of_decide_eq_true hlt
        rw [trow_len, tx_len] at hlt
        have hget : (trow (tx us))[i]? = some [.str (us.getD i ([], 0)).1, .str (rs (us.getD i ([], 0)).2)] := tx_get (by omega)
        have hs := hsz _ (getD_mem (us := us) (i := i) (by omega))
        have hl1 := hs.len
        have hden := rden_Q (k := k + 5) (us.getD i ([], 0)).2 (by omega)
        have hlcm := rlcm_Q (k := k + 1) (lcmU c.den (us.take i)) (us.getD i ([], 0)).2.den (lcmU_pos c.den_nz) (us.getD i ([], 0)).2.den_nz (ld i) (Nat.le_trans hs.2 (by omega)) (by omega)
        refine zs0 ?_
        refine wI te rfl rfl rfl rfl rfl rfl (by omega) (hget) ?_
        refine zs1 hden ?_
        refine zs2 hlcm ?_
        rw [wrap_i64 (x := (i : Int) + 1) (by omega) (by omega)]
        show ∃ m', _
        refine ⟨us.length - (i + 1), by omega, i + 1, ?_, by omega, rfl⟩
        rw [take_snoc (show i < us.length by omega), lcmU_snoc]
        rfl
      · have hlt := of_decide_eq_false hlt
        rw [trow_len, tx_len] at hlt
        have hie : i = us.length := by omega
        subst hie
        rw [List.take_length, show lcmU c.den us = dD us c from rfl]
        refine zd8 ?_
        refine zd4 hsc ?_
        refine zd5 hmul ?_
        refine zs2 hrem ?_
        refine wC te rfl rfl rfl rfl rfl (const_T (k := k + 12) 2 _) rfl rfl ?_
        refine zs0 ?_
        generalize (c * ((dD us c : Int) : Rat)).num % ((M * dD us c : Nat) : Int) = c0 at *
        generalize c * ((dD us c : Int) : Rat) = c1 at *
        generalize scU us ((dD us c : Int) : Rat) = vs at *
        generalize M * dD us c = P at *
        refine W.loop (fun e m => ∃ (i : Nat), e = [(1, .box (0, 0) [.int .i64 4, .int .i64 2, .imm 2 (trow (tx us)), .str (rs c), .str (rs ((M : Int) : Rat))]), (2, .box (0, 0) [.int .i64 0, .int .i64 0, .own (0, 0) 2 [], .str [], .str []]),
          (3, .bool (decide ((4 : Int) = 4))), (6, .box (0, 0) [.int .i64 2, .imm 2 (trow (tx vs)), .str (rs c1)]), (7, .str (rs ((P : Int) : Rat))), (8, .str (rs ((((vs.take i).foldl (stepD P) ([], P)).2 : Int) : Rat))), (9, .box (0, 0) [.int .i64 2, .own (0, 0) 2 (trow (tx ((vs.take i).foldl (stepD P) ([], P)).1)), .str (rs (c0 : Rat))]),
          (10, .int .i64 i)] ∧
          i ≤ vs.length ∧ m = vs.length - i) vs.length ?_ ?_ ?_
        · refine ⟨0, ?_, by omega, by omega⟩
          rw [List.take_zero]
          rfl
        · show _ < 4611686018427387904; omega
        · rintro e m ⟨i, rfl, hi, rfl⟩
          refine zs0 ?_
          refine W.cond rfl (fun hlt => ?_) (fun hlt => ?_)
          · have hlt := of_decide_eq_true hlt
            rw [trow_len, tx_len] at hlt
            have hget : (trow (tx vs))[i]? = some [.str (vs.getD i ([], 0)).1, .str (rs (vs.getD i ([], 0)).2)] := tx_get (by omega)
            have hmem := getD_mem (us := vs) (i := i) (by omega)
            have hv2 := hvs _ hmem
            have hrm := rrem_Q (k := k + 1) (vs.getD i ([], 0)).2.num (P : Int) (by omega) (L := 11000) (Nat.le_trans hv2.1 (by omega)) hP (by omega)
            rw [← show (vs.getD i ([], 0)).2 = (((vs.getD i ([], 0)).2.num : Int) : Rat) from hvi _ hmem] at hrm
            have hsn := foldD_snoc P (vs.take i) (vs.getD i ([], 0)) ([], P)
            rw [← take_snoc (show i < vs.length by omega)] at hsn
            have hinv := hf i
            have hr1 := Int.emod_nonneg (vs.getD i ([], 0)).2.num (show (P : Int) ≠ 0 by omega)
            have hr2 := Int.emod_lt_of_pos (vs.getD i ([], 0)).2.num (show (0 : Int) < P by omega)
            rw [stepD_def] at hsn
            generalize (vs.take i).foldl (stepD P) ([], P) = st at *
            generalize (vs.getD i ([], 0)).1 = nm at *
            generalize hr : (vs.getD i ([], 0)).2.num % (P : Int) = r at *
            obtain ⟨i1, i2, i3, i4, i5⟩ := hinv
            rw [List.length_take] at i1
            have hmn := Nat.min_le_left i vs.length
            have hgc := rgcd_Q (k := k + 2) (st.2 : Int) r (L := 11000) i3 (Nat.le_trans (dec_len_mono (show r.natAbs ≤ P by omega)) hP) (by omega)
            refine zs0 ?_
            refine wI te rfl rfl rfl rfl rfl rfl (by omega) (hget) ?_
            refine zs1 hrm ?_
            refine W.cond rfl (fun b1 => ?_) (fun b1 => ?_)
            · have b1 : ¬ r = 0 := fun e => of_decide_eq_true b1 ((rs_int0 r).2 e)
              rw [if_neg b1] at hsn
              refine zd8 ?_
              refine WX.idxImmD tab_eq rfl rfl rfl rfl rfl rfl (by omega) (hget) ?_
              refine zd0 ?_
              refine wD te rfl rfl (by simp [trow_len, tx_len]; omega) ?_
              refine zd7 ?_
              refine zs2 hgc ?_
              rw [wrap_i64 (x := (i : Int) + 1) (by omega) (by omega)]
              show ∃ m', _
              refine ⟨vs.length - (i + 1), by omega, i + 1, ?_, by omega, rfl⟩
              rw [hsn]
              have e : (trow (tx st.1)).take (trow (tx st.1)).length ++ [[PV.str nm, .str (rs (r : Rat))]] = trow (tx (st.1 ++ [(nm, (r : Rat))])) := by
                rw [List.take_length]; simp [trow, tx]
              rw [← e]
              rfl
            · have b1 : r = 0 := (rs_int0 r).1 (Classical.not_not.1 (of_decide_eq_false b1))
              rw [if_pos b1] at hsn
              refine zs0 ?_
              rw [wrap_i64 (x := (i : Int) + 1) (by omega) (by omega)]
              show ∃ m', _
              refine ⟨vs.length - (i + 1), by omega, i + 1, ?_, by omega, rfl⟩
              rw [hsn]
              rfl
          · have hlt := of_decide_eq_false hlt
            rw [trow_len, tx_len] at hlt
            have hie : i = vs.length := by omega
            subst hie
            have hinv := hf vs.length
            rw [List.take_length] at hinv ⊢
            unfold divE
            generalize vs.foldl (stepD P) ([], P) = st at *
            obtain ⟨i1, i2, i3, i4, i5⟩ := hinv
            have hrem2 := rrem_Q (k := k + 1) c0 (st.2 : Int) (by omega) (L := 11000) hc0 i3 (by omega)
            have hz1 : szQ ((1 : Int) : Rat) 11000 := szZ (by rw [show (1 : Int).natAbs = 1 from rfl, dec1_len]; omega)
            have hz2 : szQ ((st.2 : Int) : Rat) 11000 := szZ (a := (st.2 : Int)) i3
            have hne : ((st.2 : Int) : Rat) ≠ 0 := by
              intro h
              have h2 : (st.2 : Int) = 0 := by exact_mod_cast h
              omega
            have hdv := rdiv_T (k := k + 5) ((1 : Int) : Rat) ((st.2 : Int) : Rat) hne (hz1.sm (by omega)) (hz2.sm (by omega))
            rw [show rs ((1 : Int) : Rat) = [49] from (rs_nat 1).trans decOne] at hdv
            have hzd := szQ_div hne hz1 hz2
            have hs2 := times_T (k := k + 4) 2 st.1 (c0 : Rat) (((1 : Int) : Rat) / ((st.2 : Int) : Rat)) (L := 22000) ((szZ hc0).mono (by omega)) hzd (fun u h => (i5 u h).mono (by omega)) (by omega) (by omega)
            have hqu := rdiv_T (k := k + 5) ((P : Int) : Rat) ((st.2 : Int) : Rat) hne ((szZ (a := (P : Int)) (L := 11000) hP).sm (by omega)) (hz2.sm (by omega))
            rw [div_nat i4 i2] at hqu
            refine zs1 hrem2 ?_
            refine W.cond rfl (fun b1 => ?_) (fun b1 => ?_)
            · have b1 : ¬ c0 % (st.2 : Int) = 0 := fun e => of_decide_eq_true b1 ((rs_int0 _).2 e)
              rw [if_pos b1]
              refine zs1 (fixed_T (k := k + 10) 2 (!decide ((4 : Int) = 4))) ?_
              rfl
            · have b1 : c0 % (st.2 : Int) = 0 := (rs_int0 _).1 (Classical.not_not.1 (of_decide_eq_false b1))
              rw [if_neg (fun h => h b1)]
              refine zs0 ?_
              refine W.cond rfl (fun b2 => ?_) (fun b2 => ?_)
              · have b2 : st.2 = P := rs_eq_nat.1 (of_decide_eq_true b2)
                rw [if_pos b2]
                refine zs1 (fixed_T (k := k + 10) 2 (decide ((4 : Int) = 4))) ?_
                rfl
              · have b2 : ¬ st.2 = P := fun e => of_decide_eq_false b2 (rs_eq_nat.2 e)
                rw [if_neg b2]
                refine zd8 ?_
                refine zd4 hdv ?_
                refine zd4 hs2 ?_
                refine zd5 hqu ?_
                rfl
  · refine enter rfl func85 rfl (by decide) (by kernel_rfl) rfl rfl ?_
    refine zs1 hd1 ?_
    refine W.loop (fun e m => ∃ (i : Nat), e = [(1, .box (0, 0) [.int .i64 5, .int .i64 2, .imm 2 (trow (tx us)), .str (rs c), .str (rs ((M : Int) : Rat))]), (2, .box (0, 0) [.int .i64 0, .int .i64 0, .own (0, 0) 2 [], .str [], .str []]),
      (3, .bool (decide ((5 : Int) = 4))), (4, .str (rs ((lcmU c.den (us.take i) : Nat) : Int))), (5, .int .i64 i)] ∧
      i ≤ us.length ∧ m = us.length - i) us.length ?_ ?_ ?_
    · refine ⟨0, ?_, by omega, by omega⟩
      rw [List.take_zero]
      rfl
    · show _ < 4611686018427387904; omega
    · rintro e m ⟨i, rfl, hi, rfl⟩
      refine zs0 ?_
      refine W.cond rfl (fun hlt => ?_) (fun hlt => ?_)
      · have hlt := of_decide_eq_true hlt
        rw [trow_len, tx_len] at hlt
        have hget : (trow (tx us))[i]? = some [.str (us.getD i ([], 0)).1, .str (rs (us.getD i ([], 0)).2)] := tx_get (by omega)
        have hs := hsz _ (getD_mem (us := us) (i := i) (by omega))
        have hl1 := hs.len
        have hden := rden_Q (k := k + 5) (us.getD i ([], 0)).2 (by omega)
        have hlcm := rlcm_Q (k := k + 1) (lcmU c.den (us.take i)) (us.getD i ([], 0)).2.den (lcmU_pos c.den_nz) (us.getD i ([], 0)).2.den_nz (ld i) (Nat.le_trans hs.2 (by omega)) (by omega)
        refine zs0 ?_
        refine wI te rfl rfl rfl rfl rfl rfl (by omega) (hget) ?_
        refine zs1 hden ?_
        refine zs2 hlcm ?_
        rw [wrap_i64 (x := (i : Int) + 1) (by omega) (by omega)]
        show ∃ m', _
        refine ⟨us.length - (i + 1), by omega, i + 1, ?_, by omega, rfl⟩
        rw [take_snoc (show i < us.length by omega), lcmU_snoc]
        rfl
      · have hlt := of_decide_eq_false hlt
        rw [trow_len, tx_len] at hlt
        have hie : i = us.length := by omega
        subst hie
        rw [List.take_length, show lcmU c.den us = dD us c from rfl]
        refine zd8 ?_
        refine zd4 hsc ?_
        refine zd5 hmul ?_
        refine zs2 hrem ?_
        refine wC te rfl rfl rfl rfl rfl (const_T (k := k + 12) 2 _) rfl rfl ?_
        refine zs0 ?_
        generalize (c * ((dD us c : Int) : Rat)).num % ((M * dD us c : Nat) : Int) = c0 at *
        generalize c * ((dD us c : Int) : Rat) = c1 at *
        generalize scU us ((dD us c : Int) : Rat) = vs at *
        generalize M * dD us c = P at *
        refine W.loop (fun e m => ∃ (i : Nat), e = [(1, .box (0, 0) [.int .i64 5, .int .i64 2, .imm 2 (trow (tx us)), .str (rs c), .str (rs ((M : Int) : Rat))]), (2, .box (0, 0) [.int .i64 0, .int .i64 0, .own (0, 0) 2 [], .str [], .str []]),
          (3, .bool (decide ((5 : Int) = 4))), (6, .box (0, 0) [.int .i64 2, .imm 2 (trow (tx vs)), .str (rs c1)]), (7, .str (rs ((P : Int) : Rat))), (8, .str (rs ((((vs.take i).foldl (stepD P) ([], P)).2 : Int) : Rat))), (9, .box (0, 0) [.int .i64 2, .own (0, 0) 2 (trow (tx ((vs.take i).foldl (stepD P) ([], P)).1)), .str (rs (c0 : Rat))]),
          (10, .int .i64 i)] ∧
          i ≤ vs.length ∧ m = vs.length - i) vs.length ?_ ?_ ?_
        · refine ⟨0, ?_, by omega, by omega⟩
          rw [List.take_zero]
          rfl
        · show _ < 4611686018427387904; omega
        · rintro e m ⟨i, rfl, hi, rfl⟩
          refine zs0 ?_
          refine W.cond rfl (fun hlt => ?_) (fun hlt => ?_)
          · have hlt := of_decide_eq_true hlt
            rw [trow_len, tx_len] at hlt
            have hget : (trow (tx vs))[i]? = some [.str (vs.getD i ([], 0)).1, .str (rs (vs.getD i ([], 0)).2)] := tx_get (by omega)
            have hmem := getD_mem (us := vs) (i := i) (by omega)
            have hv2 := hvs _ hmem
            have hrm := rrem_Q (k := k + 1) (vs.getD i ([], 0)).2.num (P : Int) (by omega) (L := 11000) (Nat.le_trans hv2.1 (by omega)) hP (by omega)
            rw [← show (vs.getD i ([], 0)).2 = (((vs.getD i ([], 0)).2.num : Int) : Rat) from hvi _ hmem] at hrm
            have hsn := foldD_snoc P (vs.take i) (vs.getD i ([], 0)) ([], P)
            rw [← take_snoc (show i < vs.length by omega)] at hsn
            have hinv := hf i
            have hr1 := Int.emod_nonneg (vs.getD i ([], 0)).2.num (show (P : Int) ≠ 0 by omega)
            have hr2 := Int.emod_lt_of_pos (vs.getD i ([], 0)).2.num (show (0 : Int) < P by omega)
            rw [stepD_def] at hsn
            generalize (vs.take i).foldl (stepD P) ([], P) = st at *
            generalize (vs.getD i ([], 0)).1 = nm at *
            generalize hr : (vs.getD i ([], 0)).2.num % (P : Int) = r at *
            obtain ⟨i1, i2, i3, i4, i5⟩ := hinv
            rw [List.length_take] at i1
            have hmn := Nat.min_le_left i vs.length
            have hgc := rgcd_Q (k := k + 2) (st.2 : Int) r (L := 11000) i3 (Nat.le_trans (dec_len_mono (show r.natAbs ≤ P by omega)) hP) (by omega)
            refine zs0 ?_
            refine wI te rfl rfl rfl rfl rfl rfl (by omega) (hget) ?_
            refine zs1 hrm ?_
            refine W.cond rfl (fun b1 => ?_) (fun b1 => ?_)
            · have b1 : ¬ r = 0 := fun e => of_decide_eq_true b1 ((rs_int0 r).2 e)
              rw [if_neg b1] at hsn
              refine zd8 ?_
              refine WX.idxImmD tab_eq rfl rfl rfl rfl rfl rfl (by omega) (hget) ?_
              refine zd0 ?_
              refine wD te rfl rfl (by simp [trow_len, tx_len]; omega) ?_
              refine zd7 ?_
              refine zs2 hgc ?_
              rw [wrap_i64 (x := (i : Int) + 1) (by omega) (by omega)]
              show ∃ m', _
              refine ⟨vs.length - (i + 1), by omega, i + 1, ?_, by omega, rfl⟩
              rw [hsn]
              have e : (trow (tx st.1)).take (trow (tx st.1)).length ++ [[PV.str nm, .str (rs (r : Rat))]] = trow (tx (st.1 ++ [(nm, (r : Rat))])) := by
                rw [List.take_length]; simp [trow, tx]
              rw [← e]
              rfl
            · have b1 : r = 0 := (rs_int0 r).1 (Classical.not_not.1 (of_decide_eq_false b1))
              rw [if_pos b1] at hsn
              refine zs0 ?_
              rw [wrap_i64 (x := (i : Int) + 1) (by omega) (by omega)]
              show ∃ m', _
              refine ⟨vs.length - (i + 1), by omega, i + 1, ?_, by omega, rfl⟩
              rw [hsn]
              rfl
          · have hlt := of_decide_eq_false hlt
            rw [trow_len, tx_len] at hlt
            have hie : i = vs.length := by omega
            subst hie
            have hinv := hf vs.length
            rw [List.take_length] at hinv ⊢
            unfold divE
            generalize vs.foldl (stepD P) ([], P) = st at *
            obtain ⟨i1, i2, i3, i4, i5⟩ := hinv
            have hrem2 := rrem_Q (k := k + 1) c0 (st.2 : Int) (by omega) (L := 11000) hc0 i3 (by omega)
            have hz1 : szQ ((1 : Int) : Rat) 11000 := szZ (by rw [show (1 : Int).natAbs = 1 from rfl, dec1_len]; omega)
            have hz2 : szQ ((st.2 : Int) : Rat) 11000 := szZ (a := (st.2 : Int)) i3
            have hne : ((st.2 : Int) : Rat) ≠ 0 := by
              intro h
              have h2 : (st.2 : Int) = 0 := by exact_mod_cast h
              omega
            have hdv := rdiv_T (k := k + 5) ((1 : Int) : Rat) ((st.2 : Int) : Rat) hne (hz1.sm (by omega)) (hz2.sm (by omega))
            rw [show rs ((1 : Int) : Rat) = [49] from (rs_nat 1).trans decOne] at hdv
            have hzd := szQ_div hne hz1 hz2
            have hs2 := times_T (k := k + 4) 2 st.1 (c0 : Rat) (((1 : Int) : Rat) / ((st.2 : Int) : Rat)) (L := 22000) ((szZ hc0).mono (by omega)) hzd (fun u h => (i5 u h).mono (by omega)) (by omega) (by omega)
            have hqu := rdiv_T (k := k + 5) ((P : Int) : Rat) ((st.2 : Int) : Rat) hne ((szZ (a := (P : Int)) (L := 11000) hP).sm (by omega)) (hz2.sm (by omega))
            rw [div_nat i4 i2] at hqu
            refine zs1 hrem2 ?_
            refine W.cond rfl (fun b1 => ?_) (fun b1 => ?_)
            · have b1 : ¬ c0 % (st.2 : Int) = 0 := fun e => of_decide_eq_true b1 ((rs_int0 _).2 e)
              rw [if_pos b1]
              refine zs1 (fixed_T (k := k + 10) 2 (!decide ((5 : Int) = 4))) ?_
              rfl
            · have b1 : c0 % (st.2 : Int) = 0 := (rs_int0 _).1 (Classical.not_not.1 (of_decide_eq_false b1))
              rw [if_neg (fun h => h b1)]
              refine zs0 ?_
              refine W.cond rfl (fun b2 => ?_) (fun b2 => ?_)
              · have b2 : st.2 = P := rs_eq_nat.1 (of_decide_eq_true b2)
                rw [if_pos b2]
                refine zs1 (fixed_T (k := k + 10) 2 (decide ((5 : Int) = 4))) ?_
                rfl
              · have b2 : ¬ st.2 = P := fun e => of_decide_eq_false b2 (rs_eq_nat.2 e)
                rw [if_neg b2]
                refine zd8 ?_
                refine zd4 hdv ?_
                refine zd4 hs2 ?_
                refine zd5 hqu ?_
                rfl
end Go.PE
namespace Go.PE
open Go.RowKit Go.Proofs.Tryz
set_option maxRecDepth 100000
variable {k : Nat}
theorem eq92_1 : prog.eqGuardType prog.depth 92 = false := by kernel_rfl
theorem eq92_2 : isAggT prog 92 = some true := by kernel_rfl
theorem eq92_3 : sizeT prog 9 = some 1 := by kernel_rfl
theorem eq92_4 : isAggT prog 9 = some false := by kernel_rfl
theorem eq92 (a b : Bs) : eqS prog 92 (.agg [.str a, .str b]) (.agg [.str a, .str b]) = some true := by
  unfold eqS
  simp only [eq92_1, eq92_2]
  simp [eqT, underlying92, eq92_3, eq92_4]
theorem same_T (kd : Int) (ts : List Trm) (c : Bs) (hl : ts.length < 1073741824) :
    T (k + 1) 37 [.agg [.int .i64 kd, .imm 2 (trow ts), .str c], .agg [.int .i64 kd, .imm 2 (trow ts), .str c]] = some (.bool true, []) := by
  refine enter rfl func37 rfl (by decide) (by kernel_rfl) rfl rfl ?_
  refine zs0 ?_
  refine WX.boolM rfl rfl (fun b1 => ?_) (fun b1 => ?_)
  · exact absurd rfl (of_decide_eq_true b1)
  · refine zs0 ?_
    refine WX.boolM rfl rfl (fun b2 => ?_) (fun b2 => ?_)
    · exact absurd rfl (of_decide_eq_true b2)
    · refine zs0 ?_
      refine W.cond rfl (fun b3 => ?_) (fun b3 => ?_)
      · exact absurd rfl (of_decide_eq_true b3)
      · refine zs0 ?_
        refine W.loop (fun e m => ∃ (i : Nat), e = [(2, .box (0, 0) [.int .i64 kd, .imm 2 (trow ts), .str c]), (3, .box (0, 0) [.int .i64 kd, .imm 2 (trow ts), .str c]), (5, .int .i64 i)] ∧
          i ≤ ts.length ∧ m = ts.length - i) ts.length ?_ ?_ ?_
        · exact ⟨0, rfl, by omega, by omega⟩
        · show _ < 4611686018427387904; omega
        · rintro e m ⟨i, rfl, hi, rfl⟩
          refine zs0 ?_
          refine W.cond rfl (fun hlt => ?_) (fun hlt => ?_)
          · have hlt := of_decide_eq_true hlt
            rw [trow_len] at hlt
            have hget := trow_get (ts := ts) (i := i) (by omega)
            refine zd8 ?_
            refine WX.idxImmD tab_eq rfl rfl rfl rfl rfl rfl (by omega) (hget) ?_
            refine zd0 ?_
            refine WX.idxImmD tab_eq rfl rfl rfl rfl rfl rfl (by omega) (hget) ?_
            refine zd0 ?_
            refine WX.neAggD rfl rfl rfl (eq92 _ _) ?_
            refine WX.nilD (by kernel_rfl) ?_
            refine zs0 ?_
            rw [wrap_i64 (x := (i : Int) + 1) (by omega) (by omega)]
            show ∃ m', _
            exact ⟨ts.length - (i + 1), by omega, i + 1, rfl, by omega, rfl⟩
          · refine zs0 ?_
            rfl
theorem sameCon_T (rel kd : Int) (ts : List Trm) (c m : Bs) (hl : ts.length < 1073741824) :
    T (k + 2) 28 [.agg [.int .i64 rel, .int .i64 kd, .imm 2 (trow ts), .str c, .str m], .agg [.int .i64 rel, .int .i64 kd, .imm 2 (trow ts), .str c, .str m]] = some (.bool true, []) := by
  have h := same_T (k := k) kd ts c hl
  refine enter rfl func28 rfl (by decide) (by kernel_rfl) rfl rfl ?_
  refine zs0 ?_
  refine WX.boolM rfl rfl (fun b1 => ?_) (fun b1 => ?_)
  · refine zs0 ?_
    refine WX.boolM rfl rfl (fun b2 => ?_) (fun b2 => ?_)
    · refine zs1 h ?_
      rfl
    · exact absurd rfl (of_decide_eq_false b2)
  · exact absurd rfl (of_decide_eq_false b1)
end Go.PE
namespace Go.PE
open Go.RowKit Go.Proofs.Tryz
set_option maxRecDepth 100000
variable {k : Nat}
theorem sz_of_len {q : Rat} {L : Nat} (h1 : 1 ≤ L) (h : (rs q).length ≤ L) : szQ q L := by
  unfold rs qt at h
  rw [List.length_append, List.length_append] at h
  unfold szQ
  refine ⟨by omega, ?_⟩
  by_cases hd : q.den = 1
  · rw [hd, dec1_len]; exact h1
  · rw [if_neg hd, List.length_cons] at h; omega
theorem con_cases {rel kd : Int} {ts : List Trm} {c m : Bs} (h : conB rel kd ts c m = true) (hl : ts.length ≤ 8) (ht : ∀ t ∈ ts, t.2.length ≤ 1000) (hc : c.length ≤ 1000) (hm : m.length ≤ 1000) :
    ∃ (us : List QT) (q : Rat), ts = tx us ∧ c = rs q ∧ goodU us ∧ szQ q 1000 ∧ (kd = 2 ∨ kd = 3) ∧
      ((m = [] ∧ (rel = 1 ∨ rel = 2 ∨ rel = 3)) ∨ (kd = 2 ∧ (rel = 4 ∨ rel = 5) ∧ ∃ M : Nat, M ≠ 0 ∧ m = rs ((M : Int) : Rat) ∧ (dec M).length ≤ 1000)) := by
  have hlin : linB kd ts c = true ∧ ((m = [] ∧ (rel = 1 ∨ rel = 2 ∨ rel = 3)) ∨ (kd = 2 ∧ (rel = 4 ∨ rel = 5) ∧ isIq m = true ∧ 0 < sgq m)) := by
    unfold conB at h
    split at h
    · rename_i hr
      simp only [Bool.and_eq_true, decide_eq_true_eq] at h
      exact ⟨h.1, .inl ⟨h.2, hr⟩⟩
    · split at h
      · rename_i hr
        simp only [Bool.and_eq_true, decide_eq_true_eq] at h
        exact ⟨h.1, .inr ⟨h.2.1, hr, h.2.2.1, h.2.2.2⟩⟩
      · cases h
  obtain ⟨h1, h2⟩ := hlin
  unfold linB at h1
  simp only [Bool.and_eq_true, Bool.or_eq_true, decide_eq_true_eq, List.all_eq_true, List.mem_range] at h1
  obtain ⟨hk, hcs, hok⟩ := h1
  obtain ⟨q, hq⟩ := Option.isSome_iff_exists.1 hcs
  have hcq := rs_rd hq
  have hok2 : ∀ t ∈ ts, ∃ u : Rat, rd t.2 = some u ∧ t.2 ≠ [48] := by
    intro t htm
    obtain ⟨i, hi, he⟩ := List.mem_iff_getElem.1 htm
    have h3 := hok i hi
    have e : ts.getD i ([], []) = t := by simp [List.getD, List.getElem?_eq_getElem hi, he]
    unfold okI at h3
    rw [e] at h3
    simp only [Bool.and_eq_true, decide_eq_true_eq] at h3
    obtain ⟨u, hu⟩ := Option.isSome_iff_exists.1 h3.2.1
    exact ⟨u, hu, h3.2.2.1⟩
  refine ⟨ts.map fun t => (t.1, (rd t.2).getD 0), q, ?_, hcq, ⟨by simpa using hl, ?_⟩, sz_of_len (by omega) (hcq ▸ hc), hk, ?_⟩
  · unfold tx
    rw [List.map_map]
    conv => lhs; rw [← List.map_id ts]
    refine List.map_congr_left fun t htm => ?_
    obtain ⟨u, hu, _⟩ := hok2 t htm
    have := rs_rd hu
    show t = (t.1, rs ((rd t.2).getD 0))
    rw [hu]
    show t = (t.1, rs u)
    rw [← this]
  · intro v hv
    obtain ⟨t, htm, rfl⟩ := List.mem_map.1 hv
    obtain ⟨u, hu, hne⟩ := hok2 t htm
    have e := rs_rd hu
    show szQ ((rd t.2).getD 0) 1000 ∧ (rd t.2).getD 0 ≠ 0
    rw [hu]
    show szQ u 1000 ∧ u ≠ 0
    refine ⟨sz_of_len (by omega) (e ▸ ht t htm), fun h0 => hne ?_⟩
    rw [e, h0]; exact rs_zero
  · rcases h2 with h2 | ⟨a1, a2, a3, a4⟩
    · exact .inl h2
    · refine .inr ⟨a1, a2, ?_⟩
      unfold isIq at a3
      unfold sgq at a4
      cases hr : rd m with
      | none => rw [hr] at a3; cases a3
      | some w =>
        rw [hr] at a3 a4
        have hd : w.den = 1 := of_decide_eq_true a3
        have hw : 0 < w.num := by
          rcases sgn_cases w with ⟨_, b2⟩ | ⟨_, b2⟩ | ⟨b1, _⟩
          · simp only at a4; omega
          · simp only at a4; omega
          · exact b1
        have e : w = ((w.num.natAbs : Int) : Rat) := by
          have e1 : ((w.num.natAbs : Nat) : Int) = w.num := by omega
          rw [e1]
          have := Rat.num_divInt_den w
          rw [hd] at this
          exact this.symm.trans (divInt_one' _)
        have hm2 := rs_rd hr
        have hsz := sz_of_len (q := w) (L := 1000) (by omega) (hm2 ▸ hm)
        refine ⟨w.num.natAbs, by omega, ?_, hsz.1⟩
        rw [hm2]
        exact congrArg rs e
def zeroC : PV := .agg [.int .i64 0, .int .i64 0, .imm 2 [], .str [], .str []]
theorem normalX_T (b : Con) (hv : T (k + 12) 24 [.agg (conP b)] = some (.bool false, [])) : T (k + 13) 26 [.agg (conP b)] = some (.tup [zeroC, .int .i64 1], []) := by
  refine enter rfl func26 rfl (by decide) (by kernel_rfl) rfl rfl ?_
  refine zs1 hv ?_
  rfl
theorem rnormalX_T (b : Con) (hv : T (k + 12) 25 [.agg (conP b)] = some (.bool false, [])) : T (k + 13) 27 [.agg (conP b)] = some (.tup [zeroC, .int .i64 1], []) := by
  refine enter rfl func27 rfl (by decide) (by kernel_rfl) rfl rfl ?_
  refine zs1 hv ?_
  rfl
/-- A value of the form of a constraint with few terms. -/
def conS (v : PV) : Prop := ∃ (r kd : Int) (ts : List Trm) (c m : Bs), v = .agg [.int .i64 r, .int .i64 kd, .imm 2 (trow ts), .str c, .str m] ∧ ts.length ≤ 8
theorem truQ_S (kd : Int) (b : Bool) : conS (truQ kd b) := ⟨_, _, [], _, _, rfl, by simp⟩
theorem conQ_S {rel kd : Int} {us : List QT} {c : Rat} {m : Bs} (h : us.length ≤ 8) : conS (conQ rel kd us c m) := ⟨_, _, _, _, _, rfl, by rw [tx_len]; exact h⟩
theorem scU_len (us : List QT) (q : Rat) : (scU us q).length ≤ us.length := by
  unfold scU; split
  · simp
  · rw [mulU_len]; exact Nat.le_refl _
theorem divV_shape (rel : Int) {us : List QT} {c : Rat} (M : Nat) (hg : goodU us) (hc : szQ c 1000) (hM0 : M ≠ 0) (hM : (dec M).length ≤ 1000) : conS (divV rel us c M) := by
  have hP0 : M * dD us c ≠ 0 := Nat.mul_ne_zero hM0 (dD_ne us c)
  have hP : (dec (M * dD us c)).length ≤ 11000 := by have := dec_mul_len M (dD us c); have := dD_len hg hc; omega
  have hf := invD_fold hP0 hP (scU us ((dD us c : Int) : Rat)) (invD_0 hP0 hP)
  rw [vs_len] at hf
  have := hf.1
  have h8 := hg.1
  unfold divV divE
  split
  · exact truQ_S _ _
  · split
    · exact truQ_S _ _
    · refine conQ_S (Nat.le_trans (scU_len _ _) (by omega))
theorem nrmV_shape (rel kd : Int) {us : List QT} (c : Rat) (hg : goodU us) : conS (nrmV rel kd us c) := by
  have h8 := hg.1
  have h9 := scU_len us (kQ rel us)
  unfold nrmV
  split
  · exact truQ_S _ _
  · split
    · exact conQ_S (by omega)
    · split
      · exact conQ_S (by omega)
      · split
        · exact conQ_S (by omega)
        · split
          · exact conQ_S (by omega)
          · exact truQ_S _ _
theorem normalD_T (rel : Int) (us : List QT) (c : Rat) (M : Nat) (hrel : rel = 4 ∨ rel = 5) (hg : goodU us) (hc : szQ c 1000) (hM0 : M ≠ 0) (hM : (dec M).length ≤ 1000)
    (hv : T (k + 13) 24 [conQ rel 2 us c (rs ((M : Int) : Rat))] = some (.bool true, [])) : T (k + 14) 26 [conQ rel 2 us c (rs ((M : Int) : Rat))] = some (.tup [divV rel us c M, .int .i64 0], []) := by
  have hd := normalDivides_T (k := k) rel us c M hrel hg hc hM0 hM
  obtain ⟨r, kd, ts, c', m, he, _⟩ := divV_shape rel M hg hc hM0 hM
  rw [he] at hd ⊢
  rcases hrel with rfl | rfl
  all_goals
    refine enter rfl func26 rfl (by decide) (by kernel_rfl) rfl rfl ?_
    refine zs1 hv ?_
    refine zs2 hd ?_
    rfl
theorem rnormalD_T (rel : Int) (us : List QT) (c : Rat) (M : Nat) (hrel : rel = 4 ∨ rel = 5) (hg : goodU us) (hc : szQ c 1000) (hM0 : M ≠ 0) (hM : (dec M).length ≤ 1000)
    (hv : T (k + 13) 25 [conQ rel 2 us c (rs ((M : Int) : Rat))] = some (.bool true, []))
    (hd : T (k + 13) 85 [conQ rel 2 us c (rs ((M : Int) : Rat))] = some (divV rel us c M, [])) : T (k + 14) 27 [conQ rel 2 us c (rs ((M : Int) : Rat))] = some (.tup [divV rel us c M, .int .i64 0], []) := by
  obtain ⟨r, kd, ts, c', m, he, _⟩ := divV_shape rel M hg hc hM0 hM
  rw [he] at hd ⊢
  rcases hrel with rfl | rfl
  all_goals
    refine enter rfl func27 rfl (by decide) (by kernel_rfl) rfl rfl ?_
    refine zs1 hv ?_
    refine zs2 hd ?_
    rfl
end Go.PE
namespace Go.PE
open Go.RowKit Go.Proofs.Tryz
set_option maxRecDepth 100000
variable {k : Nat}
def smallC (b : Con) : Prop := b.ts.length ≤ 8 ∧ (∀ t ∈ b.ts, t.1.length ≤ 1000 ∧ t.2.length ≤ 1000) ∧ b.c.length ≤ 1000 ∧ b.m.length ≤ 1000
theorem normal_both (b : Con) (hb : smallC b)
    (hD : ∀ (rel : Int) (us : List QT) (c : Rat) (M : Nat), (rel = 4 ∨ rel = 5) → goodU us → szQ c 1000 → M ≠ 0 → (dec M).length ≤ 1000 → T (k + 13) 85 [conQ rel 2 us c (rs ((M : Int) : Rat))] = some (divV rel us c M, [])) :
    ∃ (v : PV) (e : Int), T (k + 14) 26 [.agg (conP b)] = some (.tup [v, .int .i64 e], []) ∧ T (k + 14) 27 [.agg (conP b)] = some (.tup [v, .int .i64 e], []) ∧ conS v ∧ (conB b.rel b.kind b.ts b.c b.m = true → e = 0) := by
  obtain ⟨hl, ht, hc, hm⟩ := hb
  have hts : ∀ t ∈ b.ts, smallT t := fun t h => ⟨by have := (ht t h).1; omega, by have := (ht t h).2; omega⟩
  have h1 := con_T (k := k + 5) b.rel b.kind b.ts b.c b.m hts (by omega) (by omega) (by omega)
  have h2 := rcon_T (k := k + 4) b.rel b.kind b.ts b.c b.m hts (by omega) (by omega) (by omega)
  cases hcb : conB b.rel b.kind b.ts b.c b.m with
  | false =>
    rw [hcb] at h1 h2
    exact ⟨zeroC, 1, normalX_T (k := k + 1) b h1, rnormalX_T (k := k + 1) b h2, ⟨_, _, [], _, _, rfl, by simp⟩, fun h => by cases h⟩
  | true =>
    rw [hcb] at h1 h2
    obtain ⟨us, q, e1, e2, hg, hq, hkd, hr⟩ := con_cases hcb hl (fun t h => (ht t h).2) hc hm
    obtain ⟨rel, kd, ts, c, m⟩ := b
    simp only at e1 e2 hkd hr h1 h2
    subst e1 e2
    rcases hr with ⟨rfl, hr⟩ | ⟨rfl, hr, M, hM0, rfl, hM⟩
    · refine ⟨nrmV rel kd us q, 0, ?_, ?_, nrmV_shape rel kd q hg, fun _ => rfl⟩
      · by_cases hne : us = []
        · subst hne
          exact normal0_T (k := k + 1) rel kd q hr hq h1
        · rcases hr with rfl | rfl | rfl
          · exact normal1_T (k := k + 1) kd us q hkd hne hg hq h1
          · exact normal2_T (k := k + 1) kd us q hkd hne hg hq h1
          · exact normal3_T (k := k + 1) kd us q hkd hne hg hq h1
      · by_cases hne : us = []
        · subst hne
          exact rnormal0_T (k := k + 1) rel kd q hr hq h2
        · rcases hkd with rfl | rfl
          · rcases hr with rfl | rfl | rfl
            · exact rnormal12_T (k := k + 1) us q hne hg hq h2
            · exact rnormal22_T (k := k + 1) us q hne hg hq h2
            · exact rnormal32_T (k := k + 1) us q hne hg hq h2
          · rcases hr with rfl | rfl | rfl
            · exact rnormal13_T (k := k + 1) us q hne hg hq h2
            · exact rnormal23_T (k := k + 1) us q hne hg hq h2
            · exact rnormal33_T (k := k + 1) us q hne hg hq h2
    · exact ⟨divV rel us q M, 0, normalD_T (k := k) rel us q M hr hg hq hM0 hM h1, rnormalD_T (k := k) rel us q M hr hg hq hM0 hM h2 (hD rel us q M hr hg hq hM0 hM), divV_shape rel M hg hq hM0 hM, fun _ => rfl⟩
end Go.PE
