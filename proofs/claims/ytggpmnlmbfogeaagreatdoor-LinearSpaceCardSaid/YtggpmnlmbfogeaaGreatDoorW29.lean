/-
  A part of the proof that the law's function returns true and leaves its arguments as they were, for every input (no condition): own lemmas of the proof, in the order of their use.
-/
import Derived.Test.YtggpmnlmbfogeaaGreatDoorW28
set_option linter.all false
namespace Go.PE
open Go.RowKit Go.Proofs.Tryz
set_option maxRecDepth 100000
variable {k : Nat}
theorem nrm3 (kd : Int) (us : List QT) (c : Rat) (hne : us ≠ []) (hkd : kd = 2 ∨ kd = 3) : nrmV 3 kd us c = if kd = 3 then conQ 3 kd (scU us (kQ 3 us)) (c * kQ 3 us) [] else if (c * kQ 3 us).den = 1 then conQ 3 kd (scU us (kQ 3 us)) (c * kQ 3 us) [] else truQ kd false := by
  unfold nrmV
  rw [if_neg hne]
  rcases hkd with rfl | rfl
  · rw [if_neg (show ¬ (2 : Int) = 3 by decide), if_neg (show ¬ (3 : Int) = 1 by decide), if_neg (show ¬ (3 : Int) = 2 by decide), if_neg (show ¬ (2 : Int) = 3 by decide)]
  · rw [if_pos rfl, if_pos rfl]
set_option maxHeartbeats 1000000 in
theorem normal3_T (kd : Int) (us : List QT) (c : Rat) (hkd : kd = 2 ∨ kd = 3) (hne : us ≠ []) (hg : goodU us) (hc : szQ c 1000)
    (hv : T (k + 12) 24 [conQ 3 kd us c []] = some (.bool true, [])) : T (k + 13) 26 [conQ 3 kd us c []] = some (.tup [nrmV 3 kd us c, .int .i64 0], []) := by
  have hk : szQ (kQ 3 us) 20000 := kQ_sz hg
  have hps := prim_sz hg
  have lps := hps.len
  have hp := primitive_T (k := k) us hg hne
  have hlen : 0 < us.length := List.length_pos_iff.2 hne
  have hget : (trow (tx us))[0]? = some [.str (us.getD 0 ([], 0)).1, .str (rs (us.getD 0 ([], 0)).2)] := tx_get hlen
  have hu0 := (hg.2 _ (getD_mem hlen)).1.len
  have hs := sign_Q (k := k + 5) (us.getD 0 ([], 0)).2 (by omega)
  have hn := neg_Q (k := k + 4) (prim us) (by omega)
  have hsc := scale_T (k := k + 2) kd us c (kQ 3 us) (L := 20000) (hc.mono (by omega)) hk (fun u h => (hg.2 u h).1.mono (by omega)) (by omega) (by have := hg.1; omega)
  have hz := szQ_mul hc hk
  have lz := hz.len
  have hii := isInt_Q (k := k + 8) (c * kQ 3 us) (by omega)
  have htr := truth_T (k := k + 11) kd false
  rw [nrm3 kd us c hne hkd]
  have e : kQ 3 us = if (us.getD 0 ([], 0)).2.num < 0 then -prim us else prim us := by
    unfold kQ
    by_cases h : (us.getD 0 ([], 0)).2.num < 0
    · rw [if_pos ⟨rfl, h⟩, if_pos h]
    · rw [if_neg (fun x => h x.2), if_neg h]
  rcases sgn_cases (us.getD 0 ([], 0)).2 with ⟨h1, h2⟩ | ⟨h1, h2⟩ | ⟨h1, h2⟩
  · rw [if_pos h1] at e
    rw [h2] at hs
    rw [← e] at hn
    rcases hkd with rfl | rfl
    · rw [if_neg (by decide)]
      refine enter rfl func26 rfl (by decide) (by kernel_rfl) rfl rfl ?_
      refine zs1 hv ?_
      refine W.cond rfl (fun b1 => ?_) (fun b1 => ?_)
      · have b1 := of_decide_eq_true b1
        rw [trow_len, tx_len] at b1
        exact absurd (List.eq_nil_of_length_eq_zero (by omega)) hne
      · refine zs1 hp ?_
        refine wI te rfl rfl rfl rfl rfl rfl (by omega) (hget) ?_
        refine zs1 hs ?_
        refine zs2 hn ?_
        refine zd6 hsc ?_
        refine zs2 hii ?_
        refine W.cond rfl (fun b2 => ?_) (fun b2 => ?_)
        · have b2 : ¬ (c * kQ 3 us).den = 1 := by simpa using b2
          rw [if_neg b2]
          refine zs1 htr ?_
          rfl
        · have b2 : (c * kQ 3 us).den = 1 := by simpa using b2
          rw [if_pos b2]
          refine zs0 ?_
          rfl
    · rw [if_pos rfl]
      refine enter rfl func26 rfl (by decide) (by kernel_rfl) rfl rfl ?_
      refine zs1 hv ?_
      refine W.cond rfl (fun b1 => ?_) (fun b1 => ?_)
      · have b1 := of_decide_eq_true b1
        rw [trow_len, tx_len] at b1
        exact absurd (List.eq_nil_of_length_eq_zero (by omega)) hne
      · refine zs1 hp ?_
        refine wI te rfl rfl rfl rfl rfl rfl (by omega) (hget) ?_
        refine zs1 hs ?_
        refine zs2 hn ?_
        refine zd6 hsc ?_
        rfl
  all_goals
    first | rw [if_neg (by rw [h1]; decide)] at e | rw [if_neg (by omega)] at e
    rw [h2] at hs
    rw [← e] at hp
    rcases hkd with rfl | rfl
    · rw [if_neg (by decide)]
      refine enter rfl func26 rfl (by decide) (by kernel_rfl) rfl rfl ?_
      refine zs1 hv ?_
      refine W.cond rfl (fun b1 => ?_) (fun b1 => ?_)
      · have b1 := of_decide_eq_true b1
        rw [trow_len, tx_len] at b1
        exact absurd (List.eq_nil_of_length_eq_zero (by omega)) hne
      · refine zs1 hp ?_
        refine wI te rfl rfl rfl rfl rfl rfl (by omega) (hget) ?_
        refine zs1 hs ?_
        refine zd6 hsc ?_
        refine zs2 hii ?_
        refine W.cond rfl (fun b2 => ?_) (fun b2 => ?_)
        · have b2 : ¬ (c * kQ 3 us).den = 1 := by simpa using b2
          rw [if_neg b2]
          refine zs1 htr ?_
          rfl
        · have b2 : (c * kQ 3 us).den = 1 := by simpa using b2
          rw [if_pos b2]
          refine zs0 ?_
          rfl
    · rw [if_pos rfl]
      refine enter rfl func26 rfl (by decide) (by kernel_rfl) rfl rfl ?_
      refine zs1 hv ?_
      refine W.cond rfl (fun b1 => ?_) (fun b1 => ?_)
      · have b1 := of_decide_eq_true b1
        rw [trow_len, tx_len] at b1
        exact absurd (List.eq_nil_of_length_eq_zero (by omega)) hne
      · refine zs1 hp ?_
        refine wI te rfl rfl rfl rfl rfl rfl (by omega) (hget) ?_
        refine zs1 hs ?_
        refine zd6 hsc ?_
        rfl
end Go.PE
namespace Go.PE
open Go.RowKit Go.Proofs.Tryz
set_option maxRecDepth 100000
variable {k : Nat}
theorem rnormal12_T (us : List QT) (c : Rat) (hne : us ≠ []) (hg : goodU us) (hc : szQ c 1000)
    (hv : T (k + 12) 25 [conQ 1 2 us c []] = some (.bool true, [])) : T (k + 13) 27 [conQ 1 2 us c []] = some (.tup [nrmV 1 2 us c, .int .i64 0], []) := by
  have hsz : ∀ u ∈ us, szQ u.2 1000 := fun u h => (hg.2 u h).1
  have hlen : 0 < us.length := List.length_pos_iff.2 hne
  have hl8 := hg.1
  have hk : szQ (kQ 1 us) 20000 := kQ_sz hg
  have ld : ∀ i, (dec (lcmU 1 (us.take i))).length ≤ 9001 := fun i => by
    have h1 := lcmU_len (us := us.take i) (d := 1) (M := 1000) fun u hu => hsz u (List.mem_of_mem_take hu)
    rw [dec1_len, List.length_take] at h1
    have := Nat.min_le_right i us.length
    have := hg.1
    omega
  have ldd := ld us.length
  rw [List.take_length] at ldd
  have hdvd := (lcmU_dvd (us := us) (d := 1)).2
  have hd0 : lcmU 1 us ≠ 0 := lcmU_pos (by omega)
  have hz0 : ∀ u ∈ us, (dec (zU (lcmU 1 us) u).natAbs).length ≤ 10001 := fun u h => by have := zU_len (d := lcmU 1 us) (hsz u h); omega
  have hgg : ∀ i, (dec (gcdU (lcmU 1 us) (us.take i))).length ≤ 10001 := fun i => gcdU_len (by omega) fun u h => hz0 u (List.mem_of_mem_take h)
  have hgl := hgg us.length
  rw [List.take_length] at hgl
  have hg0 : gcdU (lcmU 1 us) us ≠ 0 := gcdU_ne0 (.inr hne) fun u h => zU_ne hd0 (hdvd u h) (hg.2 u h).2
  have hG : ((gcdU (lcmU 1 us) us : Int) : Rat) ≠ 0 := by
    intro h
    have h2 : (gcdU (lcmU 1 us) us : Int) = 0 := by exact_mod_cast h
    omega
  have hdiv : T (k + 12) 29 [.str (rs ((lcmU 1 us : Int) : Rat)), .str (rs ((gcdU (lcmU 1 us) us : Int) : Rat))] = some (.str (rs (prim us)), []) :=
    rdiv_T (k := k + 5) ((lcmU 1 us : Int) : Rat) ((gcdU (lcmU 1 us) us : Int) : Rat) hG ((szZ (L := 10001) (by show (dec (lcmU 1 us)).length ≤ _; omega)).sm (by omega)) ((szZ (a := (gcdU (lcmU 1 us) us : Int)) (L := 10001) hgl).sm (by omega))
  have hsc := times_T (k := k + 4) 2 us c (kQ 1 us) (L := 20000) (hc.mono (by omega)) hk (fun u h => (hg.2 u h).1.mono (by omega)) (by omega) (by have := hg.1; omega)
  have hz := szQ_mul hc hk
  have lz := hz.len
  have e : kQ 1 us = prim us := if_neg (fun h => by have := h.1; omega)
  rw [← e] at hdiv
  unfold nrmV
  rw [if_neg hne]
  rw [if_neg (show ¬ (2 : Int) = 3 by decide), if_pos rfl]
  have hcl := rceil_Q (k := k + 4) (c * kQ 1 us) hz (by omega)
  refine enter rfl func27 rfl (by decide) (by kernel_rfl) rfl rfl ?_
  refine zs1 hv ?_
  refine W.cond rfl (fun b0 => ?_) (fun b0 => ?_)
  · have b0 := of_decide_eq_true b0
    rw [trow_len, tx_len] at b0
    exact absurd (List.eq_nil_of_length_eq_zero (by omega)) hne
  · refine zs0 ?_
    refine W.loop (fun e m => ∃ (i : Nat), e = [(1, .box (0, 0) [.int .i64 1, .int .i64 2, .imm 2 (trow (tx us)), .str (rs c), .str []]), (2, .box (0, 0) [.int .i64 0, .int .i64 0, .own (0, 0) 2 [], .str [], .str []]), (5, .str [48]), (6, .str (rs ((lcmU 1 (us.take i) : Nat) : Int))), (7, .int .i64 i)] ∧
      i ≤ us.length ∧ m = us.length - i) us.length ?_ ?_ ?_
    · refine ⟨0, ?_, by omega, by omega⟩
      rw [List.take_zero, rs_nat (lcmU 1 []), show dec (lcmU 1 []) = [49] from decOne]
      rfl
    · show _ < 4611686018427387904; omega
    · rintro e m ⟨i, rfl, hi, rfl⟩
      refine zs0 ?_
      refine W.cond rfl (fun hlt => ?_) (fun hlt => ?_)
      · have hlt := of_decide_eq_true hlt
        rw [trow_len, tx_len] at hlt
        have hget : (trow (tx us))[i]? = some [.str (us.getD i ([], 0)).1, .str (rs (us.getD i ([], 0)).2)] := tx_get (by omega)
        have hmem := getD_mem (us := us) (i := i) (by omega)
        have hs := hsz _ hmem
        have hl1 := hs.len
        have hden := rden_Q (k := k + 5) (us.getD i ([], 0)).2 (by omega)
        have hlcm := rlcm_Q (k := k + 1) (lcmU 1 (us.take i)) (us.getD i ([], 0)).2.den (lcmU_pos (by omega)) (us.getD i ([], 0)).2.den_nz (ld i) (Nat.le_trans hs.2 (by omega)) (by omega)
        refine zs0 ?_
        refine wI te rfl rfl rfl rfl rfl rfl (by omega) (hget) ?_
        refine zs1 hden ?_
        refine zs2 hlcm ?_
        rw [wrap_i64 (x := (i : Int) + 1) (by omega) (by omega)]
        show ∃ m', _
        refine ⟨us.length - (i + 1), by omega, i + 1, ?_, by omega, rfl⟩
        rw [take_snoc (show i < us.length by omega), lcmU_snoc]
        rfl
      · have hlt := of_decide_eq_false hlt
        rw [trow_len, tx_len] at hlt
        have hie : i = us.length := by omega
        subst hie
        rw [List.take_length]
        generalize hD : lcmU 1 us = D at *
        refine zs0 ?_
        refine W.loop (fun e m => ∃ (i : Nat), e = [(1, .box (0, 0) [.int .i64 1, .int .i64 2, .imm 2 (trow (tx us)), .str (rs c), .str []]), (2, .box (0, 0) [.int .i64 0, .int .i64 0, .own (0, 0) 2 [], .str [], .str []]), (5, .str (rs ((gcdU D (us.take i) : Nat) : Int))), (6, .str (rs ((D : Nat) : Int))), (8, .int .i64 i)] ∧
          i ≤ us.length ∧ m = us.length - i) us.length ?_ ?_ ?_
        · refine ⟨0, ?_, by omega, by omega⟩
          rw [List.take_zero, rs_nat (gcdU D []), show dec (gcdU D []) = [48] from dec_zero]
          rfl
        · show _ < 4611686018427387904; omega
        · rintro e m ⟨i, rfl, hi, rfl⟩
          refine zs0 ?_
          refine W.cond rfl (fun hlt => ?_) (fun hlt => ?_)
          · have hlt := of_decide_eq_true hlt
            rw [trow_len, tx_len] at hlt
            have hget : (trow (tx us))[i]? = some [.str (us.getD i ([], 0)).1, .str (rs (us.getD i ([], 0)).2)] := tx_get (by omega)
            have hmem := getD_mem (us := us) (i := i) (by omega)
            have hm := rmul_T (k := k + 5) (us.getD i ([], 0)).2 ((D : Int) : Rat) ((hsz _ hmem).sm (by omega)) ((szZ (a := (D : Int)) (L := 9001) (by show (dec D).length ≤ _; omega)).sm (by omega))
            rw [zU_eq (hdvd _ hmem)] at hm
            have hgc := rgcd_Q (k := k + 2) ((gcdU D (us.take i) : Nat) : Int) (zU D (us.getD i ([], 0))) (L := 10001) (hgg i) (hz0 _ hmem) (by omega)
            refine zs0 ?_
            refine wI te rfl rfl rfl rfl rfl rfl (by omega) (hget) ?_
            refine zs1 hm ?_
            refine zs2 hgc ?_
            rw [wrap_i64 (x := (i : Int) + 1) (by omega) (by omega)]
            show ∃ m', _
            refine ⟨us.length - (i + 1), by omega, i + 1, ?_, by omega, rfl⟩
            rw [take_snoc (show i < us.length by omega), gcdU_snoc]
            rfl
          · have hlt := of_decide_eq_false hlt
            rw [trow_len, tx_len] at hlt
            have hie : i = us.length := by omega
            subst hie
            rw [List.take_length]
            refine zs1 hdiv ?_
            refine zs2 hsc ?_
            refine zs2 hcl ?_
            rfl
theorem rnormal13_T (us : List QT) (c : Rat) (hne : us ≠ []) (hg : goodU us) (hc : szQ c 1000)
    (hv : T (k + 12) 25 [conQ 1 3 us c []] = some (.bool true, [])) : T (k + 13) 27 [conQ 1 3 us c []] = some (.tup [nrmV 1 3 us c, .int .i64 0], []) := by
  have hsz : ∀ u ∈ us, szQ u.2 1000 := fun u h => (hg.2 u h).1
  have hlen : 0 < us.length := List.length_pos_iff.2 hne
  have hl8 := hg.1
  have hk : szQ (kQ 1 us) 20000 := kQ_sz hg
  have ld : ∀ i, (dec (lcmU 1 (us.take i))).length ≤ 9001 := fun i => by
    have h1 := lcmU_len (us := us.take i) (d := 1) (M := 1000) fun u hu => hsz u (List.mem_of_mem_take hu)
    rw [dec1_len, List.length_take] at h1
    have := Nat.min_le_right i us.length
    have := hg.1
    omega
  have ldd := ld us.length
  rw [List.take_length] at ldd
  have hdvd := (lcmU_dvd (us := us) (d := 1)).2
  have hd0 : lcmU 1 us ≠ 0 := lcmU_pos (by omega)
  have hz0 : ∀ u ∈ us, (dec (zU (lcmU 1 us) u).natAbs).length ≤ 10001 := fun u h => by have := zU_len (d := lcmU 1 us) (hsz u h); omega
  have hgg : ∀ i, (dec (gcdU (lcmU 1 us) (us.take i))).length ≤ 10001 := fun i => gcdU_len (by omega) fun u h => hz0 u (List.mem_of_mem_take h)
  have hgl := hgg us.length
  rw [List.take_length] at hgl
  have hg0 : gcdU (lcmU 1 us) us ≠ 0 := gcdU_ne0 (.inr hne) fun u h => zU_ne hd0 (hdvd u h) (hg.2 u h).2
  have hG : ((gcdU (lcmU 1 us) us : Int) : Rat) ≠ 0 := by
    intro h
    have h2 : (gcdU (lcmU 1 us) us : Int) = 0 := by exact_mod_cast h
    omega
  have hdiv : T (k + 12) 29 [.str (rs ((lcmU 1 us : Int) : Rat)), .str (rs ((gcdU (lcmU 1 us) us : Int) : Rat))] = some (.str (rs (prim us)), []) :=
    rdiv_T (k := k + 5) ((lcmU 1 us : Int) : Rat) ((gcdU (lcmU 1 us) us : Int) : Rat) hG ((szZ (L := 10001) (by show (dec (lcmU 1 us)).length ≤ _; omega)).sm (by omega)) ((szZ (a := (gcdU (lcmU 1 us) us : Int)) (L := 10001) hgl).sm (by omega))
  have hsc := times_T (k := k + 4) 3 us c (kQ 1 us) (L := 20000) (hc.mono (by omega)) hk (fun u h => (hg.2 u h).1.mono (by omega)) (by omega) (by have := hg.1; omega)
  have hz := szQ_mul hc hk
  have lz := hz.len
  have e : kQ 1 us = prim us := if_neg (fun h => by have := h.1; omega)
  rw [← e] at hdiv
  unfold nrmV
  rw [if_neg hne]
  rw [if_pos rfl]
  refine enter rfl func27 rfl (by decide) (by kernel_rfl) rfl rfl ?_
  refine zs1 hv ?_
  refine W.cond rfl (fun b0 => ?_) (fun b0 => ?_)
  · have b0 := of_decide_eq_true b0
    rw [trow_len, tx_len] at b0
    exact absurd (List.eq_nil_of_length_eq_zero (by omega)) hne
  · refine zs0 ?_
    refine W.loop (fun e m => ∃ (i : Nat), e = [(1, .box (0, 0) [.int .i64 1, .int .i64 3, .imm 2 (trow (tx us)), .str (rs c), .str []]), (2, .box (0, 0) [.int .i64 0, .int .i64 0, .own (0, 0) 2 [], .str [], .str []]), (5, .str [48]), (6, .str (rs ((lcmU 1 (us.take i) : Nat) : Int))), (7, .int .i64 i)] ∧
      i ≤ us.length ∧ m = us.length - i) us.length ?_ ?_ ?_
    · refine ⟨0, ?_, by omega, by omega⟩
      rw [List.take_zero, rs_nat (lcmU 1 []), show dec (lcmU 1 []) = [49] from decOne]
      rfl
    · show _ < 4611686018427387904; omega
    · rintro e m ⟨i, rfl, hi, rfl⟩
      refine zs0 ?_
      refine W.cond rfl (fun hlt => ?_) (fun hlt => ?_)
      · have hlt := of_decide_eq_true hlt
        rw [trow_len, tx_len] at hlt
        have hget : (trow (tx us))[i]? = some [.str (us.getD i ([], 0)).1, .str (rs (us.getD i ([], 0)).2)] := tx_get (by omega)
        have hmem := getD_mem (us := us) (i := i) (by omega)
        have hs := hsz _ hmem
        have hl1 := hs.len
        have hden := rden_Q (k := k + 5) (us.getD i ([], 0)).2 (by omega)
        have hlcm := rlcm_Q (k := k + 1) (lcmU 1 (us.take i)) (us.getD i ([], 0)).2.den (lcmU_pos (by omega)) (us.getD i ([], 0)).2.den_nz (ld i) (Nat.le_trans hs.2 (by omega)) (by omega)
        refine zs0 ?_
        refine wI te rfl rfl rfl rfl rfl rfl (by omega) (hget) ?_
        refine zs1 hden ?_
        refine zs2 hlcm ?_
        rw [wrap_i64 (x := (i : Int) + 1) (by omega) (by omega)]
        show ∃ m', _
        refine ⟨us.length - (i + 1), by omega, i + 1, ?_, by omega, rfl⟩
        rw [take_snoc (show i < us.length by omega), lcmU_snoc]
        rfl
      · have hlt := of_decide_eq_false hlt
        rw [trow_len, tx_len] at hlt
        have hie : i = us.length := by omega
        subst hie
        rw [List.take_length]
        generalize hD : lcmU 1 us = D at *
        refine zs0 ?_
        refine W.loop (fun e m => ∃ (i : Nat), e = [(1, .box (0, 0) [.int .i64 1, .int .i64 3, .imm 2 (trow (tx us)), .str (rs c), .str []]), (2, .box (0, 0) [.int .i64 0, .int .i64 0, .own (0, 0) 2 [], .str [], .str []]), (5, .str (rs ((gcdU D (us.take i) : Nat) : Int))), (6, .str (rs ((D : Nat) : Int))), (8, .int .i64 i)] ∧
          i ≤ us.length ∧ m = us.length - i) us.length ?_ ?_ ?_
        · refine ⟨0, ?_, by omega, by omega⟩
          rw [List.take_zero, rs_nat (gcdU D []), show dec (gcdU D []) = [48] from dec_zero]
          rfl
        · show _ < 4611686018427387904; omega
        · rintro e m ⟨i, rfl, hi, rfl⟩
          refine zs0 ?_
          refine W.cond rfl (fun hlt => ?_) (fun hlt => ?_)
          · have hlt := of_decide_eq_true hlt
            rw [trow_len, tx_len] at hlt
            have hget : (trow (tx us))[i]? = some [.str (us.getD i ([], 0)).1, .str (rs (us.getD i ([], 0)).2)] := tx_get (by omega)
            have hmem := getD_mem (us := us) (i := i) (by omega)
            have hm := rmul_T (k := k + 5) (us.getD i ([], 0)).2 ((D : Int) : Rat) ((hsz _ hmem).sm (by omega)) ((szZ (a := (D : Int)) (L := 9001) (by show (dec D).length ≤ _; omega)).sm (by omega))
            rw [zU_eq (hdvd _ hmem)] at hm
            have hgc := rgcd_Q (k := k + 2) ((gcdU D (us.take i) : Nat) : Int) (zU D (us.getD i ([], 0))) (L := 10001) (hgg i) (hz0 _ hmem) (by omega)
            refine zs0 ?_
            refine wI te rfl rfl rfl rfl rfl rfl (by omega) (hget) ?_
            refine zs1 hm ?_
            refine zs2 hgc ?_
            rw [wrap_i64 (x := (i : Int) + 1) (by omega) (by omega)]
            show ∃ m', _
            refine ⟨us.length - (i + 1), by omega, i + 1, ?_, by omega, rfl⟩
            rw [take_snoc (show i < us.length by omega), gcdU_snoc]
            rfl
          · have hlt := of_decide_eq_false hlt
            rw [trow_len, tx_len] at hlt
            have hie : i = us.length := by omega
            subst hie
            rw [List.take_length]
            refine zs1 hdiv ?_
            refine zs2 hsc ?_
            rfl
end Go.PE
namespace Go.PE
open Go.RowKit Go.Proofs.Tryz
set_option maxRecDepth 100000
variable {k : Nat}
theorem rnormal22_T (us : List QT) (c : Rat) (hne : us ≠ []) (hg : goodU us) (hc : szQ c 1000)
    (hv : T (k + 12) 25 [conQ 2 2 us c []] = some (.bool true, [])) : T (k + 13) 27 [conQ 2 2 us c []] = some (.tup [nrmV 2 2 us c, .int .i64 0], []) := by
  have hsz : ∀ u ∈ us, szQ u.2 1000 := fun u h => (hg.2 u h).1
  have hlen : 0 < us.length := List.length_pos_iff.2 hne
  have hl8 := hg.1
  have hk : szQ (kQ 2 us) 20000 := kQ_sz hg
  have ld : ∀ i, (dec (lcmU 1 (us.take i))).length ≤ 9001 := fun i => by
    have h1 := lcmU_len (us := us.take i) (d := 1) (M := 1000) fun u hu => hsz u (List.mem_of_mem_take hu)
    rw [dec1_len, List.length_take] at h1
    have := Nat.min_le_right i us.length
    have := hg.1
    omega
  have ldd := ld us.length
  rw [List.take_length] at ldd
  have hdvd := (lcmU_dvd (us := us) (d := 1)).2
  have hd0 : lcmU 1 us ≠ 0 := lcmU_pos (by omega)
  have hz0 : ∀ u ∈ us, (dec (zU (lcmU 1 us) u).natAbs).length ≤ 10001 := fun u h => by have := zU_len (d := lcmU 1 us) (hsz u h); omega
  have hgg : ∀ i, (dec (gcdU (lcmU 1 us) (us.take i))).length ≤ 10001 := fun i => gcdU_len (by omega) fun u h => hz0 u (List.mem_of_mem_take h)
  have hgl := hgg us.length
  rw [List.take_length] at hgl
  have hg0 : gcdU (lcmU 1 us) us ≠ 0 := gcdU_ne0 (.inr hne) fun u h => zU_ne hd0 (hdvd u h) (hg.2 u h).2
  have hG : ((gcdU (lcmU 1 us) us : Int) : Rat) ≠ 0 := by
    intro h
    have h2 : (gcdU (lcmU 1 us) us : Int) = 0 := by exact_mod_cast h
    omega
  have hdiv : T (k + 12) 29 [.str (rs ((lcmU 1 us : Int) : Rat)), .str (rs ((gcdU (lcmU 1 us) us : Int) : Rat))] = some (.str (rs (prim us)), []) :=
    rdiv_T (k := k + 5) ((lcmU 1 us : Int) : Rat) ((gcdU (lcmU 1 us) us : Int) : Rat) hG ((szZ (L := 10001) (by show (dec (lcmU 1 us)).length ≤ _; omega)).sm (by omega)) ((szZ (a := (gcdU (lcmU 1 us) us : Int)) (L := 10001) hgl).sm (by omega))
  have hsc := times_T (k := k + 4) 2 us c (kQ 2 us) (L := 20000) (hc.mono (by omega)) hk (fun u h => (hg.2 u h).1.mono (by omega)) (by omega) (by have := hg.1; omega)
  have hz := szQ_mul hc hk
  have lz := hz.len
  have e : kQ 2 us = prim us := if_neg (fun h => by have := h.1; omega)
  rw [← e] at hdiv
  unfold nrmV
  rw [if_neg hne]
  rw [if_neg (show ¬ (2 : Int) = 3 by decide), if_neg (show ¬ (2 : Int) = 1 by decide), if_pos rfl]
  have hcl := rfloor_Q (k := k + 5) (c * kQ 2 us) hz (by omega)
  have one1 : szQ ((1 : Int) : Rat) 30000 := szZ (by rw [show (1 : Int).natAbs = 1 from rfl, dec1_len]; omega)
  have had := radd_Q (k := k + 5) (flQ (c * kQ 2 us) : Rat) ((1 : Int) : Rat) (L := 30000) ((flQ_sz hz).mono (by omega)) one1 (by omega)
  rw [show rs ((1 : Int) : Rat) = [49] from (rs_nat 1).trans decOne] at had
  refine enter rfl func27 rfl (by decide) (by kernel_rfl) rfl rfl ?_
  refine zs1 hv ?_
  refine W.cond rfl (fun b0 => ?_) (fun b0 => ?_)
  · have b0 := of_decide_eq_true b0
    rw [trow_len, tx_len] at b0
    exact absurd (List.eq_nil_of_length_eq_zero (by omega)) hne
  · refine zs0 ?_
    refine W.loop (fun e m => ∃ (i : Nat), e = [(1, .box (0, 0) [.int .i64 2, .int .i64 2, .imm 2 (trow (tx us)), .str (rs c), .str []]), (2, .box (0, 0) [.int .i64 0, .int .i64 0, .own (0, 0) 2 [], .str [], .str []]), (5, .str [48]), (6, .str (rs ((lcmU 1 (us.take i) : Nat) : Int))), (7, .int .i64 i)] ∧
      i ≤ us.length ∧ m = us.length - i) us.length ?_ ?_ ?_
    · refine ⟨0, ?_, by omega, by omega⟩
      rw [List.take_zero, rs_nat (lcmU 1 []), show dec (lcmU 1 []) = [49] from decOne]
      rfl
    · show _ < 4611686018427387904; omega
    · rintro e m ⟨i, rfl, hi, rfl⟩
      refine zs0 ?_
      refine W.cond rfl (fun hlt => ?_) (fun hlt => ?_)
      · have hlt := of_decide_eq_true hlt
        rw [trow_len, tx_len] at hlt
        have hget : (trow (tx us))[i]? = some [.str (us.getD i ([], 0)).1, .str (rs (us.getD i ([], 0)).2)] := tx_get (by omega)
        have hmem := getD_mem (us := us) (i := i) (by omega)
        have hs := hsz _ hmem
        have hl1 := hs.len
        have hden := rden_Q (k := k + 5) (us.getD i ([], 0)).2 (by omega)
        have hlcm := rlcm_Q (k := k + 1) (lcmU 1 (us.take i)) (us.getD i ([], 0)).2.den (lcmU_pos (by omega)) (us.getD i ([], 0)).2.den_nz (ld i) (Nat.le_trans hs.2 (by omega)) (by omega)
        refine zs0 ?_
        refine wI te rfl rfl rfl rfl rfl rfl (by omega) (hget) ?_
        refine zs1 hden ?_
        refine zs2 hlcm ?_
        rw [wrap_i64 (x := (i : Int) + 1) (by omega) (by omega)]
        show ∃ m', _
        refine ⟨us.length - (i + 1), by omega, i + 1, ?_, by omega, rfl⟩
        rw [take_snoc (show i < us.length by omega), lcmU_snoc]
        rfl
      · have hlt := of_decide_eq_false hlt
        rw [trow_len, tx_len] at hlt
        have hie : i = us.length := by omega
        subst hie
        rw [List.take_length]
        generalize hD : lcmU 1 us = D at *
        refine zs0 ?_
        refine W.loop (fun e m => ∃ (i : Nat), e = [(1, .box (0, 0) [.int .i64 2, .int .i64 2, .imm 2 (trow (tx us)), .str (rs c), .str []]), (2, .box (0, 0) [.int .i64 0, .int .i64 0, .own (0, 0) 2 [], .str [], .str []]), (5, .str (rs ((gcdU D (us.take i) : Nat) : Int))), (6, .str (rs ((D : Nat) : Int))), (8, .int .i64 i)] ∧
          i ≤ us.length ∧ m = us.length - i) us.length ?_ ?_ ?_
        · refine ⟨0, ?_, by omega, by omega⟩
          rw [List.take_zero, rs_nat (gcdU D []), show dec (gcdU D []) = [48] from dec_zero]
          rfl
        · show _ < 4611686018427387904; omega
        · rintro e m ⟨i, rfl, hi, rfl⟩
          refine zs0 ?_
          refine W.cond rfl (fun hlt => ?_) (fun hlt => ?_)
          · have hlt := of_decide_eq_true hlt
            rw [trow_len, tx_len] at hlt
            have hget : (trow (tx us))[i]? = some [.str (us.getD i ([], 0)).1, .str (rs (us.getD i ([], 0)).2)] := tx_get (by omega)
            have hmem := getD_mem (us := us) (i := i) (by omega)
            have hm := rmul_T (k := k + 5) (us.getD i ([], 0)).2 ((D : Int) : Rat) ((hsz _ hmem).sm (by omega)) ((szZ (a := (D : Int)) (L := 9001) (by show (dec D).length ≤ _; omega)).sm (by omega))
            rw [zU_eq (hdvd _ hmem)] at hm
            have hgc := rgcd_Q (k := k + 2) ((gcdU D (us.take i) : Nat) : Int) (zU D (us.getD i ([], 0))) (L := 10001) (hgg i) (hz0 _ hmem) (by omega)
            refine zs0 ?_
            refine wI te rfl rfl rfl rfl rfl rfl (by omega) (hget) ?_
            refine zs1 hm ?_
            refine zs2 hgc ?_
            rw [wrap_i64 (x := (i : Int) + 1) (by omega) (by omega)]
            show ∃ m', _
            refine ⟨us.length - (i + 1), by omega, i + 1, ?_, by omega, rfl⟩
            rw [take_snoc (show i < us.length by omega), gcdU_snoc]
            rfl
          · have hlt := of_decide_eq_false hlt
            rw [trow_len, tx_len] at hlt
            have hie : i = us.length := by omega
            subst hie
            rw [List.take_length]
            refine zs1 hdiv ?_
            refine zs2 hsc ?_
            refine zs2 hcl ?_
            refine zs2 had ?_
            rfl
theorem rnormal23_T (us : List QT) (c : Rat) (hne : us ≠ []) (hg : goodU us) (hc : szQ c 1000)
    (hv : T (k + 12) 25 [conQ 2 3 us c []] = some (.bool true, [])) : T (k + 13) 27 [conQ 2 3 us c []] = some (.tup [nrmV 2 3 us c, .int .i64 0], []) := by
  have hsz : ∀ u ∈ us, szQ u.2 1000 := fun u h => (hg.2 u h).1
  have hlen : 0 < us.length := List.length_pos_iff.2 hne
  have hl8 := hg.1
  have hk : szQ (kQ 2 us) 20000 := kQ_sz hg
  have ld : ∀ i, (dec (lcmU 1 (us.take i))).length ≤ 9001 := fun i => by
    have h1 := lcmU_len (us := us.take i) (d := 1) (M := 1000) fun u hu => hsz u (List.mem_of_mem_take hu)
    rw [dec1_len, List.length_take] at h1
    have := Nat.min_le_right i us.length
    have := hg.1
    omega
  have ldd := ld us.length
  rw [List.take_length] at ldd
  have hdvd := (lcmU_dvd (us := us) (d := 1)).2
  have hd0 : lcmU 1 us ≠ 0 := lcmU_pos (by omega)
  have hz0 : ∀ u ∈ us, (dec (zU (lcmU 1 us) u).natAbs).length ≤ 10001 := fun u h => by have := zU_len (d := lcmU 1 us) (hsz u h); omega
  have hgg : ∀ i, (dec (gcdU (lcmU 1 us) (us.take i))).length ≤ 10001 := fun i => gcdU_len (by omega) fun u h => hz0 u (List.mem_of_mem_take h)
  have hgl := hgg us.length
  rw [List.take_length] at hgl
  have hg0 : gcdU (lcmU 1 us) us ≠ 0 := gcdU_ne0 (.inr hne) fun u h => zU_ne hd0 (hdvd u h) (hg.2 u h).2
  have hG : ((gcdU (lcmU 1 us) us : Int) : Rat) ≠ 0 := by
    intro h
    have h2 : (gcdU (lcmU 1 us) us : Int) = 0 := by exact_mod_cast h
    omega
  have hdiv : T (k + 12) 29 [.str (rs ((lcmU 1 us : Int) : Rat)), .str (rs ((gcdU (lcmU 1 us) us : Int) : Rat))] = some (.str (rs (prim us)), []) :=
    rdiv_T (k := k + 5) ((lcmU 1 us : Int) : Rat) ((gcdU (lcmU 1 us) us : Int) : Rat) hG ((szZ (L := 10001) (by show (dec (lcmU 1 us)).length ≤ _; omega)).sm (by omega)) ((szZ (a := (gcdU (lcmU 1 us) us : Int)) (L := 10001) hgl).sm (by omega))
  have hsc := times_T (k := k + 4) 3 us c (kQ 2 us) (L := 20000) (hc.mono (by omega)) hk (fun u h => (hg.2 u h).1.mono (by omega)) (by omega) (by have := hg.1; omega)
  have hz := szQ_mul hc hk
  have lz := hz.len
  have e : kQ 2 us = prim us := if_neg (fun h => by have := h.1; omega)
  rw [← e] at hdiv
  unfold nrmV
  rw [if_neg hne]
  rw [if_pos rfl]
  refine enter rfl func27 rfl (by decide) (by kernel_rfl) rfl rfl ?_
  refine zs1 hv ?_
  refine W.cond rfl (fun b0 => ?_) (fun b0 => ?_)
  · have b0 := of_decide_eq_true b0
    rw [trow_len, tx_len] at b0
    exact absurd (List.eq_nil_of_length_eq_zero (by omega)) hne
  · refine zs0 ?_
    refine W.loop (fun e m => ∃ (i : Nat), e = [(1, .box (0, 0) [.int .i64 2, .int .i64 3, .imm 2 (trow (tx us)), .str (rs c), .str []]), (2, .box (0, 0) [.int .i64 0, .int .i64 0, .own (0, 0) 2 [], .str [], .str []]), (5, .str [48]), (6, .str (rs ((lcmU 1 (us.take i) : Nat) : Int))), (7, .int .i64 i)] ∧
      i ≤ us.length ∧ m = us.length - i) us.length ?_ ?_ ?_
    · refine ⟨0, ?_, by omega, by omega⟩
      rw [List.take_zero, rs_nat (lcmU 1 []), show dec (lcmU 1 []) = [49] from decOne]
      rfl
    · show _ < 4611686018427387904; omega
    · rintro e m ⟨i, rfl, hi, rfl⟩
      refine zs0 ?_
      refine W.cond rfl (fun hlt => ?_) (fun hlt => ?_)
      · have hlt := of_decide_eq_true hlt
        rw [trow_len, tx_len] at hlt
        have hget : (trow (tx us))[i]? = some [.str (us.getD i ([], 0)).1, .str (rs (us.getD i ([], 0)).2)] := tx_get (by omega)
        have hmem := getD_mem (us := us) (i := i) (by omega)
        have hs := hsz _ hmem
        have hl1 := hs.len
        have hden := rden_Q (k := k + 5) (us.getD i ([], 0)).2 (by omega)
        have hlcm := rlcm_Q (k := k + 1) (lcmU 1 (us.take i)) (us.getD i ([], 0)).2.den (lcmU_pos (by omega)) (us.getD i ([], 0)).2.den_nz (ld i) (Nat.le_trans hs.2 (by omega)) (by omega)
        refine zs0 ?_
        refine wI te rfl rfl rfl rfl rfl rfl (by omega) (hget) ?_
        refine zs1 hden ?_
        refine zs2 hlcm ?_
        rw [wrap_i64 (x := (i : Int) + 1) (by omega) (by omega)]
        show ∃ m', _
        refine ⟨us.length - (i + 1), by omega, i + 1, ?_, by omega, rfl⟩
        rw [take_snoc (show i < us.length by omega), lcmU_snoc]
        rfl
      · have hlt := of_decide_eq_false hlt
        rw [trow_len, tx_len] at hlt
        have hie : i = us.length := by omega
        subst hie
        rw [List.take_length]
        generalize hD : lcmU 1 us = D at *
        refine zs0 ?_
        refine W.loop (fun e m => ∃ (i : Nat), e = [(1, .box (0, 0) [.int .i64 2, .int .i64 3, .imm 2 (trow (tx us)), .str (rs c), .str []]), (2, .box (0, 0) [.int .i64 0, .int .i64 0, .own (0, 0) 2 [], .str [], .str []]), (5, .str (rs ((gcdU D (us.take i) : Nat) : Int))), (6, .str (rs ((D : Nat) : Int))), (8, .int .i64 i)] ∧
          i ≤ us.length ∧ m = us.length - i) us.length ?_ ?_ ?_
        · refine ⟨0, ?_, by omega, by omega⟩
          rw [List.take_zero, rs_nat (gcdU D []), show dec (gcdU D []) = [48] from dec_zero]
          rfl
        · show _ < 4611686018427387904; omega
        · rintro e m ⟨i, rfl, hi, rfl⟩
          refine zs0 ?_
          refine W.cond rfl (fun hlt => ?_) (fun hlt => ?_)
          · have hlt := of_decide_eq_true hlt
            rw [trow_len, tx_len] at hlt
            have hget : (trow (tx us))[i]? = some [.str (us.getD i ([], 0)).1, .str (rs (us.getD i ([], 0)).2)] := tx_get (by omega)
            have hmem := getD_mem (us := us) (i := i) (by omega)
            have hm := rmul_T (k := k + 5) (us.getD i ([], 0)).2 ((D : Int) : Rat) ((hsz _ hmem).sm (by omega)) ((szZ (a := (D : Int)) (L := 9001) (by show (dec D).length ≤ _; omega)).sm (by omega))
            rw [zU_eq (hdvd _ hmem)] at hm
            have hgc := rgcd_Q (k := k + 2) ((gcdU D (us.take i) : Nat) : Int) (zU D (us.getD i ([], 0))) (L := 10001) (hgg i) (hz0 _ hmem) (by omega)
            refine zs0 ?_
            refine wI te rfl rfl rfl rfl rfl rfl (by omega) (hget) ?_
            refine zs1 hm ?_
            refine zs2 hgc ?_
            rw [wrap_i64 (x := (i : Int) + 1) (by omega) (by omega)]
            show ∃ m', _
            refine ⟨us.length - (i + 1), by omega, i + 1, ?_, by omega, rfl⟩
            rw [take_snoc (show i < us.length by omega), gcdU_snoc]
            rfl
          · have hlt := of_decide_eq_false hlt
            rw [trow_len, tx_len] at hlt
            have hie : i = us.length := by omega
            subst hie
            rw [List.take_length]
            refine zs1 hdiv ?_
            refine zs2 hsc ?_
            rfl
end Go.PE
namespace Go.PE
open Go.RowKit Go.Proofs.Tryz
set_option maxRecDepth 100000
variable {k : Nat}
set_option maxHeartbeats 2000000 in
theorem rnormal32_T (us : List QT) (c : Rat) (hne : us ≠ []) (hg : goodU us) (hc : szQ c 1000)
    (hv : T (k + 12) 25 [conQ 3 2 us c []] = some (.bool true, [])) : T (k + 13) 27 [conQ 3 2 us c []] = some (.tup [nrmV 3 2 us c, .int .i64 0], []) := by
  have hsz : ∀ u ∈ us, szQ u.2 1000 := fun u h => (hg.2 u h).1
  have hlen : 0 < us.length := List.length_pos_iff.2 hne
  have hl8 := hg.1
  have hk : szQ (kQ 3 us) 20000 := kQ_sz hg
  have ld : ∀ i, (dec (lcmU 1 (us.take i))).length ≤ 9001 := fun i => by
    have h1 := lcmU_len (us := us.take i) (d := 1) (M := 1000) fun u hu => hsz u (List.mem_of_mem_take hu)
    rw [dec1_len, List.length_take] at h1
    have := Nat.min_le_right i us.length
    have := hg.1
    omega
  have ldd := ld us.length
  rw [List.take_length] at ldd
  have hdvd := (lcmU_dvd (us := us) (d := 1)).2
  have hd0 : lcmU 1 us ≠ 0 := lcmU_pos (by omega)
  have hz0 : ∀ u ∈ us, (dec (zU (lcmU 1 us) u).natAbs).length ≤ 10001 := fun u h => by have := zU_len (d := lcmU 1 us) (hsz u h); omega
  have hgg : ∀ i, (dec (gcdU (lcmU 1 us) (us.take i))).length ≤ 10001 := fun i => gcdU_len (by omega) fun u h => hz0 u (List.mem_of_mem_take h)
  have hgl := hgg us.length
  rw [List.take_length] at hgl
  have hg0 : gcdU (lcmU 1 us) us ≠ 0 := gcdU_ne0 (.inr hne) fun u h => zU_ne hd0 (hdvd u h) (hg.2 u h).2
  have hG : ((gcdU (lcmU 1 us) us : Int) : Rat) ≠ 0 := by
    intro h
    have h2 : (gcdU (lcmU 1 us) us : Int) = 0 := by exact_mod_cast h
    omega
  have hdiv : T (k + 12) 29 [.str (rs ((lcmU 1 us : Int) : Rat)), .str (rs ((gcdU (lcmU 1 us) us : Int) : Rat))] = some (.str (rs (prim us)), []) :=
    rdiv_T (k := k + 5) ((lcmU 1 us : Int) : Rat) ((gcdU (lcmU 1 us) us : Int) : Rat) hG ((szZ (L := 10001) (by show (dec (lcmU 1 us)).length ≤ _; omega)).sm (by omega)) ((szZ (a := (gcdU (lcmU 1 us) us : Int)) (L := 10001) hgl).sm (by omega))
  have hsc := times_T (k := k + 4) 2 us c (kQ 3 us) (L := 20000) (hc.mono (by omega)) hk (fun u h => (hg.2 u h).1.mono (by omega)) (by omega) (by have := hg.1; omega)
  have hz := szQ_mul hc hk
  have lz := hz.len
  have hget0 : (trow (tx us))[0]? = some [.str (us.getD 0 ([], 0)).1, .str (rs (us.getD 0 ([], 0)).2)] := tx_get hlen
  have hu0 := (hg.2 _ (getD_mem hlen)).1.len
  have hs0 := rsign_Q (k := k + 5) (us.getD 0 ([], 0)).2 (by omega)
  have hn := rneg_Q (k := k + 5) (prim us) (prim_sz hg) (by omega)
  have hii : T (k + 12) 52 [.str (rs (c * kQ 3 us))] = some (.bool (decide ((c * kQ 3 us).den = 1)), []) := by
    rw [risInt_T (k := k + 5) _ (by omega), rd_rs]
  have htr := fixed_T (k := k + 10) 2 false
  rw [nrm3 2 us c hne (by simp)]
  have e : kQ 3 us = if (us.getD 0 ([], 0)).2.num < 0 then -prim us else prim us := by
    unfold kQ
    by_cases h : (us.getD 0 ([], 0)).2.num < 0
    · rw [if_pos ⟨rfl, h⟩, if_pos h]
    · rw [if_neg (fun x => h x.2), if_neg h]
  rw [if_neg (show ¬ (2 : Int) = 3 by decide)]
  rcases sgn_cases (us.getD 0 ([], 0)).2 with ⟨h1, h2⟩ | ⟨h1, h2⟩ | ⟨h1, h2⟩
  · rw [if_pos h1] at e
    rw [h2] at hs0
    rw [← e] at hn
    refine enter rfl func27 rfl (by decide) (by kernel_rfl) rfl rfl ?_
    refine zs1 hv ?_
    refine W.cond rfl (fun b0 => ?_) (fun b0 => ?_)
    · have b0 := of_decide_eq_true b0
      rw [trow_len, tx_len] at b0
      exact absurd (List.eq_nil_of_length_eq_zero (by omega)) hne
    · refine zs0 ?_
      refine W.loop (fun e m => ∃ (i : Nat), e = [(1, .box (0, 0) [.int .i64 3, .int .i64 2, .imm 2 (trow (tx us)), .str (rs c), .str []]), (2, .box (0, 0) [.int .i64 0, .int .i64 0, .own (0, 0) 2 [], .str [], .str []]), (5, .str [48]), (6, .str (rs ((lcmU 1 (us.take i) : Nat) : Int))), (7, .int .i64 i)] ∧
        i ≤ us.length ∧ m = us.length - i) us.length ?_ ?_ ?_
      · refine ⟨0, ?_, by omega, by omega⟩
        rw [List.take_zero, rs_nat (lcmU 1 []), show dec (lcmU 1 []) = [49] from decOne]
        rfl
      · show _ < 4611686018427387904; omega
      · rintro e m ⟨i, rfl, hi, rfl⟩
        refine zs0 ?_
        refine W.cond rfl (fun hlt => ?_) (fun hlt => ?_)
        · have hlt := of_decide_eq_true hlt
          rw [trow_len, tx_len] at hlt
          have hget : (trow (tx us))[i]? = some [.str (us.getD i ([], 0)).1, .str (rs (us.getD i ([], 0)).2)] := tx_get (by omega)
          have hmem := getD_mem (us := us) (i := i) (by omega)
          have hs := hsz _ hmem
          have hl1 := hs.len
          have hden := rden_Q (k := k + 5) (us.getD i ([], 0)).2 (by omega)
          have hlcm := rlcm_Q (k := k + 1) (lcmU 1 (us.take i)) (us.getD i ([], 0)).2.den (lcmU_pos (by omega)) (us.getD i ([], 0)).2.den_nz (ld i) (Nat.le_trans hs.2 (by omega)) (by omega)
          refine zs0 ?_
          refine wI te rfl rfl rfl rfl rfl rfl (by omega) (hget) ?_
          refine zs1 hden ?_
          refine zs2 hlcm ?_
          rw [wrap_i64 (x := (i : Int) + 1) (by omega) (by omega)]
          show ∃ m', _
          refine ⟨us.length - (i + 1), by omega, i + 1, ?_, by omega, rfl⟩
          rw [take_snoc (show i < us.length by omega), lcmU_snoc]
          rfl
        · have hlt := of_decide_eq_false hlt
          rw [trow_len, tx_len] at hlt
          have hie : i = us.length := by omega
          subst hie
          rw [List.take_length]
          generalize hD : lcmU 1 us = D at *
          refine zs0 ?_
          refine W.loop (fun e m => ∃ (i : Nat), e = [(1, .box (0, 0) [.int .i64 3, .int .i64 2, .imm 2 (trow (tx us)), .str (rs c), .str []]), (2, .box (0, 0) [.int .i64 0, .int .i64 0, .own (0, 0) 2 [], .str [], .str []]), (5, .str (rs ((gcdU D (us.take i) : Nat) : Int))), (6, .str (rs ((D : Nat) : Int))), (8, .int .i64 i)] ∧
            i ≤ us.length ∧ m = us.length - i) us.length ?_ ?_ ?_
          · refine ⟨0, ?_, by omega, by omega⟩
            rw [List.take_zero, rs_nat (gcdU D []), show dec (gcdU D []) = [48] from dec_zero]
            rfl
          · show _ < 4611686018427387904; omega
          · rintro e m ⟨i, rfl, hi, rfl⟩
            refine zs0 ?_
            refine W.cond rfl (fun hlt => ?_) (fun hlt => ?_)
            · have hlt := of_decide_eq_true hlt
              rw [trow_len, tx_len] at hlt
              have hget : (trow (tx us))[i]? = some [.str (us.getD i ([], 0)).1, .str (rs (us.getD i ([], 0)).2)] := tx_get (by omega)
              have hmem := getD_mem (us := us) (i := i) (by omega)
              have hm := rmul_T (k := k + 5) (us.getD i ([], 0)).2 ((D : Int) : Rat) ((hsz _ hmem).sm (by omega)) ((szZ (a := (D : Int)) (L := 9001) (by show (dec D).length ≤ _; omega)).sm (by omega))
              rw [zU_eq (hdvd _ hmem)] at hm
              have hgc := rgcd_Q (k := k + 2) ((gcdU D (us.take i) : Nat) : Int) (zU D (us.getD i ([], 0))) (L := 10001) (hgg i) (hz0 _ hmem) (by omega)
              refine zs0 ?_
              refine wI te rfl rfl rfl rfl rfl rfl (by omega) (hget) ?_
              refine zs1 hm ?_
              refine zs2 hgc ?_
              rw [wrap_i64 (x := (i : Int) + 1) (by omega) (by omega)]
              show ∃ m', _
              refine ⟨us.length - (i + 1), by omega, i + 1, ?_, by omega, rfl⟩
              rw [take_snoc (show i < us.length by omega), gcdU_snoc]
              rfl
            · have hlt := of_decide_eq_false hlt
              rw [trow_len, tx_len] at hlt
              have hie : i = us.length := by omega
              subst hie
              rw [List.take_length]
              refine zs1 hdiv ?_
              refine wI te rfl rfl rfl rfl rfl rfl (by omega) (hget0) ?_
              refine zs1 hs0 ?_
              refine zs2 hn ?_
              refine zs2 hsc ?_
              refine zs2 hii ?_
              refine W.cond rfl (fun b2 => ?_) (fun b2 => ?_)
              · have b2 : ¬ (c * kQ 3 us).den = 1 := by simpa using b2
                rw [if_neg b2]
                refine zs1 htr ?_
                rfl
              · have b2 : (c * kQ 3 us).den = 1 := by simpa using b2
                rw [if_pos b2]
                refine zs0 ?_
                rfl
  all_goals
    first | rw [if_neg (by rw [h1]; decide)] at e | rw [if_neg (by omega)] at e
    rw [h2] at hs0
    rw [← e] at hdiv
    refine enter rfl func27 rfl (by decide) (by kernel_rfl) rfl rfl ?_
    refine zs1 hv ?_
    refine W.cond rfl (fun b0 => ?_) (fun b0 => ?_)
    · have b0 := of_decide_eq_true b0
      rw [trow_len, tx_len] at b0
      exact absurd (List.eq_nil_of_length_eq_zero (by omega)) hne
    · refine zs0 ?_
      refine W.loop (fun e m => ∃ (i : Nat), e = [(1, .box (0, 0) [.int .i64 3, .int .i64 2, .imm 2 (trow (tx us)), .str (rs c), .str []]), (2, .box (0, 0) [.int .i64 0, .int .i64 0, .own (0, 0) 2 [], .str [], .str []]), (5, .str [48]), (6, .str (rs ((lcmU 1 (us.take i) : Nat) : Int))), (7, .int .i64 i)] ∧
        i ≤ us.length ∧ m = us.length - i) us.length ?_ ?_ ?_
      · refine ⟨0, ?_, by omega, by omega⟩
        rw [List.take_zero, rs_nat (lcmU 1 []), show dec (lcmU 1 []) = [49] from decOne]
        rfl
      · show _ < 4611686018427387904; omega
      · rintro e m ⟨i, rfl, hi, rfl⟩
        refine zs0 ?_
        refine W.cond rfl (fun hlt => ?_) (fun hlt => ?_)
        · have hlt := of_decide_eq_true hlt
          rw [trow_len, tx_len] at hlt
          have hget : (trow (tx us))[i]? = some [.str (us.getD i ([], 0)).1, .str (rs (us.getD i ([], 0)).2)] := tx_get (by omega)
          have hmem := getD_mem (us := us) (i := i) (by omega)
          have hs := hsz _ hmem
          have hl1 := hs.len
          have hden := rden_Q (k := k + 5) (us.getD i ([], 0)).2 (by omega)
          have hlcm := rlcm_Q (k := k + 1) (lcmU 1 (us.take i)) (us.getD i ([], 0)).2.den (lcmU_pos (by omega)) (us.getD i ([], 0)).2.den_nz (ld i) (Nat.le_trans hs.2 (by omega)) (by omega)
          refine zs0 ?_
          refine wI te rfl rfl rfl rfl rfl rfl (by omega) (hget) ?_
          refine zs1 hden ?_
          refine zs2 hlcm ?_
          rw [wrap_i64 (x := (i : Int) + 1) (by omega) (by omega)]
          show ∃ m', _
          refine ⟨us.length - (i + 1), by omega, i + 1, ?_, by omega, rfl⟩
          rw [take_snoc (show i < us.length by omega), lcmU_snoc]
          rfl
        · have hlt := of_decide_eq_false hlt
          rw [trow_len, tx_len] at hlt
          have hie : i = us.length := by omega
          subst hie
          rw [List.take_length]
          generalize hD : lcmU 1 us = D at *
          refine zs0 ?_
          refine W.loop (fun e m => ∃ (i : Nat), e = [(1, .box (0, 0) [.int .i64 3, .int .i64 2, .imm 2 (trow (tx us)), .str (rs c), .str []]), (2, .box (0, 0) [.int .i64 0, .int .i64 0, .own (0, 0) 2 [], .str [], .str []]), (5, .str (rs ((gcdU D (us.take i) : Nat) : Int))), (6, .str (rs ((D : Nat) : Int))), (8, .int .i64 i)] ∧
            i ≤ us.length ∧ m = us.length - i) us.length ?_ ?_ ?_
          · refine ⟨0, ?_, by omega, by omega⟩
            rw [List.take_zero, rs_nat (gcdU D []), show dec (gcdU D []) = [48] from dec_zero]
            rfl
          · show _ < 4611686018427387904; omega
          · rintro e m ⟨i, rfl, hi, rfl⟩
            refine zs0 ?_
            refine W.cond rfl (fun hlt => ?_) (fun hlt => ?_)
            · have hlt := of_decide_eq_true hlt
              rw [trow_len, tx_len] at hlt
              have hget : (trow (tx us))[i]? = some [.str (us.getD i ([], 0)).1, .str (rs (us.getD i ([], 0)).2)] := tx_get (by omega)
              have hmem := getD_mem (us := us) (i := i) (by omega)
              have hm := rmul_T (k := k + 5) (us.getD i ([], 0)).2 ((D : Int) : Rat) ((hsz _ hmem).sm (by omega)) ((szZ (a := (D : Int)) (L := 9001) (by show (dec D).length ≤ _; omega)).sm (by omega))
              rw [zU_eq (hdvd _ hmem)] at hm
              have hgc := rgcd_Q (k := k + 2) ((gcdU D (us.take i) : Nat) : Int) (zU D (us.getD i ([], 0))) (L := 10001) (hgg i) (hz0 _ hmem) (by omega)
              refine zs0 ?_
              refine wI te rfl rfl rfl rfl rfl rfl (by omega) (hget) ?_
              refine zs1 hm ?_
              refine zs2 hgc ?_
              rw [wrap_i64 (x := (i : Int) + 1) (by omega) (by omega)]
              show ∃ m', _
              refine ⟨us.length - (i + 1), by omega, i + 1, ?_, by omega, rfl⟩
              rw [take_snoc (show i < us.length by omega), gcdU_snoc]
              rfl
            · have hlt := of_decide_eq_false hlt
              rw [trow_len, tx_len] at hlt
              have hie : i = us.length := by omega
              subst hie
              rw [List.take_length]
              refine zs1 hdiv ?_
              refine wI te rfl rfl rfl rfl rfl rfl (by omega) (hget0) ?_
              refine zs1 hs0 ?_
              refine zs2 hsc ?_
              refine zs2 hii ?_
              refine W.cond rfl (fun b2 => ?_) (fun b2 => ?_)
              · have b2 : ¬ (c * kQ 3 us).den = 1 := by simpa using b2
                rw [if_neg b2]
                refine zs1 htr ?_
                rfl
              · have b2 : (c * kQ 3 us).den = 1 := by simpa using b2
                rw [if_pos b2]
                refine zs0 ?_
                rfl
set_option maxHeartbeats 2000000 in
theorem rnormal33_T (us : List QT) (c : Rat) (hne : us ≠ []) (hg : goodU us) (hc : szQ c 1000)
    (hv : T (k + 12) 25 [conQ 3 3 us c []] = some (.bool true, [])) : T (k + 13) 27 [conQ 3 3 us c []] = some (.tup [nrmV 3 3 us c, .int .i64 0], []) := by
  have hsz : ∀ u ∈ us, szQ u.2 1000 := fun u h => (hg.2 u h).1
  have hlen : 0 < us.length := List.length_pos_iff.2 hne
  have hl8 := hg.1
  have hk : szQ (kQ 3 us) 20000 := kQ_sz hg
  have ld : ∀ i, (dec (lcmU 1 (us.take i))).length ≤ 9001 := fun i => by
    have h1 := lcmU_len (us := us.take i) (d := 1) (M := 1000) fun u hu => hsz u (List.mem_of_mem_take hu)
    rw [dec1_len, List.length_take] at h1
    have := Nat.min_le_right i us.length
    have := hg.1
    omega
  have ldd := ld us.length
  rw [List.take_length] at ldd
  have hdvd := (lcmU_dvd (us := us) (d := 1)).2
  have hd0 : lcmU 1 us ≠ 0 := lcmU_pos (by omega)
  have hz0 : ∀ u ∈ us, (dec (zU (lcmU 1 us) u).natAbs).length ≤ 10001 := fun u h => by have := zU_len (d := lcmU 1 us) (hsz u h); omega
  have hgg : ∀ i, (dec (gcdU (lcmU 1 us) (us.take i))).length ≤ 10001 := fun i => gcdU_len (by omega) fun u h => hz0 u (List.mem_of_mem_take h)
  have hgl := hgg us.length
  rw [List.take_length] at hgl
  have hg0 : gcdU (lcmU 1 us) us ≠ 0 := gcdU_ne0 (.inr hne) fun u h => zU_ne hd0 (hdvd u h) (hg.2 u h).2
  have hG : ((gcdU (lcmU 1 us) us : Int) : Rat) ≠ 0 := by
    intro h
    have h2 : (gcdU (lcmU 1 us) us : Int) = 0 := by exact_mod_cast h
    omega
  have hdiv : T (k + 12) 29 [.str (rs ((lcmU 1 us : Int) : Rat)), .str (rs ((gcdU (lcmU 1 us) us : Int) : Rat))] = some (.str (rs (prim us)), []) :=
    rdiv_T (k := k + 5) ((lcmU 1 us : Int) : Rat) ((gcdU (lcmU 1 us) us : Int) : Rat) hG ((szZ (L := 10001) (by show (dec (lcmU 1 us)).length ≤ _; omega)).sm (by omega)) ((szZ (a := (gcdU (lcmU 1 us) us : Int)) (L := 10001) hgl).sm (by omega))
  have hsc := times_T (k := k + 4) 3 us c (kQ 3 us) (L := 20000) (hc.mono (by omega)) hk (fun u h => (hg.2 u h).1.mono (by omega)) (by omega) (by have := hg.1; omega)
  have hz := szQ_mul hc hk
  have lz := hz.len
  have hget0 : (trow (tx us))[0]? = some [.str (us.getD 0 ([], 0)).1, .str (rs (us.getD 0 ([], 0)).2)] := tx_get hlen
  have hu0 := (hg.2 _ (getD_mem hlen)).1.len
  have hs0 := rsign_Q (k := k + 5) (us.getD 0 ([], 0)).2 (by omega)
  have hn := rneg_Q (k := k + 5) (prim us) (prim_sz hg) (by omega)
  have hii : T (k + 12) 52 [.str (rs (c * kQ 3 us))] = some (.bool (decide ((c * kQ 3 us).den = 1)), []) := by
    rw [risInt_T (k := k + 5) _ (by omega), rd_rs]
  have htr := fixed_T (k := k + 10) 2 false
  rw [nrm3 3 us c hne (by simp)]
  have e : kQ 3 us = if (us.getD 0 ([], 0)).2.num < 0 then -prim us else prim us := by
    unfold kQ
    by_cases h : (us.getD 0 ([], 0)).2.num < 0
    · rw [if_pos ⟨rfl, h⟩, if_pos h]
    · rw [if_neg (fun x => h x.2), if_neg h]
  rw [if_pos rfl]
  rcases sgn_cases (us.getD 0 ([], 0)).2 with ⟨h1, h2⟩ | ⟨h1, h2⟩ | ⟨h1, h2⟩
  · rw [if_pos h1] at e
    rw [h2] at hs0
    rw [← e] at hn
    refine enter rfl func27 rfl (by decide) (by kernel_rfl) rfl rfl ?_
    refine zs1 hv ?_
    refine W.cond rfl (fun b0 => ?_) (fun b0 => ?_)
    · have b0 := of_decide_eq_true b0
      rw [trow_len, tx_len] at b0
      exact absurd (List.eq_nil_of_length_eq_zero (by omega)) hne
    · refine zs0 ?_
      refine W.loop (fun e m => ∃ (i : Nat), e = [(1, .box (0, 0) [.int .i64 3, .int .i64 3, .imm 2 (trow (tx us)), .str (rs c), .str []]), (2, .box (0, 0) [.int .i64 0, .int .i64 0, .own (0, 0) 2 [], .str [], .str []]), (5, .str [48]), (6, .str (rs ((lcmU 1 (us.take i) : Nat) : Int))), (7, .int .i64 i)] ∧
        i ≤ us.length ∧ m = us.length - i) us.length ?_ ?_ ?_
      · refine ⟨0, ?_, by omega, by omega⟩
        rw [List.take_zero, rs_nat (lcmU 1 []), show dec (lcmU 1 []) = [49] from decOne]
        rfl
      · show _ < 4611686018427387904; omega
      · rintro e m ⟨i, rfl, hi, rfl⟩
        refine zs0 ?_
        refine W.cond rfl (fun hlt => ?_) (fun hlt => ?_)
        · have hlt := of_decide_eq_true hlt
          rw [trow_len, tx_len] at hlt
          have hget : (trow (tx us))[i]? = some [.str (us.getD i ([], 0)).1, .str (rs (us.getD i ([], 0)).2)] := tx_get (by omega)
          have hmem := getD_mem (us := us) (i := i) (by omega)
          have hs := hsz _ hmem
          have hl1 := hs.len
          have hden := rden_Q (k := k + 5) (us.getD i ([], 0)).2 (by omega)
          have hlcm := rlcm_Q (k := k + 1) (lcmU 1 (us.take i)) (us.getD i ([], 0)).2.den (lcmU_pos (by omega)) (us.getD i ([], 0)).2.den_nz (ld i) (Nat.le_trans hs.2 (by omega)) (by omega)
          refine zs0 ?_
          refine wI te rfl rfl rfl rfl rfl rfl (by omega) (hget) ?_
          refine zs1 hden ?_
          refine zs2 hlcm ?_
          rw [wrap_i64 (x := (i : Int) + 1) (by omega) (by omega)]
          show ∃ m', _
          refine ⟨us.length - (i + 1), by omega, i + 1, ?_, by omega, rfl⟩
          rw [take_snoc (show i < us.length by omega), lcmU_snoc]
          rfl
        · have hlt := of_decide_eq_false hlt
          rw [trow_len, tx_len] at hlt
          have hie : i = us.length := by omega
          subst hie
          rw [List.take_length]
          generalize hD : lcmU 1 us = D at *
          refine zs0 ?_
          refine W.loop (fun e m => ∃ (i : Nat), e = [(1, .box (0, 0) [.int .i64 3, .int .i64 3, .imm 2 (trow (tx us)), .str (rs c), .str []]), (2, .box (0, 0) [.int .i64 0, .int .i64 0, .own (0, 0) 2 [], .str [], .str []]), (5, .str (rs ((gcdU D (us.take i) : Nat) : Int))), (6, .str (rs ((D : Nat) : Int))), (8, .int .i64 i)] ∧
            i ≤ us.length ∧ m = us.length - i) us.length ?_ ?_ ?_
          · refine ⟨0, ?_, by omega, by omega⟩
            rw [List.take_zero, rs_nat (gcdU D []), show dec (gcdU D []) = [48] from dec_zero]
            rfl
          · show _ < 4611686018427387904; omega
          · rintro e m ⟨i, rfl, hi, rfl⟩
            refine zs0 ?_
            refine W.cond rfl (fun hlt => ?_) (fun hlt => ?_)
            · have hlt := of_decide_eq_true hlt
              rw [trow_len, tx_len] at hlt
              have hget : (trow (tx us))[i]? = some [.str (us.getD i ([], 0)).1, .str (rs (us.getD i ([], 0)).2)] := tx_get (by omega)
              have hmem := getD_mem (us := us) (i := i) (by omega)
              have hm := rmul_T (k := k + 5) (us.getD i ([], 0)).2 ((D : Int) : Rat) ((hsz _ hmem).sm (by omega)) ((szZ (a := (D : Int)) (L := 9001) (by show (dec D).length ≤ _; omega)).sm (by omega))
              rw [zU_eq (hdvd _ hmem)] at hm
              have hgc := rgcd_Q (k := k + 2) ((gcdU D (us.take i) : Nat) : Int) (zU D (us.getD i ([], 0))) (L := 10001) (hgg i) (hz0 _ hmem) (by omega)
              refine zs0 ?_
              refine wI te rfl rfl rfl rfl rfl rfl (by omega) (hget) ?_
              refine zs1 hm ?_
              refine zs2 hgc ?_
              rw [wrap_i64 (x := (i : Int) + 1) (by omega) (by omega)]
              show ∃ m', _
              refine ⟨us.length - (i + 1), by omega, i + 1, ?_, by omega, rfl⟩
              rw [take_snoc (show i < us.length by omega), gcdU_snoc]
              rfl
            · have hlt := of_decide_eq_false hlt
              rw [trow_len, tx_len] at hlt
              have hie : i = us.length := by omega
              subst hie
              rw [List.take_length]
              refine zs1 hdiv ?_
              refine wI te rfl rfl rfl rfl rfl rfl (by omega) (hget0) ?_
              refine zs1 hs0 ?_
              refine zs2 hn ?_
              refine zs2 hsc ?_
              rfl
  all_goals
    first | rw [if_neg (by rw [h1]; decide)] at e | rw [if_neg (by omega)] at e
    rw [h2] at hs0
    rw [← e] at hdiv
    refine enter rfl func27 rfl (by decide) (by kernel_rfl) rfl rfl ?_
    refine zs1 hv ?_
    refine W.cond rfl (fun b0 => ?_) (fun b0 => ?_)
    · have b0 := of_decide_eq_true b0
      rw [trow_len, tx_len] at b0
      exact absurd (List.eq_nil_of_length_eq_zero (by omega)) hne
    · refine zs0 ?_
      refine W.loop (fun e m => ∃ (i : Nat), e = [(1, .box (0, 0) [.int .i64 3, .int .i64 3, .imm 2 (trow (tx us)), .str (rs c), .str []]), (2, .box (0, 0) [.int .i64 0, .int .i64 0, .own (0, 0) 2 [], .str [], .str []]), (5, .str [48]), (6, .str (rs ((lcmU 1 (us.take i) : Nat) : Int))), (7, .int .i64 i)] ∧
        i ≤ us.length ∧ m = us.length - i) us.length ?_ ?_ ?_
      · refine ⟨0, ?_, by omega, by omega⟩
        rw [List.take_zero, rs_nat (lcmU 1 []), show dec (lcmU 1 []) = [49] from decOne]
        rfl
      · show _ < 4611686018427387904; omega
      · rintro e m ⟨i, rfl, hi, rfl⟩
        refine zs0 ?_
        refine W.cond rfl (fun hlt => ?_) (fun hlt => ?_)
        · have hlt := of_decide_eq_true hlt
          rw [trow_len, tx_len] at hlt
          have hget : (trow (tx us))[i]? = some [.str (us.getD i ([], 0)).1, .str (rs (us.getD i ([], 0)).2)] := tx_get (by omega)
          have hmem := getD_mem (us := us) (i := i) (by omega)
          have hs := hsz _ hmem
          have hl1 := hs.len
          have hden := rden_Q (k := k + 5) (us.getD i ([], 0)).2 (by omega)
          have hlcm := rlcm_Q (k := k + 1) (lcmU 1 (us.take i)) (us.getD i ([], 0)).2.den (lcmU_pos (by omega)) (us.getD i ([], 0)).2.den_nz (ld i) (Nat.le_trans hs.2 (by omega)) (by omega)
          refine zs0 ?_
          refine wI te rfl rfl rfl rfl rfl rfl (by omega) (hget) ?_
          refine zs1 hden ?_
          refine zs2 hlcm ?_
          rw [wrap_i64 (x := (i : Int) + 1) (by omega) (by omega)]
          show ∃ m', _
          refine ⟨us.length - (i + 1), by omega, i + 1, ?_, by omega, rfl⟩
          rw [take_snoc (show i < us.length by omega), lcmU_snoc]
          rfl
        · have hlt := of_decide_eq_false hlt
          rw [trow_len, tx_len] at hlt
          have hie : i = us.length := by omega
          subst hie
          rw [List.take_length]
          generalize hD : lcmU 1 us = D at *
          refine zs0 ?_
          refine W.loop (fun e m => ∃ (i : Nat), e = [(1, .box (0, 0) [.int .i64 3, .int .i64 3, .imm 2 (trow (tx us)), .str (rs c), .str []]), (2, .box (0, 0) [.int .i64 0, .int .i64 0, .own (0, 0) 2 [], .str [], .str []]), (5, .str (rs ((gcdU D (us.take i) : Nat) : Int))), (6, .str (rs ((D : Nat) : Int))), (8, .int .i64 i)] ∧
            i ≤ us.length ∧ m = us.length - i) us.length ?_ ?_ ?_
          · refine ⟨0, ?_, by omega, by omega⟩
            rw [List.take_zero, rs_nat (gcdU D []), show dec (gcdU D []) = [48] from dec_zero]
            rfl
          · show _ < 4611686018427387904; omega
          · rintro e m ⟨i, rfl, hi, rfl⟩
            refine zs0 ?_
            refine W.cond rfl (fun hlt => ?_) (fun hlt => ?_)
            · have hlt := of_decide_eq_true hlt
              rw [trow_len, tx_len] at hlt
              have hget : (trow (tx us))[i]? = some [.str (us.getD i ([], 0)).1, .str (rs (us.getD i ([], 0)).2)] := tx_get (by omega)
              have hmem := getD_mem (us := us) (i := i) (by omega)
              have hm := rmul_T (k := k + 5) (us.getD i ([], 0)).2 ((D : Int) : Rat) ((hsz _ hmem).sm (by omega)) ((szZ (a := (D : Int)) (L := 9001) (by show (dec D).length ≤ _; omega)).sm (by omega))
              rw [zU_eq (hdvd _ hmem)] at hm
              have hgc := rgcd_Q (k := k + 2) ((gcdU D (us.take i) : Nat) : Int) (zU D (us.getD i ([], 0))) (L := 10001) (hgg i) (hz0 _ hmem) (by omega)
              refine zs0 ?_
              refine wI te rfl rfl rfl rfl rfl rfl (by omega) (hget) ?_
              refine zs1 hm ?_
              refine zs2 hgc ?_
              rw [wrap_i64 (x := (i : Int) + 1) (by omega) (by omega)]
              show ∃ m', _
              refine ⟨us.length - (i + 1), by omega, i + 1, ?_, by omega, rfl⟩
              rw [take_snoc (show i < us.length by omega), gcdU_snoc]
              rfl
            · have hlt := of_decide_eq_false hlt
              rw [trow_len, tx_len] at hlt
              have hie : i = us.length := by omega
              subst hie
              rw [List.take_length]
              refine zs1 hdiv ?_
              refine wI te rfl rfl rfl rfl rfl rfl (by omega) (hget0) ?_
              refine zs1 hs0 ?_
              refine zs2 hsc ?_
              rfl
end Go.PE
namespace Go.PE
open Go.RowKit Go.Proofs.Tryz
set_option maxRecDepth 100000
variable {k : Nat}
theorem cmpQ_sgn (rel : Int) (c : Rat) (hrel : rel = 1 ∨ rel = 2 ∨ rel = 3) : cmpQ rel c = (if rel = 1 then decide (sgn c ≤ 0) else if rel = 2 then decide (sgn c < 0) else decide (sgn c = 0)) := by
  unfold cmpQ
  rcases hrel with rfl | rfl | rfl
  · rfl
  · rfl
  · rw [if_neg (by decide), if_neg (by decide), if_neg (by decide), if_neg (by decide)]
    congr 1
    apply propext
    rcases sgn_cases c with ⟨h1, h2⟩ | ⟨h1, h2⟩ | ⟨h1, h2⟩
    · rw [h2]; exact ⟨fun h => by rw [h] at h1; exact absurd h1 (by decide), fun h => absurd h (by decide)⟩
    · rw [h2]; exact ⟨fun _ => rfl, fun _ => h1⟩
    · rw [h2]; exact ⟨fun h => by rw [h] at h1; exact absurd h1 (by decide), fun h => absurd h (by decide)⟩
theorem rnormal0_T (rel kd : Int) (c : Rat) (hrel : rel = 1 ∨ rel = 2 ∨ rel = 3) (hc : szQ c 1000)
    (hv : T (k + 12) 25 [conQ rel kd [] c []] = some (.bool true, [])) : T (k + 13) 27 [conQ rel kd [] c []] = some (.tup [nrmV rel kd [] c, .int .i64 0], []) := by
  have l := hc.len
  have h1 := rsign_Q (k := k + 5) c (by omega)
  have h2 := fun b => fixed_T (k := k + 10) kd b
  unfold nrmV
  rw [if_pos rfl, cmpQ_sgn _ _ hrel]
  rcases sgn_cases c with ⟨_, h3⟩ | ⟨_, h3⟩ | ⟨_, h3⟩
  all_goals
    rw [h3] at h1 ⊢
    rcases hrel with rfl | rfl | rfl
    all_goals
      refine enter rfl func27 rfl (by decide) (by kernel_rfl) rfl rfl ?_
      refine zs1 hv ?_
      refine zs2 h1 ?_
      refine wC te rfl rfl rfl rfl rfl (h2 _) rfl rfl ?_
      refine zs0 ?_
      rfl
end Go.PE
