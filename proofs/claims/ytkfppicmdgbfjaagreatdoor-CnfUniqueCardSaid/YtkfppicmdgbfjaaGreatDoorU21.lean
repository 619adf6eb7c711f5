/-
  A part of the proof that the law's function returns true and leaves its arguments as they were, for every input (no condition): own lemmas of the proof, in the order of their use.
-/
import Derived.Test.YtkfppicmdgbfjaaGreatDoorU20
import Derived.Test.YtkfppicmdgbfjaaGreatDoorU19
import Derived.Test.YtkfppicmdgbfjaaGreatDoorU18
import Derived.Test.YtkfppicmdgbfjaaGreatDoorU13
import Derived.Test.YtkfppicmdgbfjaaGreatDoorU16
set_option linter.all false
namespace Go.PE
open Go.RowKit Go.Proofs.Tryz
set_option maxRecDepth 100000
variable {k : Nat}
theorem reduce_X {u v : List Nat} (h1 : okL u = true) (h2 : okL v = true) (h3 : u.length = v.length + 1) (h4 : 2 ≤ v.length) (h5 : v.length ≤ 16777216) (h6 : 1000000000 ≤ 2 * v.getD (v.length - 1) 0) (h7 : lval u < 1000000000 * lval v) :
    T k 225 [.own (0, 0) 1 (row u), .imm 1 (row v)] = some (.int .u32 (lval u / lval v : Nat), row (limbsN u.length (lval u % lval v))) := by
  refine byX ?_
  show reduceF [.own (0, 0) 1 (row u), .imm 1 (row v)] = _
  simp only [reduceF, unrow_row]
  rw [if_pos ⟨h1, h2, h3, h4, h5, h6, h7⟩]
theorem row_flat (l : List Nat) : (row l).all (fun c => c.length == 1 && c.all scalar1) = true := by
  rw [List.all_eq_true]
  intro c hc
  obtain ⟨n, _, rfl⟩ := List.mem_map.1 hc
  rfl
theorem quoRem_lt (a b : Nat) (ha : ln a < 16777216) (hb : ln b < 16777216) (hlt : a < b) : T (k + 3) 200 [.imm 1 (row (limbs a)), .imm 1 (row (limbs b))] = some (.tup [.imm 1 (row (limbs (a / b))), .imm 1 (row (limbs (a % b)))], []) := by
  obtain ⟨r, hr, hr1, hr2⟩ := cmp_T (k := k + 1) a b (by omega) (by omega)
  rw [Nat.mod_eq_of_lt hlt, Nat.div_eq_of_lt hlt, limbs_zero]
  refine enter rfl func200 rfl (by decide) (by kernel_rfl) rfl rfl ?_
  refine zs1 hr ?_
  refine W.cond rfl (fun hc => ?_) (fun hc => ?_)
  · refine zs0 ?_
    rfl
  · have hc := of_decide_eq_false hc
    exact absurd (hr1.2 hlt) hc
theorem quoRem_one (a b : Nat) (ha : ln a < 16777216) (hb : b < 1000000000) (hb0 : 0 < b) (hlt : b ≤ a) : T (k + 3) 200 [.imm 1 (row (limbs a)), .imm 1 (row (limbs b))] = some (.tup [.imm 1 (row (limbs (a / b))), .imm 1 (row (limbs (a % b)))], []) := by
  obtain ⟨r, hr, hr1, hr2⟩ := cmp_T (k := k + 1) a b (by omega) (by have := ln_small hb; omega)
  have hl : limbs b = [b] := limbs_small (by omega) hb
  refine enter rfl func200 rfl (by decide) (by kernel_rfl) rfl rfl ?_
  refine zs1 hr ?_
  refine W.cond rfl (fun hc => ?_) (fun hc => ?_)
  · have hc := of_decide_eq_true hc
    have := hr1.1 hc
    omega
  · clear hc
    refine zs0 ?_
    have hlen : ((row (limbs b)).length : Int) = 1 := by rw [row_len, hl]; rfl
    refine W.cond rfl (fun hc => ?_) (fun hc => ?_)
    · clear hc
      have hg := row_get (l := limbs b) (i := 0) (by rw [hl]; simp)
      have hgd : (limbs b).getD 0 0 = b := by rw [hl]; rfl
      rw [hgd] at hg
      refine zs0 ?_
      refine wI te rfl rfl rfl rfl rfl rfl (by omega) (hg) ?_
      refine zs0 ?_
      refine wC te rfl rfl rfl rfl rfl (quoLimb_T a b (by omega) hb0 hb) rfl rfl ?_
      refine zs0 ?_
      rfl
    · have hc := of_decide_eq_false hc
      exact absurd hlen hc
theorem quoRem_long (a b : Nat) (ha : ln a < 16777216) (hb : 2 ≤ ln b) (hlt : b ≤ a) : T (k + 3) 200 [.imm 1 (row (limbs a)), .imm 1 (row (limbs b))] = some (.tup [.imm 1 (row (limbs (a / b))), .imm 1 (row (limbs (a % b)))], []) := by
  have hlb := ln_mono hlt
  obtain ⟨r, hr, hr1, hr2⟩ := cmp_T (k := k + 1) a b (by omega) (by omega)
  obtain ⟨n, hn⟩ : ∃ n, ln b = n + 1 := ⟨ln b - 1, by omega⟩
  obtain ⟨w, hw⟩ : ∃ w, w = (limbs b).getD n 0 := ⟨_, rfl⟩
  obtain ⟨d, hd⟩ : ∃ d, d = 1000000000 / (w + 1) := ⟨_, rfl⟩
  obtain ⟨hw0, hw1, hd0, hd1, hvl, hnorm⟩ := scaled hn hw hd
  have hld : limbs d = [d] := limbs_small (by omega) hd1
  have hlnd : ln d ≤ 1 := ln_small hd1
  have hlen : ((row (limbs b)).length : Int) = (n + 1 : Nat) := by rw [row_len]; unfold ln at hn; rw [hn]
  have hg := row_get (l := limbs b) (i := n) (by unfold ln at hn; omega)
  rw [← hw] at hg
  refine enter rfl func200 rfl (by decide) (by kernel_rfl) rfl rfl ?_
  refine zs1 hr ?_
  refine W.cond rfl (fun hc => ?_) (fun hc => ?_)
  · have hc := of_decide_eq_true hc
    have := hr1.1 hc
    omega
  · clear hc
    refine zs0 ?_
    refine W.cond rfl (fun hc => ?_) (fun hc => ?_)
    · have hc := of_decide_eq_true hc
      rw [hlen] at hc
      omega
    · clear hc
      refine zs0 ?_
      rw [hlen, wrap_i64 (x := ((n + 1 : Nat) : Int) - 1) (by omega) (by omega), show ((n + 1 : Nat) : Int) - 1 = (n : Int) by omega]
      refine wI te rfl rfl rfl rfl rfl rfl (by omega) (hg) ?_
      refine zs0 ?_
      rw [wrap_u64 (x := (w : Int)) (by omega) (by omega), wrap_u64 (x := (w : Int) + 1) (by omega) (by omega), show (w : Int) + 1 = ((w + 1 : Nat) : Int) by omega]
      refine wS te rfl rfl (by omega) ?_
      rw [show (1000000000 : Int).tdiv ((w + 1 : Nat) : Int) = ((1000000000 / (w + 1) : Nat) : Int) from rfl, ← hd, wrap_u64 (x := (d : Int)) (by omega) (by omega)]
      refine zs0 ?_
      rw [wrap_u32 (x := (d : Int)) (by omega) (by omega)]
      refine zs0 ?_
      refine wC te rfl rfl rfl rfl rfl (viaA (mul_T a d (by omega) (by omega)) (by rw [hld]; rfl)) rfl rfl ?_
      refine zs0 ?_
      refine wC te rfl rfl rfl rfl rfl (viaA (mul_T b d (by omega) (by omega)) (by rw [hld]; rfl)) rfl rfl ?_
      refine zs0 ?_
      obtain ⟨v, hv⟩ : ∃ v, v = limbs (b * d) := ⟨_, rfl⟩
      have ov : okL v = true := hv ▸ okL_limbs _
      have vv : lval v = b * d := by rw [hv]; exact lval_limbs _
      have lv : v.length = n + 1 := by rw [hv]; exact hvl
      rw [← hv] at hnorm
      rw [← hv]
      have hla : (limbs a).length = ln a := rfl
      have hwa : ln (a * d) ≤ ln a + 1 := by have := ln_mul a d; omega
      refine W.loop (fun e m => ∃ u : List Nat, e = [(0, .imm 1 (row (limbs a))), (6, .imm 1 (row [d])), (7, .own (0, 0) 1 (row u)), (8, .own (0, 0) 1 (row v))] ∧
        okL u = true ∧ lval u = a * d ∧ u.length ≤ ln a + 1 ∧ m = ln a + 1 - u.length) (ln a + 1 - ln (a * d)) ?_ ?_ ?_
      · exact ⟨limbs (a * d), rfl, okL_limbs _, lval_limbs _, hwa, rfl⟩
      · show _ < 4611686018427387904; omega
      · rintro e m ⟨u, rfl, ou, vu, lu, rfl⟩
        refine zs0 ?_
        refine W.cond rfl (fun hc => ?_) (fun hc => ?_)
        · have hc := of_decide_eq_true hc
          rw [row_len, row_len, hla] at hc
          refine zs0 ?_
          refine wS te rfl rfl (by simp only [List.length_take, row_len, List.length_cons, List.length_nil]; omega) ?_
          rw [List.take_length, show row u ++ [[PV.int .u32 0]] = row (u ++ [0]) by simp [row]]
          refine zs0 ?_
          show ∃ m', _
          refine ⟨ln a + 1 - (u ++ [0]).length, by simp; omega, u ++ [0], rfl, okL_append.2 ⟨ou, rfl⟩, ?_, by simp; omega, rfl⟩
          rw [lval_append, vu]; simp [lval]
        · have hc := of_decide_eq_false hc
          rw [row_len, row_len, hla] at hc
          have lu : u.length = ln a + 1 := by omega
          clear hc
          refine zs0 ?_
          obtain ⟨m, hm⟩ : ∃ m, m = ln a + 1 - (n + 1) := ⟨_, rfl⟩
          rw [row_len, row_len, lu, lv, wrap_i64 (x := ((ln a + 1 : Nat) : Int) - ((n + 1 : Nat) : Int)) (by omega) (by omega), show ((ln a + 1 : Nat) : Int) - ((n + 1 : Nat) : Int) = (m : Int) by omega]
          refine wS te rfl rfl (by refine ⟨by omega, by omega, by omega, by omega⟩) ?_
          refine zs0 ?_
          rw [row_len, Int.toNat_natCast, show (List.replicate m (List.map frzC [PV.int IntKind.u32 0])).length = m by simp, wrap_i64 (x := (m : Int) - 1) (by omega) (by omega)]
          have hmn : m + n = ln a := by omega
          have hstart : a * d < b * d * 1000000000 ^ m := by
            have h1 : 1000000000 ^ n ≤ b := by
              have := pow_le_of_ln (n := b) (by rintro rfl; rw [ln_zero] at hn; omega)
              rw [hn] at this; exact this
            have h2 : a < b * 1000000000 ^ m := by
              refine Nat.lt_of_lt_of_le (lt_ln a) ?_
              rw [← hmn, Nat.add_comm, Nat.pow_add]
              exact Nat.mul_le_mul_right _ h1
            have := Nat.mul_lt_mul_of_pos_right h2 hd0
            rw [Nat.mul_right_comm] at this
            exact this
          refine W.loop (fun e jj => ∃ (u q : List Nat), e = [(6, .imm 1 (row [d])), (7, .own (0, 0) 1 (row u)), (8, .own (0, 0) 1 (row v)), (9, .own (0, 0) 1 (row q)), (10, .int .i64 ((jj : Int) - 1))] ∧
            okL u = true ∧ u.length = ln a + 1 ∧ okL q = true ∧ q.length = m ∧ jj ≤ m ∧ lval u + lval (q.drop jj) * 1000000000 ^ jj * (b * d) = a * d ∧ lval u < b * d * 1000000000 ^ jj) m ?_ ?_ ?_
          · refine ⟨u, List.replicate m 0, ?_, ou, lu, okL_rep _, by simp, Nat.le_refl _, ?_, by rw [vu]; exact hstart⟩
            · rw [← row_rep]; rfl
            · rw [List.drop_of_length_le (by simp), vu]; simp [lval]
          · show _ < 4611686018427387904; omega
          · clear hstart ou vu lu
            rintro e jj ⟨u, q, rfl, ou, lu, oq, lq, hjj, hval, hlt2⟩
            refine zs0 ?_
            refine W.cond rfl (fun hge => ?_) (fun hge => ?_)
            · have hge := of_decide_eq_true hge
              obtain ⟨j, rfl⟩ : ∃ j, jj = j + 1 := ⟨jj - 1, by omega⟩
              rw [show ((j + 1 : Nat) : Int) - 1 = (j : Int) by omega]
              obtain ⟨r1, r2, r3⟩ := div_round (n := n + 1) ou ov lv (j := j) (by omega) (by rw [vv]; exact hlt2)
              rw [vv] at r2 r3
              refine zs0 ?_
              rw [row_len, lv, wrap_i64 (x := (j : Int) + ((n + 1 : Nat) : Int)) (by omega) (by omega), wrap_i64 (by omega) (by omega)]
              refine wS te rfl rfl (by rw [row_len]; omega) ?_
              refine zs0 ?_
              rw [show 0 + ((j : Int)).toNat = j by omega, show ((j : Int) + ((n + 1 : Nat) : Int) + 1).toNat - ((j : Int)).toNat = n + 1 + 1 by omega]
              obtain ⟨x, hx⟩ : ∃ x, x = (u.drop j).take (n + 1 + 1) := ⟨_, rfl⟩
              have ox : okL x = true := hx ▸ okL_take (okL_drop ou _) _
              have lx : x.length = n + 1 + 1 := by rw [hx]; simp; omega
              rw [← hx, vv] at r1
              rw [← hx, ← vv] at r2 r3
              have hred := reduce_X (k := k + 2) ox ov (by omega) (by omega) (by omega) (by rw [lv, Nat.add_sub_cancel]; exact hnorm) (by rw [vv]; exact r1)
              have hqB : lval x / lval v < 1000000000 := by
                have : 0 < lval v := by
                  rcases Nat.eq_zero_or_pos (lval v) with h | h
                  · rw [← vv, h] at r1; omega
                  · exact h
                rw [Nat.div_lt_iff_lt_mul this, vv]; exact r1
              rw [lx] at hred
              refine WX.callW tab_eq rfl rfl rfl rfl rfl rfl rfl rfl rfl (viaA hred (by rw [row_drop, row_take, List.drop_zero, List.take_length, hx])) rfl rfl (row_sc _) (by rw [row_len, row_len, limbsN_len]; omega) (row_flat _) ?_
              rw [row_take, row_drop, row_append, row_append]
              refine wS te rfl rfl (by rw [row_len]; omega) ?_
              have hg2 := row_get (l := q) (i := 0 + (j : Int).toNat) (by omega)
              refine WX.stElem tab_eq rfl rfl rfl (hg2) rfl rfl rfl ?_
              refine zs0 ?_
              rw [show 0 + (j : Int).toNat = j by omega, row_set, wrap_i64 (x := (j : Int) - 1) (by omega) (by omega)]
              show ∃ m', _
              generalize hqq : lval x / lval v = qq at *
              refine ⟨j, by omega, u.take j ++ limbsN (n + 1 + 1) (lval x % lval v) ++ u.drop (j + (n + 1 + 1)), q.set j qq, rfl, ?_, ?_, okL_set oq _ hqB, by simp [lq], by omega, ?_, by rw [← vv]; exact r3⟩
              · rw [okL_append, okL_append]; exact ⟨⟨okL_take ou _, okL_limbsN _ _⟩, okL_drop ou _⟩
              · simp only [List.length_append, List.length_take, limbsN_len, List.length_drop]; omega
              · rw [drop_getD (l := q.set j qq) (i := j) (by simp; omega), drop_set_lt (by omega), getD_set_eq (by omega), lval, ← hval, ← r2, ← vv]
                rw [Nat.pow_succ]
                generalize lval (q.drop (j + 1)) = y
                generalize lval (u.take j ++ limbsN (n + 1 + 1) (lval x % lval v) ++ u.drop (j + (n + 1 + 1))) = z
                generalize 1000000000 ^ j = p
                rw [Nat.add_mul, Nat.add_mul, ← Nat.add_assoc]
                congr 1
                rw [Nat.mul_comm p, ← Nat.mul_assoc, Nat.mul_comm y]
            · have hge := of_decide_eq_false hge
              have : jj = 0 := by omega
              subst this
              simp only [List.drop_zero, Nat.pow_zero, Nat.mul_one] at hval hlt2
              have hb0 : 0 < b := by
                rcases Nat.eq_zero_or_pos b with h | h
                · subst h; omega
                · exact h
              obtain ⟨hq, hr3⟩ : a / b = lval q ∧ lval u = a % b * d := by
                have h1 : lval q * b ≤ a := by
                  have : lval q * b * d ≤ a * d := by rw [Nat.mul_assoc]; omega
                  exact Nat.le_of_mul_le_mul_right this hd0
                have h2 : lval u = (a - lval q * b) * d := by
                  rw [Nat.sub_mul, Nat.mul_assoc]; omega
                have h3 : a - lval q * b < b := by
                  rw [h2] at hlt2
                  exact Nat.lt_of_mul_lt_mul_right hlt2
                have h4 : a = b * lval q + (a - lval q * b) := by rw [Nat.mul_comm b]; omega
                have h5 : a / b = lval q := by
                  rw [h4, Nat.mul_add_div hb0, Nat.div_eq_of_lt h3, Nat.add_zero]
                refine ⟨h5, ?_⟩
                rw [h2]
                congr 1
                conv => rhs; rw [h4, Nat.mul_add_mod, Nat.mod_eq_of_lt h3]
              refine zd8 ?_
              refine WX.callPD rfl rfl rfl rfl rfl rfl rfl (row_sc _) (by have := trimL_le (u) (u).length; rw [row_len]; omega) (viaA (trim_X (l := u) (by first | omega | (simp <;> omega))) (by simp only [List.drop_zero, List.take_length])) ?_
              refine zd0 ?_
              refine WX.idxImmD tab_eq rfl rfl rfl rfl rfl rfl (by omega) (row_get (l := [d]) (i := 0) (by simp)) ?_
              refine zd0 ?_
              refine wG te rfl rfl rfl rfl rfl (viaA (quoLimb_T (lval u) d (by rw [hr3]; have := ln_mul (a % b) d; have := ln_mono (Nat.mod_le a b); omega) hd0 hd1) (by rw [List.drop_zero, Int.toNat_natCast, row_take, trim_limbs ou]; rfl)) rfl rfl ?_
              refine zd7 ?_
              refine WX.callP rfl rfl rfl rfl rfl rfl rfl (row_sc _) (by have := trimL_le (q) (q).length; rw [row_len]; omega) (viaA (trim_X (l := q) (by first | omega | (simp <;> omega))) (by simp only [List.drop_zero, List.take_length])) ?_
              refine zs0 ?_
              rw [Int.toNat_natCast, row_take, trim_limbs oq, ← hq, hr3, Nat.mul_div_cancel _ hd0]
              rfl
theorem quoRem_T (a b : Nat) (ha : ln a < 16777216) (hb : ln b < 16777216) (hb0 : b ≠ 0) : T (k + 3) 200 [.imm 1 (row (limbs a)), .imm 1 (row (limbs b))] = some (.tup [.imm 1 (row (limbs (a / b))), .imm 1 (row (limbs (a % b)))], []) := by
  by_cases hlt : a < b
  · exact quoRem_lt a b ha hb hlt
  · by_cases h1 : ln b < 2
    · refine quoRem_one a b ha ?_ (by omega) (by omega)
      have := lt_ln b
      have hle : 1000000000 ^ ln b ≤ 1000000000 ^ 1 := Nat.pow_le_pow_right (by omega) (by omega)
      omega
    · exact quoRem_long a b ha (by omega) (by omega)
end Go.PE
namespace Go.PE
open Go.RowKit Go.Proofs.Tryz
set_option maxRecDepth 100000
/-! ### reduce -/
def X1 (g : FuncId) : List PV → Option (PV × List (List PV)) := bif Nat.beq g 243 then subF else bif Nat.beq g 244 then restF else fun _ => none
theorem X1_meets (g : FuncId) : Meets prog g (X1 g) := by
  unfold X1
  cases h1 : Nat.beq g 243 with
  | true =>
    obtain rfl := Nat.eq_of_beq_eq_true h1
    exact sub_meets
  | false =>
    cases h2 : Nat.beq g 244 with
    | true =>
      obtain rfl := Nat.eq_of_beq_eq_true h2
      exact rest_meets
    | false => exact none_meets g (bk_meets g)
theorem viaX {f : FuncId} {avs avs' : List PV} {r : Option (PV × List (List PV))} (h : X1 f avs' = r) (e : avs = avs') : X1 f avs = r := e ▸ h
theorem sub_X {u v : List Nat} {t : Nat} (h1 : okL u = true) (h2 : okL v = true) (h3 : u.length = v.length + 1) (h4 : v.length ≤ 16777216) (h5 : t < 1000000000) :
    X1 243 [.own (0, 0) 1 (row u), .imm 1 (row v), .int .u64 (t : Nat)] = some (.bool (decide (lval u < t * lval v)), row (limbsN u.length (lval u + (if lval u < t * lval v then 1000000000 ^ u.length else 0) - t * lval v))) := by
  show subF [.own (0, 0) 1 (row u), .imm 1 (row v), .int .u64 (t : Nat)] = _
  simp only [subF, unrow_row]
  rw [if_pos ⟨h1, h2, h3, h4, by omega, by omega⟩, Int.toNat_natCast]
theorem rest_X {u v : List Nat} (h1 : okL u = true) (h2 : okL v = true) (h3 : v.length ≤ u.length) (h4 : u.length ≤ 16777217) :
    X1 244 [.own (0, 0) 1 (row u), .imm 1 (row v)] = some (.tup [], row (limbsN u.length ((lval u + lval v) % 1000000000 ^ u.length))) := by
  show restF [.own (0, 0) 1 (row u), .imm 1 (row v)] = _
  simp only [restF, unrow_row]
  rw [if_pos ⟨h1, h2, h3, h4⟩]
theorem mid_win (pre post : List (List PV)) (u : List Nat) : ((pre ++ row u ++ post).drop pre.length).take u.length = row u := by
  rw [List.append_assoc, List.drop_left, ← row_len u, List.take_left]
theorem mid_new (pre post new : List (List PV)) (u : List Nat) : (pre ++ row u ++ post).take pre.length ++ new ++ (pre ++ row u ++ post).drop (pre.length + u.length) = pre ++ new ++ post := by
  have e : pre ++ row u ++ post = pre ++ (row u ++ post) := List.append_assoc ..
  rw [e, List.take_left, ← List.drop_drop, List.drop_left, ← row_len u, List.drop_left]
theorem flat_mid {pre post : List (List PV)} {u : List Nat} (h : flat1 (pre ++ row u ++ post) = true) (x : List Nat) : flat1 (pre ++ row x ++ post) = true := by
  unfold flat1 at h ⊢
  rw [List.all_append, List.all_append, Bool.and_eq_true, Bool.and_eq_true] at h ⊢
  exact ⟨⟨h.1.1, row_sc x⟩, h.2⟩
theorem guess_init {q v1 v2 top u1 : Nat} (h : q * (v1 * 1000000000 + v2) ≤ top * 1000000000 + u1) (hu : u1 < 1000000000) : q * v1 ≤ top := by
  rw [Nat.mul_add, ← Nat.mul_assoc] at h
  generalize q * v1 = x at *
  omega
theorem red_over {U V P g : Nat} (hq : U / V ≤ g) (hg : g ≤ U / V + 1) (hs : U < g * V) (hU : U < P) (hV : V ≤ P) : g = U / V + 1 ∧ U + P - g * V < P ∧ (U + P - g * V + V) % P = U % V := by
  have hmd := Nat.div_add_mod U V
  have hV0 : 0 < V := by
    rcases Nat.eq_zero_or_pos V with h | h
    · rw [h, Nat.mul_zero] at hs; omega
    · exact h
  have hml := Nat.mod_lt U hV0
  have hgq : g = U / V + 1 := by
    rcases Nat.lt_or_ge (U / V) g with h | h
    · exact Nat.le_antisymm hg h
    · have : g * V ≤ U / V * V := Nat.mul_le_mul_right _ h
      rw [Nat.mul_comm (U / V)] at this
      omega
  refine ⟨hgq, by omega, ?_⟩
  rw [hgq, Nat.add_mul, Nat.one_mul, Nat.mul_comm (U / V)]
  have h1 : U + P - (V * (U / V) + V) + V = U % V + P := by omega
  rw [h1, Nat.add_mod_right, Nat.mod_eq_of_lt (by omega)]
theorem red_fit {U V g : Nat} (hq : U / V ≤ g) (hg : g ≤ U / V + 1) (hs : ¬ U < g * V) (h0 : 0 < V) : g = U / V ∧ U + 0 - g * V = U % V := by
  have hmd := Nat.div_add_mod U V
  have hgq : g = U / V := by
    rcases Nat.lt_or_ge (U / V) g with h | h
    · exfalso
      have hge : g = U / V + 1 := Nat.le_antisymm hg h
      have hml := Nat.mod_lt U h0
      rw [hge, Nat.add_mul, Nat.one_mul, Nat.mul_comm (U / V)] at hs
      omega
    · exact Nat.le_antisymm h hq
  refine ⟨hgq, ?_⟩
  rw [hgq, Nat.mul_comm (U / V)]
  omega
theorem mid_le (pre post : List (List PV)) (u : List Nat) : pre.length + u.length ≤ (pre ++ row u ++ post).length := by
  simp only [List.length_append, row_len]; omega
theorem dec1 {q : Nat} (h : q + 1 < 1000000000) : IntKind.u64.wrap (((q + 1 : Nat) : Int) - 1) = (q : Int) := by
  rw [show ((q + 1 : Nat) : Int) - 1 = (q : Int) by omega, wrap_u64 (Int.natCast_nonneg _) (by omega)]
theorem wrap_lt {q : Nat} (h : q < 1000000000) : IntKind.u32.wrap (q : Int) = (q : Int) := wrap_u32 (Int.natCast_nonneg _) (by omega)
def cqa : Code → Code | .seq a _ => a | c => c
def cqb : Code → Code | .seq _ b => b | c => c
def blOf : Code → Code | .block _ c => c | c => c
def lpOf : Code → Code | .loop c => c | c => c
def bdOf (f : Func) : Code := f.body.getD .skip
def lvR (b : Nat) : List Nat := VS :: lvF 225 b
noncomputable def cR : Code := cqb (cqb (cqb (cqb (bdOf f225))))
def redE (pre post : List (List PV)) (u v : List Nat) : Ex → St → Prop := endV tab f225.results.toList 1 (.int .u32 (lval u / lval v : Nat)) (pre ++ row (limbsN u.length (lval u % lval v)) ++ post)
abbrev redEnv (pre post : List (List PV)) (u v : List Nat) (m v1 g r : Nat) : List (Nat × PV) :=
  [(VS, .own (0, 0) 1 (pre ++ row u ++ post)), (0, .snap VS none (0, 0) pre.length u.length), (1, .imm 1 (row v)), (5, .int .i64 (m + 2 : Nat)), (7, .int .u64 v1), (8, .int .u64 (g : Nat)), (9, .int .u64 (r : Nat))]
abbrev redI (pre post : List (List PV)) (u v : List Nat) (m v1 u2 u3 : Nat) (e : List (Nat × PV)) (g : Nat) : Prop :=
  ∃ r : Nat, e = redEnv pre post u v m v1 g r ∧ g * v1 + r = u3 * 1000000000 + u2 ∧ lval u / lval v ≤ g ∧ r < 1000000000
/-- What stands at the loop's head. -/
structure RedH (pre post : List (List PV)) (u v : List Nat) (m u1 u2 u3 v1 v2 : Nat) : Prop where
  ou : okL u = true
  ov : okL v = true
  luv : u.length = v.length + 1
  lvm : v.length ≤ 16777216
  hfl : flat1 (pre ++ row u ++ post) = true
  hpos : 0 < u.length
  hm : v.length = m + 2
  lu : u.length = m + 3
  hVp : 0 < lval v
  hqB : lval u / lval v < 1000000000
  g3 : (pre ++ row u ++ post)[pre.length + m]? = some [PV.int IntKind.u32 (u1 : Nat)]
  g5 : (row v)[m]? = some [PV.int IntKind.u32 (v2 : Nat)]
  b1 : u3 < 1000000000
  b2 : u2 < 1000000000
  b3 : u1 < 1000000000
  b4 : v1 < 1000000000
  b5 : v2 < 1000000000
  hnorm : 1000000000 ≤ 2 * v1
  htop : u3 ≤ v1
  hgt : ∀ g, (u3 * 1000000000 + u2) * 1000000000 + u1 + 1 ≤ g * (v1 * 1000000000 + v2) → lval u / lval v < g
  hle : ∀ g, 1000000000 ≤ v1 * 1000000000 + v2 → g < 1000000000 → g * (v1 * 1000000000 + v2) ≤ (u3 * 1000000000 + u2) * 1000000000 + u1 → g ≤ lval u / lval v + 1
variable {pre post : List (List PV)} {u v : List Nat} {m u1 u2 u3 v1 v2 : Nat}
abbrev redGoal (pre post : List (List PV)) (u v : List Nat) (m v1 u2 u3 g r : Nat) : Prop :=
  W prog X1 [4] lvR NN 0 (lpOf (blOf (cqa cR))) (0, redEnv pre post u v m v1 g r) (thenW (fun s' => ∃ m', m' < g ∧ redI pre post u v m v1 u2 u3 (canon (lvR 0) (lookup s'.2)) m')
    (outW 0 (thenW (fun s' => W prog X1 [4] lvR NN 0 (cqb cR) s' (redE pre post u v)) (redE pre post u v))))
theorem redA (H : RedH pre post u v m u1 u2 u3 v1 v2) {g r : Nat} (htop2 : g * v1 + r = u3 * 1000000000 + u2) (hq : lval u / lval v ≤ g) (hr : r < 1000000000) (hb : 1000000000 ≤ g) : redGoal pre post u v m v1 u2 u3 g r := by
  obtain ⟨ou, ov, luv, lvm, hfl, hpos, hm, lu, hVp, hqB, g3, g5, b1, b2, b3, b4, b5, hnorm, htop, hgt, hle⟩ := H
  have hgle : g ≤ u3 * 1000000000 + u2 := by
    have := Nat.le_mul_of_pos_right g (show 0 < v1 by omega)
    omega
  unfold redGoal
  refine zd8 ?_
  refine WX.boolMD rfl rfl (fun hb0 => ?_) (fun hb0 => absurd hb (by have := of_decide_eq_false hb0; omega))
  clear hb0
  have hqlt := guess_step htop2 (v2 := v2) (u1 := u1) (.inl (by omega)) hqB hgt
  refine zd7 ?_
  obtain ⟨g', rfl⟩ : ∃ g', g = g' + 1 := ⟨g - 1, by omega⟩
  have htop3 : g' * v1 + (r + v1) = u3 * 1000000000 + u2 := by rw [Nat.add_mul, Nat.one_mul] at htop2; omega
  refine zs0 ?_
  rw [wrap_u64 (x := ((g' + 1 : Nat) : Int) - 1) (by omega) (by omega), show ((g' + 1 : Nat) : Int) - 1 = (g' : Int) by omega, wrap_u64 (x := (r : Int) + v1) (by omega) (by omega), show (r : Int) + v1 = ((r + v1 : Nat) : Int) by omega]
  refine W.cond rfl (fun hr2 => ?_) (fun hr2 => ?_)
  · have hr2 := of_decide_eq_true hr2
    obtain ⟨hgB, k2⟩ := guess_break htop3 htop b2 b5 (u1 := u1) (by omega)
    have hqg : lval u / lval v ≤ g' := by omega
    have hg1 := hle g' (by omega) hgB (guess_final htop3 k2)
    clear hgt hle htop2 htop3 hq hr hqlt k2 g3 g5
    have hUlt := lval_lt ou
    have hVle := Nat.le_trans (Nat.le_of_lt (lval_lt ov)) (Nat.pow_le_pow_right (n := 1000000000) (by omega) (show v.length ≤ u.length by omega))
    refine zs0 ?_
    refine WX.callW tab_eq rfl rfl rfl rfl rfl rfl rfl rfl rfl (viaX (sub_X ou ov luv lvm hgB) (by rw [mid_win]; rfl)) rfl rfl hfl (by rw [row_len, limbsN_len]; exact ⟨mid_le _ _ _, hpos, rfl⟩) (row_flat _) ?_
    rw [mid_new]
    refine zs0 ?_
    refine W.cond rfl (fun hs => ?_) (fun hs => ?_)
    · have hs : lval u < g' * lval v := of_decide_eq_true hs
      obtain ⟨rfl, k1, k2⟩ := red_over hqg hg1 hs hUlt hVle
      rw [if_pos hs]
      obtain ⟨x, hx⟩ : ∃ x, x = limbsN u.length (lval u + 1000000000 ^ u.length - (lval u / lval v + 1) * lval v) := ⟨_, rfl⟩
      have lx : x.length = u.length := by rw [hx, limbsN_len]
      have ox : okL x = true := by rw [hx]; exact okL_limbsN _ _
      have e : (lval x + lval v) % 1000000000 ^ x.length = lval u % lval v := by rw [lx, hx, lval_limbsN _ _ k1]; exact k2
      rw [← hx]
      clear hUlt hVle k1 k2 hx hs hqg hg1
      refine zs0 ?_
      rw [dec1 hgB]
      refine WX.callW tab_eq rfl rfl rfl rfl rfl rfl rfl rfl rfl (viaX (rest_X ox ov (by omega) (by omega)) (by rw [← lx, mid_win]; rfl)) rfl rfl (flat_mid hfl x) (by rw [row_len, limbsN_len, ← lx]; exact ⟨mid_le _ _ _, lx ▸ hpos, rfl⟩) (row_flat _) ?_
      rw [← lx, mid_new, e]
      refine zs0 ?_
      rw [wrap_lt (Nat.lt_of_succ_lt hgB)]
      refine zs0 ?_
      show (∃ st, _) ∧ _
      exact ⟨⟨(0, 0), by rw [← lx]; rfl⟩, rfl⟩
    · have hs : ¬ lval u < g' * lval v := of_decide_eq_false hs
      obtain ⟨rfl, e⟩ := red_fit hqg hg1 hs hVp
      rw [if_neg hs, e]
      clear hUlt hVle hs hqg hg1 e
      refine zs0 ?_
      rw [wrap_lt hgB]
      refine zs0 ?_
      show (∃ st, _) ∧ _
      exact ⟨⟨(0, 0), rfl⟩, rfl⟩
  · have hr2 := of_decide_eq_false hr2
    refine zs0 ?_
    show ∃ m', _
    exact ⟨g', by omega, r + v1, rfl, htop3, by omega, by omega⟩
end Go.PE
namespace Go.PE
open Go.RowKit Go.Proofs.Tryz
set_option maxRecDepth 100000
variable {pre post : List (List PV)} {u v : List Nat} {m u1 u2 u3 v1 v2 : Nat}
theorem redB (H : RedH pre post u v m u1 u2 u3 v1 v2) {g r : Nat} (htop2 : g * v1 + r = u3 * 1000000000 + u2) (hq : lval u / lval v ≤ g) (hr : r < 1000000000) (hb : ¬ 1000000000 ≤ g) (hgr : r * 1000000000 + u1 < g * v2) : redGoal pre post u v m v1 u2 u3 g r := by
  obtain ⟨ou, ov, luv, lvm, hfl, hpos, hm, lu, hVp, hqB, g3, g5, b1, b2, b3, b4, b5, hnorm, htop, hgt, hle⟩ := H
  have hgle : g ≤ u3 * 1000000000 + u2 := by
    have := Nat.le_mul_of_pos_right g (show 0 < v1 by omega)
    omega
  unfold redGoal
  refine zd8 ?_
  refine WX.boolMD rfl rfl (fun hb0 => absurd (of_decide_eq_true hb0) (by omega)) (fun hb0 => ?_)
  clear hb0
  have hgb : g < 1000000000 := by omega
  obtain ⟨z, hz⟩ : ∃ z, z = g * v2 := ⟨_, rfl⟩
  have hzI : (g : Int) * ((v2 : Nat) : Int) = (z : Int) := by rw [hz]; exact (Int.natCast_mul _ _).symm
  have hzB : z ≤ g * 999999999 := by rw [hz]; exact Nat.mul_le_mul_left g (by omega)
  have hidx : IntKind.i64.wrap (((m + 2 : Nat) : Int) - 2) = (m : Int) := by rw [wrap_i64 (by omega) (by omega)]; omega
  refine zd0 ?_
  refine WX.idxImmD tab_eq rfl rfl rfl rfl rfl rfl (by rw [hidx]; omega) (by rw [hidx]; exact g5) ?_
  refine zd0 ?_
  refine wD te rfl rfl (by rw [hidx]; omega) ?_
  refine WX.ldElemD tab_eq rfl rfl rfl (by rw [hidx, Int.toNat_natCast]; exact g3) rfl rfl rfl rfl ?_
  refine zd0 ?_
  refine WX.nilD (by kernel_rfl) ?_
  rw [wrap_u64 (x := (v2 : Int)) (by omega) (by omega), hzI, wrap_u64 (x := (z : Int)) (by omega) (by omega), wrap_u64 (x := (r : Int) * 1000000000) (by omega) (by omega), wrap_u64 (x := (u1 : Int)) (by omega) (by omega), wrap_u64 (x := (r : Int) * 1000000000 + u1) (by omega) (by omega)]
  refine zs0 ?_
  rw [cond_false]
  refine W.cond rfl (fun hgr0 => ?_) (fun hgr0 => absurd hgr (by have := of_decide_eq_false hgr0; omega))
  clear hgr0
  have hqlt := guess_step htop2 (v2 := v2) (u1 := u1) (.inr (by omega)) hqB hgt
  refine zs0 ?_
  obtain ⟨g', rfl⟩ : ∃ g', g = g' + 1 := ⟨g - 1, by omega⟩
  have htop3 : g' * v1 + (r + v1) = u3 * 1000000000 + u2 := by rw [Nat.add_mul, Nat.one_mul] at htop2; omega
  refine zs0 ?_
  rw [wrap_u64 (x := ((g' + 1 : Nat) : Int) - 1) (by omega) (by omega), show ((g' + 1 : Nat) : Int) - 1 = (g' : Int) by omega, wrap_u64 (x := (r : Int) + v1) (by omega) (by omega), show (r : Int) + v1 = ((r + v1 : Nat) : Int) by omega]
  refine W.cond rfl (fun hr2 => ?_) (fun hr2 => ?_)
  · have hr2 := of_decide_eq_true hr2
    obtain ⟨hgB, k2⟩ := guess_break htop3 htop b2 b5 (u1 := u1) (by omega)
    have hqg : lval u / lval v ≤ g' := by omega
    have hg1 := hle g' (by omega) hgB (guess_final htop3 k2)
    clear hgt hle htop2 htop3 hq hr hqlt k2 g3 g5
    have hUlt := lval_lt ou
    have hVle := Nat.le_trans (Nat.le_of_lt (lval_lt ov)) (Nat.pow_le_pow_right (n := 1000000000) (by omega) (show v.length ≤ u.length by omega))
    refine zs0 ?_
    refine WX.callW tab_eq rfl rfl rfl rfl rfl rfl rfl rfl rfl (viaX (sub_X ou ov luv lvm hgB) (by rw [mid_win]; rfl)) rfl rfl hfl (by rw [row_len, limbsN_len]; exact ⟨mid_le _ _ _, hpos, rfl⟩) (row_flat _) ?_
    rw [mid_new]
    refine zs0 ?_
    refine W.cond rfl (fun hs => ?_) (fun hs => ?_)
    · have hs : lval u < g' * lval v := of_decide_eq_true hs
      obtain ⟨rfl, k1, k2⟩ := red_over hqg hg1 hs hUlt hVle
      rw [if_pos hs]
      obtain ⟨x, hx⟩ : ∃ x, x = limbsN u.length (lval u + 1000000000 ^ u.length - (lval u / lval v + 1) * lval v) := ⟨_, rfl⟩
      have lx : x.length = u.length := by rw [hx, limbsN_len]
      have ox : okL x = true := by rw [hx]; exact okL_limbsN _ _
      have e : (lval x + lval v) % 1000000000 ^ x.length = lval u % lval v := by rw [lx, hx, lval_limbsN _ _ k1]; exact k2
      rw [← hx]
      clear hUlt hVle k1 k2 hx hs hqg hg1
      refine zs0 ?_
      rw [dec1 hgB]
      refine WX.callW tab_eq rfl rfl rfl rfl rfl rfl rfl rfl rfl (viaX (rest_X ox ov (by omega) (by omega)) (by rw [← lx, mid_win]; rfl)) rfl rfl (flat_mid hfl x) (by rw [row_len, limbsN_len, ← lx]; exact ⟨mid_le _ _ _, lx ▸ hpos, rfl⟩) (row_flat _) ?_
      rw [← lx, mid_new, e]
      refine zs0 ?_
      rw [wrap_lt (Nat.lt_of_succ_lt hgB)]
      refine zs0 ?_
      show (∃ st, _) ∧ _
      exact ⟨⟨(0, 0), by rw [← lx]; rfl⟩, rfl⟩
    · have hs : ¬ lval u < g' * lval v := of_decide_eq_false hs
      obtain ⟨rfl, e⟩ := red_fit hqg hg1 hs hVp
      rw [if_neg hs, e]
      clear hUlt hVle hs hqg hg1 e
      refine zs0 ?_
      rw [wrap_lt hgB]
      refine zs0 ?_
      show (∃ st, _) ∧ _
      exact ⟨⟨(0, 0), rfl⟩, rfl⟩
  · have hr2 := of_decide_eq_false hr2
    refine zs0 ?_
    show ∃ m', _
    exact ⟨g', by omega, r + v1, rfl, htop3, by omega, by omega⟩
end Go.PE
namespace Go.PE
open Go.RowKit Go.Proofs.Tryz
set_option maxRecDepth 100000
variable {pre post : List (List PV)} {u v : List Nat} {m u1 u2 u3 v1 v2 : Nat}
theorem redC (H : RedH pre post u v m u1 u2 u3 v1 v2) {g r : Nat} (htop2 : g * v1 + r = u3 * 1000000000 + u2) (hq : lval u / lval v ≤ g) (hr : r < 1000000000) (hb : ¬ 1000000000 ≤ g) (hgr : ¬ r * 1000000000 + u1 < g * v2) : redGoal pre post u v m v1 u2 u3 g r := by
  obtain ⟨ou, ov, luv, lvm, hfl, hpos, hm, lu, hVp, hqB, g3, g5, b1, b2, b3, b4, b5, hnorm, htop, hgt, hle⟩ := H
  have hgle : g ≤ u3 * 1000000000 + u2 := by
    have := Nat.le_mul_of_pos_right g (show 0 < v1 by omega)
    omega
  unfold redGoal
  refine zd8 ?_
  refine WX.boolMD rfl rfl (fun hb0 => absurd (of_decide_eq_true hb0) (by omega)) (fun hb0 => ?_)
  clear hb0
  have hgb : g < 1000000000 := by omega
  obtain ⟨z, hz⟩ : ∃ z, z = g * v2 := ⟨_, rfl⟩
  have hzI : (g : Int) * ((v2 : Nat) : Int) = (z : Int) := by rw [hz]; exact (Int.natCast_mul _ _).symm
  have hzB : z ≤ g * 999999999 := by rw [hz]; exact Nat.mul_le_mul_left g (by omega)
  have hidx : IntKind.i64.wrap (((m + 2 : Nat) : Int) - 2) = (m : Int) := by rw [wrap_i64 (by omega) (by omega)]; omega
  refine zd0 ?_
  refine WX.idxImmD tab_eq rfl rfl rfl rfl rfl rfl (by rw [hidx]; omega) (by rw [hidx]; exact g5) ?_
  refine zd0 ?_
  refine wD te rfl rfl (by rw [hidx]; omega) ?_
  refine WX.ldElemD tab_eq rfl rfl rfl (by rw [hidx, Int.toNat_natCast]; exact g3) rfl rfl rfl rfl ?_
  refine zd0 ?_
  refine WX.nilD (by kernel_rfl) ?_
  rw [wrap_u64 (x := (v2 : Int)) (by omega) (by omega), hzI, wrap_u64 (x := (z : Int)) (by omega) (by omega), wrap_u64 (x := (r : Int) * 1000000000) (by omega) (by omega), wrap_u64 (x := (u1 : Int)) (by omega) (by omega), wrap_u64 (x := (r : Int) * 1000000000 + u1) (by omega) (by omega)]
  refine zs0 ?_
  rw [cond_false]
  refine W.cond rfl (fun hgr0 => absurd (of_decide_eq_true hgr0) (by omega)) (fun hgr0 => ?_)
  clear hgr0
  have hgB : g < 1000000000 := hgb
  have hqg : lval u / lval v ≤ g := hq
  have hg1 := hle g (by omega) hgB (guess_final htop2 (by omega))
  clear hgt hle htop2 hr g3 g5
  have hUlt := lval_lt ou
  have hVle := Nat.le_trans (Nat.le_of_lt (lval_lt ov)) (Nat.pow_le_pow_right (n := 1000000000) (by omega) (show v.length ≤ u.length by omega))
  refine zs0 ?_
  refine WX.callW tab_eq rfl rfl rfl rfl rfl rfl rfl rfl rfl (viaX (sub_X ou ov luv lvm hgB) (by rw [mid_win]; rfl)) rfl rfl hfl (by rw [row_len, limbsN_len]; exact ⟨mid_le _ _ _, hpos, rfl⟩) (row_flat _) ?_
  rw [mid_new]
  refine zs0 ?_
  refine W.cond rfl (fun hs => ?_) (fun hs => ?_)
  · have hs : lval u < g * lval v := of_decide_eq_true hs
    obtain ⟨rfl, k1, k2⟩ := red_over hqg hg1 hs hUlt hVle
    rw [if_pos hs]
    obtain ⟨x, hx⟩ : ∃ x, x = limbsN u.length (lval u + 1000000000 ^ u.length - (lval u / lval v + 1) * lval v) := ⟨_, rfl⟩
    have lx : x.length = u.length := by rw [hx, limbsN_len]
    have ox : okL x = true := by rw [hx]; exact okL_limbsN _ _
    have e : (lval x + lval v) % 1000000000 ^ x.length = lval u % lval v := by rw [lx, hx, lval_limbsN _ _ k1]; exact k2
    rw [← hx]
    clear hUlt hVle k1 k2 hx hs hqg hg1
    refine zs0 ?_
    rw [dec1 hgB]
    refine WX.callW tab_eq rfl rfl rfl rfl rfl rfl rfl rfl rfl (viaX (rest_X ox ov (by omega) (by omega)) (by rw [← lx, mid_win]; rfl)) rfl rfl (flat_mid hfl x) (by rw [row_len, limbsN_len, ← lx]; exact ⟨mid_le _ _ _, lx ▸ hpos, rfl⟩) (row_flat _) ?_
    rw [← lx, mid_new, e]
    refine zs0 ?_
    rw [wrap_lt (Nat.lt_of_succ_lt hgB)]
    refine zs0 ?_
    show (∃ st, _) ∧ _
    exact ⟨⟨(0, 0), by rw [← lx]; rfl⟩, rfl⟩
  · have hs : ¬ lval u < g * lval v := of_decide_eq_false hs
    obtain ⟨rfl, e⟩ := red_fit hqg hg1 hs hVp
    rw [if_neg hs, e]
    clear hUlt hVle hs hqg hg1 e
    refine zs0 ?_
    rw [wrap_lt hgB]
    refine zs0 ?_
    show (∃ st, _) ∧ _
    exact ⟨⟨(0, 0), rfl⟩, rfl⟩
end Go.PE
namespace Go.PE
open Go.RowKit Go.Proofs.Tryz
set_option maxRecDepth 100000
variable {pre post : List (List PV)} {u v : List Nat} {m u1 u2 u3 v1 v2 : Nat}
theorem reduce_meets : Meets prog 225 reduceF := by
  refine meetsW_of tab_eq mixed_ok X1_meets func225 rfl (by decide) [4] lvR NN rfl rfl rfl (by kernel_rfl) ?_
  intro sz xs off len avs r new hF hfit hpos hmx hfl
  unfold reduceF at hF
  split at hF
  · rename_i xs0 ys heq
    split at hF
    · rename_i u v hu hv
      split at hF
      · rename_i hc
        obtain ⟨ou, ov, luv, lv2, lvm, hnorm, hUV⟩ := hc
        cases hF
        simp only [List.cons.injEq, PV.own.injEq, true_and] at heq
        obtain ⟨⟨rfl, hwin⟩, rfl⟩ := heq
        obtain rfl := row_unrow hv
        have hxs := row_unrow hu
        rw [← hwin] at hxs
        obtain ⟨pre, post, rfl, rfl, rfl, hnew⟩ := parts hxs hfit
        rw [hnew]
        clear hnew hxs hu hv hwin hfit
        obtain ⟨m, hm⟩ : ∃ m, v.length = m + 2 := ⟨v.length - 2, by omega⟩
        have lu : u.length = m + 3 := by omega
        obtain ⟨hV, hV'⟩ := split2 ov hm
        obtain ⟨hU, hU'⟩ := split3 ou lu
        have htop := top_le ou ov lu hm hUV
        rw [hm, show m + 2 - 1 = m + 1 by omega] at hnorm
        have g1 := mid_get (pre := pre) (post := post) (x := u) (i := m + 2) (by omega)
        have g2 := mid_get (pre := pre) (post := post) (x := u) (i := m + 1) (by omega)
        have g3 := mid_get (pre := pre) (post := post) (x := u) (i := m) (by omega)
        have g4 := row_get (l := v) (i := m + 1) (by omega)
        have g5 := row_get (l := v) (i := m) (by omega)
        have b1 := okL_getD ou (m + 2)
        have b2 := okL_getD ou (m + 1)
        have b3 := okL_getD ou m
        have b4 := okL_getD ov (m + 1)
        have b5 := okL_getD ov m
        have hgt := fun g => @guess_gt g _ _ _ _ _ _ _ _ hV hU hU'
        have hle := fun g => @guess_le g _ _ _ _ _ _ _ _ hV hU hV'
        have hqB : lval u / lval v < 1000000000 := by
          apply Nat.div_lt_of_lt_mul
          rw [Nat.mul_comm]; exact hUV
        simp only [List.length_append, row_len] at hmx
        generalize u.getD (m + 2) 0 = u3 at *
        generalize u.getD (m + 1) 0 = u2 at *
        generalize u.getD m 0 = u1 at *
        generalize v.getD (m + 1) 0 = v1 at *
        generalize v.getD m 0 = v2 at *
        clear hV hU hU' hV'
        have hVp : 0 < lval v := by
          rcases Nat.eq_zero_or_pos (lval v) with h | h
          · rw [h] at hUV; omega
          · exact h
        refine ⟨Nat.le_of_ble_eq_true rfl, rfl, ?_⟩
        show W _ _ _ _ _ _ _ (0, [(VS, _), (0, _), (1, _)]) _
        refine zs0 ?_
        rw [row_len, hm]
        refine zd0 ?_
        refine wD te rfl rfl (by omega) ?_
        refine WX.ldElemD tab_eq rfl rfl rfl (by rw [Int.toNat_natCast]; exact g1) rfl rfl rfl rfl ?_
        refine zd0 ?_
        have hidx : IntKind.i64.wrap (((m + 2 : Nat) : Int) - 1) = ((m + 1 : Nat) : Int) := by rw [wrap_i64 (by omega) (by omega)]; omega
        refine wD te rfl rfl (by rw [hidx]; omega) ?_
        refine WX.ldElemD tab_eq rfl rfl rfl (by rw [hidx, Int.toNat_natCast]; exact g2) rfl rfl rfl rfl ?_
        refine zd0 ?_
        refine WX.idxImmD tab_eq rfl rfl rfl rfl rfl rfl (by rw [hidx]; omega) (by rw [hidx]; exact g4) ?_
        refine zd0 ?_
        refine WX.nilD (by kernel_rfl) ?_
        rw [wrap_u64 (x := (u3 : Int)) (by omega) (by omega), wrap_u64 (x := (u3 : Int) * 1000000000) (by omega) (by omega), wrap_u64 (x := (u2 : Int)) (by omega) (by omega), wrap_u64 (x := (u3 : Int) * 1000000000 + u2) (by omega) (by omega), wrap_u64 (x := (v1 : Int)) (by omega) (by omega),
          show (u3 : Int) * 1000000000 + u2 = ((u3 * 1000000000 + u2 : Nat) : Int) by omega]
        have hv1 : ((v1 : Nat) : Int) ≠ 0 := by omega
        refine zd8 ?_
        refine wD te rfl rfl (by exact hv1) ?_
        refine zd0 ?_
        refine wD te rfl rfl (by exact hv1) ?_
        refine zd0 ?_
        refine WX.nilD (by kernel_rfl) ?_
        have hg0 := Nat.div_le_self (u3 * 1000000000 + u2) v1
        have hdm : (u3 * 1000000000 + u2) / v1 * v1 + (u3 * 1000000000 + u2) % v1 = u3 * 1000000000 + u2 := by rw [Nat.mul_comm]; exact Nat.div_add_mod _ _
        have hr0 := Nat.mod_lt (u3 * 1000000000 + u2) (show 0 < v1 by omega)
        have hq0 : lval u / lval v ≤ (u3 * 1000000000 + u2) / v1 := by
          have h1 : lval u / lval v * (v1 * 1000000000 + v2) ≤ (u3 * 1000000000 + u2) * 1000000000 + u1 := by
            rcases Nat.lt_or_ge ((u3 * 1000000000 + u2) * 1000000000 + u1) (lval u / lval v * (v1 * 1000000000 + v2)) with h | h
            · exact absurd (hgt _ h) (Nat.lt_irrefl _)
            · exact h
          exact (Nat.le_div_iff_mul_le (by omega)).2 (guess_init h1 b3)
        rw [show ((u3 * 1000000000 + u2 : Nat) : Int).tdiv (v1 : Int) = (((u3 * 1000000000 + u2) / v1 : Nat) : Int) from rfl, show ((u3 * 1000000000 + u2 : Nat) : Int).tmod (v1 : Int) = (((u3 * 1000000000 + u2) % v1 : Nat) : Int) from rfl]
        generalize (u3 * 1000000000 + u2) / v1 = g0 at *
        generalize (u3 * 1000000000 + u2) % v1 = r0 at *
        rw [wrap_u64 (x := (g0 : Int)) (by omega) (by omega)]
        refine zs0 ?_
        have H : RedH pre post u v m u1 u2 u3 v1 v2 := ⟨ou, ov, luv, lvm, hfl, hpos, hm, lu, hVp, hqB, g3, g5, b1, b2, b3, b4, b5, hnorm, htop, hgt, hle⟩
        refine W.loop (redI pre post u v m v1 u2 u3) g0 ?_ ?_ ?_
        · exact ⟨r0, rfl, hdm, hq0, by omega⟩
        · show _ < 4611686018427387904
          omega
        · rintro e g ⟨r, rfl, htop2, hq, hr⟩
          by_cases hb : 1000000000 ≤ g
          · exact redA H htop2 hq hr hb
          · by_cases hgr : r * 1000000000 + u1 < g * v2
            · exact redB H htop2 hq hr hb hgr
            · exact redC H htop2 hq hr hb hgr
      · cases hF
    · cases hF
  · cases hF
end Go.PE
namespace Go.PE
open Go.RowKit Go.Shelf Go.Proofs Go.Proofs.Tryz
set_option maxRecDepth 100000
/-! ### extend's contract; all contracts -/
section
variable {w : World} {Fz : Nat → Prop}
theorem imm_at {v : Value} {sz : Nat} {xs : List (List PV)} (h : Imm w Fz v (.imm sz xs)) {i j : Nat} {p : PV} (hp : cell2 xs i j = some p) : ∃ b o cap, v = .slice (some ⟨b, o, none⟩) xs.length cap ∧ ∃ u, w.cell? ⟨b, o + (i * sz + j), none⟩ = some u ∧ Imm w Fz u p := by
  have h00 : ∃ q, cell2 xs 0 0 = some q := by
    cases h with
    | imm A n cap _ _ c hn hc hu hcell hr =>
      unfold cell2 at hp
      cases hx : xs[i]? with
      | none => rw [hx] at hp; cases hp
      | some x =>
        rw [hx] at hp
        have hj : x[j]? = some p := hp
        have h1 := (List.getElem?_eq_some_iff.1 hj).1
        have h2 := hu x (List.mem_of_getElem? hx)
        have h3 := (List.getElem?_eq_some_iff.1 hx).1
        have h4 : 0 < xs.length := by omega
        have h5 := hu xs[0] (List.getElem_mem h4)
        have h6 : 0 < xs[0].length := by omega
        exact ⟨xs[0][0], by simp [cell2, List.getElem?_eq_getElem h4, List.getElem?_eq_getElem h6]⟩
  obtain ⟨q, hq⟩ := h00
  obtain ⟨b, o, cap, h1, _, h2⟩ := imm_elems h hq
  exact ⟨b, o, cap, h1, h2 i j p hp⟩
theorem int_cell {xs : List (List PV)} {i : Nat} {z : Int} (h : intAt xs i = some z) : cell2 xs i 0 = some (.int .i64 z) ∧ i < xs.length := by
  unfold intAt at h
  split at h
  · rename_i e
    cases h
    exact ⟨by simp [cell2, e], (List.getElem?_eq_some_iff.1 e).1⟩
  · cases h
theorem bool_cell {xs : List (List PV)} {i : Nat} {b : Bool} (h : boolAt xs i = some b) : cell2 xs i 0 = some (.bool b) ∧ i < xs.length := by
  unfold boolAt at h
  split at h
  · rename_i e
    cases h
    exact ⟨by simp [cell2, e], (List.getElem?_eq_some_iff.1 e).1⟩
  · cases h
theorem op_cell {nd : List (List PV)} {i : Nat} {o : Int} (h : opAt nd i = some o) : cell2 nd i 0 = some (.int .i64 o) ∧ i < nd.length := by
  refine ⟨?_, opAt_lt h⟩
  unfold opAt at h
  rw [if_pos (by omega), Int.toNat_natCast] at h
  split at h
  · rename_i e
    cases h
    simp [cell2, e]
  · cases h
theorem kids_cell {kr : List (List PV)} {v : Nat} {ks : List Int} (h : kidsAt kr v = some ks) : ∃ l, cell2 kr v 0 = some (.imm 1 l) ∧ unInts l = some ks ∧ v < kr.length := by
  unfold kidsAt at h
  split at h
  · rename_i l e
    split at h
    · exact ⟨l, by simp [cell2, e], h, (List.getElem?_eq_some_iff.1 e).1⟩
    · cases h
  · cases h
theorem unInts_get : ∀ {xs : List (List PV)} {l : List Int}, unInts xs = some l → ∀ j, j < l.length → cell2 xs j 0 = some (.int .i64 (l.getD j 0))
  | [], l, h, j, hj => by cases h; simp at hj
  | x :: xs, l, h, j, hj => by
    unfold unInts at h
    split at h
    · rename_i he; cases he
    · rename_i z r he
      simp only [List.cons.injEq] at he
      obtain ⟨rfl, rfl⟩ := he
      split at h
      · rename_i l' hl
        cases h
        cases j with
        | zero => rfl
        | succ j => exact unInts_get hl j (by simpa using hj)
      · cases h
    · cases h
theorem enc_mem {pb po tb to : Nat} {nd so fr kr : List (List PV)} {un us u2 u3 : Value} (e0 : w.cell? ⟨pb, po, none⟩ = some (.pointer (some ⟨tb, to, none⟩))) (t0 : w.cell? ⟨tb, to, none⟩ = some un) (i0 : Imm w Fz un (.imm 5 nd)) (t2 : w.cell? ⟨tb, to + 2, none⟩ = some us) (i2 : Imm w Fz us (.imm 1 so))
    (e2 : w.cell? ⟨pb, po + 2, none⟩ = some u2) (j2 : Imm w Fz u2 (.imm 1 fr)) (e3 : w.cell? ⟨pb, po + 3, none⟩ = some u3) (j3 : Imm w Fz u3 (.imm 1 kr)) {z : Int} (hz : intAt fr 0 = some z) : EncM w pb po tb to nd so fr kr where
  e0 := e0
  e2 := by
    obtain ⟨b, o, c, rfl, _⟩ := imm_at j2 (int_cell hz).1
    refine ⟨b, o, c, e2, fun v i hv => ?_⟩
    obtain ⟨b', o', c', h1, u, h2, h3⟩ := imm_at j2 (int_cell hv).1
    cases h1
    cases h3
    exact ⟨by simpa using h2, (int_cell hv).2⟩
  t0 := fun i o h => by
    obtain ⟨b, p, c, rfl, u, h2, h3⟩ := imm_at i0 (op_cell h).1
    cases h3
    exact ⟨b, p, c, t0, by simpa using h2, (op_cell h).2⟩
  t2 := fun i o h => by
    obtain ⟨b, p, c, rfl, u, h2, h3⟩ := imm_at i2 (int_cell h).1
    cases h3
    exact ⟨b, p, c, t2, by simpa using h2, (int_cell h).2⟩
  k3 := fun v ks h => by
    obtain ⟨l, h1, h2, h3⟩ := kids_cell h
    obtain ⟨b, p, c, rfl, u, h4, h5⟩ := imm_at j3 h1
    have hl := unInts_len h2
    have h6 := h5
    cases h5 with
    | imm A n cap _ _ cc hn hc hu hcell hr =>
      subst hn
      refine ⟨b, p, c, A, cap, e3, h3, by rw [hl]; simpa using h4, fun j hj => ?_⟩
      obtain ⟨kb, ko, _, h7, y, h8, h9⟩ := imm_at h6 (unInts_get h2 j hj)
      cases h7
      cases h9
      exact ⟨kb, ko, rfl, by simpa using h8⟩
end
theorem extend_meets : Meets prog 37 extendF := by
  refine ⟨fun _ _ => ?_, fun h => (by cases h), fun _ h => (by cases h), fun g' h => (by cases h)⟩
  intro w Fz args avs bs r outs hgl hfz hnd hbs hreps hF o a next Q hnext
  obtain ⟨al, hal⟩ : ∃ al, args.toList = al := ⟨_, rfl⟩
  have harr : args = al.toArray := by rw [← hal, Array.toArray_toList]
  rw [hal] at hreps
  unfold extendF at hF
  split at hF
  · rename_i nd q1 so q2 fr kr q3 q4 va
    split at hF
    · rename_i ar har
      split at hF
      · rename_i hlen
        obtain ⟨hn0, hn, hnl⟩ := hlen
        split at hF
        · rename_i vs hall
          cases hF
          obtain ⟨hvl, hvv⟩ := allN_get hall
          obtain ⟨z, hz, _⟩ := vv_some nd so fr kr ar (f := 999999) (hvv 0 hn0)
          cases hreps with
          | cons h1 h2 =>
            cases h2 with
            | cons h2 h3 =>
              cases h3
              have h1 := h1.imm rfl
              obtain ⟨pb, po, rfl, hp⟩ := imm_deref h1
              obtain ⟨u0, e0, i0⟩ := hp 0 _ rfl
              obtain ⟨tb, to, rfl, ht⟩ := imm_deref i0
              obtain ⟨un, t0, i1⟩ := ht 0 _ rfl
              obtain ⟨us, t2, i2⟩ := ht 2 _ rfl
              obtain ⟨u2, e2, j2⟩ := hp 2 _ rfl
              obtain ⟨u3, e3, j3⟩ := hp 3 _ rfl
              have M := enc_mem e0 t0 i1 t2 i2 e2 j2 e3 j3 hz
              have key : ∀ (A : Option Addr) (m ac : Nat), (∀ j b, boolAt ar j = some b → ∃ ab ao, A = some ⟨ab, ao, none⟩ ∧ w.cell? ⟨ab, ao + j, none⟩ = some (.bool b) ∧ j < m) → args = #[.pointer (some ⟨pb, po, none⟩), .slice A m ac] → boxVals args.toList [.iptr [.iptr [.imm 5 nd, q1, .imm 1 so] 0, q2, .imm 1 fr, .imm 1 kr, q3, q4] 0, va] = [] → o.upon prog a next Q ((callFunc 37 args).run prog w) := by
                intro A m ac hA ha hbx
                rw [hbx] at hnext
                have hx := extend_calls w M (A := A) (m := m) (ac := ac) hA hn0 hn hnl hall
                have henter : ∀ args : Array Value, (callFunc 37 args).run prog w = .ok (.enter 37 args) w := fun args => enters_of func37 (by kernel_rfl) rfl _ _
                rw [henter, Oper.upon_enter, ha]
                refine hx.mono ?_
                rintro e w' ⟨g, rfl, hg, hcell, hb⟩
                have hlt := lt_of_block hcell
                refine hnext _ _ ⟨hb.os, hb.tape, hb.output, hb.size, fun b hb' _ => hb.block b hb', rfl, Fz, [g], [], fun _ h => h, fun _ h => .inl h, ?_, by simp, ?_, .nil⟩
                · intro b hbm
                  have : b = g := by simpa using hbm
                  subst this
                  exact ⟨.inr ⟨hg, hlt⟩, fun hf => by have := hfz _ hf; omega⟩
                · have hg1 : ∀ i j p, cell2 (brow vs) i j = some p → i < vs.length ∧ j = 0 ∧ p = .bool (vs.getD i false) := fun i j p hp => by
                    unfold cell2 brow at hp
                    rw [List.getElem?_map] at hp
                    cases hv : vs[i]? with
                    | none => rw [hv] at hp; cases hp
                    | some b =>
                      rw [hv] at hp
                      have hp : [PV.bool b][j]? = some p := hp
                      have hj := (List.getElem?_eq_some_iff.1 hp).1
                      obtain rfl : j = 0 := by simpa using hj
                      cases hp
                      exact ⟨(List.getElem?_eq_some_iff.1 hv).1, rfl, by simp [List.getD, hv]⟩
                  refine .own g fr.length fr.length _ 4 (0, 0) 1 _ (fun i _ => .bool (vs.getD i false)) hcell (by simp [brow, hvl]) (Nat.le_refl _) (by unfold maxLen; omega) (by simp [brw, hvl]) (fun x hx => (by obtain ⟨b, _, rfl⟩ := List.mem_map.1 hx; rfl)) ?_ ?_
                  · intro i j p hp
                    obtain ⟨h1, rfl, _⟩ := hg1 i j p hp
                    simp [brw, List.getD, List.getElem?_eq_getElem h1]
                  · intro i j p hp
                    obtain ⟨h1, rfl, rfl⟩ := hg1 i j p hp
                    exact .bool _
              have h2 := h2.imm (by unfold rowOf at har; split at har <;> first | rfl | cases har)
              unfold rowOf at har
              split at har
              · cases har
                have h2' := h2
                cases h2 with
                | imm A n cap _ _ c hn' hc hu hcell hr =>
                  subst hn'
                  refine key A _ cap (fun j b hjb => ?_) harr (by rw [hal]; rfl)
                  obtain ⟨ab, ao, _, h3, y, h4, h5⟩ := imm_at h2' (bool_cell hjb).1
                  cases h3
                  cases h5
                  exact ⟨ab, ao, rfl, by simpa using h4, (bool_cell hjb).2⟩
              · cases har
                cases h2
                exact key none 0 0 (fun j b hjb => absurd (bool_cell hjb).2 (by simp)) harr (by rw [hal]; rfl)
              · cases har
        · cases hF
      · cases hF
    · cases hF
  · cases hF
theorem Xc_meets (f : FuncId) : Meets prog f (Xc f) := by
  have key : ∀ (n : Nat) (F G : List PV → Option (PV × List (List PV))), Meets prog n F → (f ≠ n → Meets prog f G) → Meets prog f (fun avs => bif Nat.beq f n then F avs else G avs) := by
    intro n F G h1 h2
    cases hb : Nat.beq f n with
    | true =>
      obtain rfl := Nat.eq_of_beq_eq_true hb
      exact h1
    | false => exact h2 fun h => by subst h; simp at hb
  exact key 137 _ _ key_meets fun _ => key 37 _ _ extend_meets fun _ => key 91 _ _ clone_meets fun _ => key 253 _ _ (indexByte_meets rfl func253 rfl rfl (by kernel_rfl) (by kernel_rfl)) fun _ => key 225 _ _ reduce_meets fun _ => key 199 _ _ trim_meets fun _ => none_meets f (bk_meets f)
theorem T_meets (k : Nat) (f : FuncId) : Meets prog f (T k f) := lvl_meets mixed_ok Xc_meets keepF lvF NN k f
end Go.PE

