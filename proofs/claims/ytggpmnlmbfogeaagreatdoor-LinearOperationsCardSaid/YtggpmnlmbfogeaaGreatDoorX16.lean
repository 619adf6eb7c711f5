/-
  A part of the proof that the law's function returns true and leaves its arguments as they were, for every input (no condition): own lemmas of the proof, in the order of their use.
-/
import Derived.Test.YtggpmnlmbfogeaaGreatDoorX15
import Derived.Test.YtggpmnlmbfogeaaGreatDoorX12
set_option linter.all false
namespace Go.PE
open Go.RowKit Go.Proofs.Tryz
set_option maxRecDepth 100000
variable {k : Nat}
theorem tmodB (v : Nat) : ((v : Int)).tmod 1000000000 = ((v % 1000000000 : Nat) : Int) := rfl
theorem tdivB (v : Nat) : ((v : Int)).tdiv 1000000000 = ((v / 1000000000 : Nat) : Int) := rfl
theorem lval_take_ge {l : List Nat} {i : Nat} (h : l.length ≤ i) : lval (l.take i) = lval l := by rw [List.take_of_length_le h]
theorem getD_ge {l : List Nat} {i : Nat} (h : l.length ≤ i) : l.getD i 0 = 0 := by rw [List.getD, List.getElem?_eq_none h]; rfl
theorem lval_step (l : List Nat) (i : Nat) : lval (l.take (i + 1)) = lval (l.take i) + 1000000000 ^ i * l.getD i 0 := by
 by_cases h : i < l.length
 ·exact lval_take_succ h
 ·rw [lval_take_ge (by omega), lval_take_ge (by omega), getD_ge (by omega)]; simp
theorem add_T (a b : Nat) (ha : ln a < 549755813888) (hb : ln b < 549755813888) : T (k + 2) 199 [.imm 1 (row (limbs a)), .imm 1 (row (limbs b))] = some (.own (0, 0) 1 (row (limbs (a + b))), []) := by
 unfold ln at ha hb
 generalize hla : limbs a = la at ha
 generalize hlb : limbs b = lb at hb
 have oa : okL la = true := hla ▸ okL_limbs a
 have ob : okL lb = true := hlb ▸ okL_limbs b
 have va : lval la = a := hla ▸ lval_limbs a
 have vb : lval lb = b := hlb ▸ lval_limbs b
 refine enter rfl func199 rfl (by decide) (by kernel_rfl) rfl rfl ?_
 refine zs0 ?_
 have hmx : max ((row la).length : Int) ((row lb).length : Int) = (max la.length lb.length : Nat) := by rw [row_len, row_len]; omega
 rw [hmx]
 have hw := wrap_i64 (x := ((max la.length lb.length : Nat) : Int) + 1) (by omega) (by omega)
 rw [hw]
 refine wS te rfl rfl (by refine ⟨by omega, by omega, by omega, by omega⟩) ?_
 refine zs0 ?_
 rw [hmx]
 refine W.loop (fun e m => ∃ (i c : Nat) (out : List Nat), e = [(0, .imm 1 (row la)), (1, .imm 1 (row lb)), (5, .own (0, 0) 1 (row out)), (6, .int .u32 c), (20, .int .i64 (max la.length lb.length : Nat)), (21, .int .i64 i)] ∧
  i ≤ max la.length lb.length ∧ out.length = i ∧ okL out = true ∧ c ≤ 1 ∧ lval out + c * 1000000000 ^ i = lval (la.take i) + lval (lb.take i) ∧ m = max la.length lb.length - i) (max la.length lb.length) ?_ ?_ ?_
 ·exact ⟨0, 0, [], rfl, by omega, rfl, rfl, by omega, by simp [lval], by omega⟩
 ·show _ < 4611686018427387904; omega
 ·rintro e m ⟨i, c, out, rfl, hi, hlen, ho, hc, hv, rfl⟩
  refine zs0 ?_
  refine W.cond rfl (fun hlt => ?_) (fun hlt => ?_)
  ·have hlt := of_decide_eq_true hlt
   refine zs0 ?_
   refine wC te rfl rfl rfl rfl rfl (at_T i (by omega)) rfl rfl ?_
   refine zs0 ?_
   refine wC te rfl rfl rfl rfl rfl (at_T i (by omega)) rfl rfl ?_
   refine zs0 ?_
   have g1 := okL_getD oa i
   have g2 := okL_getD ob i
   rw [wrap_u32 (x := ((la.getD i 0 : Nat) : Int) + ((lb.getD i 0 : Nat) : Int)) (by omega) (by omega)]
   rw [wrap_u32 (x := ((la.getD i 0 : Nat) : Int) + ((lb.getD i 0 : Nat) : Int) + c) (by omega) (by omega)]
   rw [show ((la.getD i 0 : Nat) : Int) + ((lb.getD i 0 : Nat) : Int) + c = ((la.getD i 0 + lb.getD i 0 + c : Nat) : Int) by omega]
   rw [tmodB]
   refine wS te rfl rfl (by simp only [List.length_take, row_len, List.length_cons, List.length_nil]; omega) ?_
   rw [List.take_length, row_snoc]
   refine zs0 ?_
   rw [tdivB, wrap_u32 (by omega) (by omega)]
   rw [wrap_i64 (x := (i : Int) + 1) (by omega) (by omega)]
   show ∃ m', _
   have gp : 1000000000 ^ (i + 1) = 1000000000 ^ i * 1000000000 := Nat.pow_succ ..
   refine ⟨max la.length lb.length - (i + 1), by omega, i + 1, (la.getD i 0 + lb.getD i 0 + c) / 1000000000, out ++ [(la.getD i 0 + lb.getD i 0 + c) % 1000000000], ?_, by omega, by simp [hlen], ?_, by omega, ?_, rfl⟩
   ·rfl
   ·rw [okL_append]; exact ⟨ho, by rw [okL_cons]; exact ⟨by omega, rfl⟩⟩
   ·rw [lval_append, lval_step, lval_step, hlen, gp]
    simp only [lval, Nat.mul_zero, Nat.add_zero]
    generalize la.getD i 0 = x at *
    generalize lb.getD i 0 = y at *
    generalize 1000000000 ^ i = p at *
    have h1 : p * ((x + y + c) % 1000000000) + (x + y + c) / 1000000000 * (p * 1000000000) = p * (x + y + c) := by
     have := Nat.mod_add_div (x + y + c) 1000000000
     rw [← Nat.mul_assoc, Nat.mul_comm _ p, Nat.mul_assoc, ← Nat.mul_add]
     congr 1; omega
    rw [Nat.mul_add, Nat.mul_add] at h1
    rw [Nat.mul_comm c p] at hv
    omega
  ·have hlt := of_decide_eq_false hlt
   have hie : i = max la.length lb.length := by omega
   refine zs0 ?_
   refine wS te rfl rfl (by simp only [List.length_take, row_len, List.length_cons, List.length_nil]; omega) ?_
   rw [List.take_length, row_snoc]
   refine WX.callO rfl rfl rfl rfl rfl (row_sc _) (by have := trimL_le (out ++ [c]) (out ++ [c]).length; rw [row_len]; omega) (trim_X (l := out ++ [c]) (by first | omega | (simp <;> omega))) ?_
   refine zs0 ?_
   have : lval (out ++ [c]) = a + b := by
    rw [lval_append, hlen]
    simp only [lval, Nat.mul_zero, Nat.add_zero]
    rw [lval_take_ge (by omega), lval_take_ge (by omega), va, vb] at hv
    rw [Nat.mul_comm]; exact hv
   rw [Int.toNat_natCast, row_take, trim_limbs (okL_append.2 ⟨ho, okL_cons.2 ⟨by omega, rfl⟩⟩), this]
   rfl
end Go.PE
namespace Go.PE
theorem limbsN_len : ∀ (n x : Nat), (limbsN n x).length = n
 | 0, _ => rfl
 | n + 1, x => by rw [limbsN, List.length_cons, limbsN_len]
theorem okL_limbsN : ∀ (n x : Nat), okL (limbsN n x) = true
 | 0, _ => rfl
 | n + 1, x => by rw [limbsN, okL_cons]; exact ⟨by omega, okL_limbsN _ _⟩
theorem lval_limbsN : ∀ (n x : Nat), x < 1000000000 ^ n → lval (limbsN n x) = x
 | 0, x, h => by
  have : x = 0 := by simpa using h
  subst this; rfl
 | n + 1, x, h => by
  rw [Nat.pow_succ] at h
  rw [limbsN, lval, lval_limbsN n _ (by omega)]
  omega
theorem top_div {l : List Nat} {n : Nat} (h : okL l = true) (hl : l.length = n + 1) : l.getD n 0 = lval l / 1000000000 ^ n := by
 have h1 := lval_take_drop l n (by omega)
 rw [drop_getD (by omega), List.drop_of_length_le (by omega)] at h1
 simp only [lval, Nat.mul_zero, Nat.add_zero] at h1
 have h2 := lval_lt (okL_take h n)
 rw [List.length_take, Nat.min_eq_left (by omega)] at h2
 rw [h1, Nat.add_comm, Nat.mul_add_div (Nat.pow_pos (by omega)), Nat.div_eq_of_lt h2, Nat.add_zero]
theorem knuth_norm {w d : Nat} (h0 : 1 ≤ w) (h1 : w < 1000000000) (hd : d = 1000000000 / (w + 1)) : 1000000000 ≤ 2 * (w * d) := by
 have e1 : d * (w + 1) ≤ 1000000000 := by rw [hd]; exact Nat.div_mul_le_self _ _
 have e2 : 1000000000 < (d + 1) * (w + 1) := by
  have := Nat.lt_mul_div_succ 1000000000 (show 0 < w + 1 by omega)
  rw [← hd, Nat.mul_comm] at this; exact this
 rcases Nat.lt_or_ge w 500000000 with hw | hw
 ·rcases Nat.lt_or_ge w 2 with h2 | h2
  ·have : w = 1 := by omega
   subst this
   omega
  ·have hd2 : 2 ≤ d := by
    rcases Nat.lt_or_ge d 2 with h3 | h3
    ·have : (d + 1) * (w + 1) ≤ 2 * (w + 1) := Nat.mul_le_mul_right _ (by omega)
     omega
    ·exact h3
   obtain ⟨a, rfl⟩ : ∃ a, w = a + 2 := ⟨w - 2, by omega⟩
   obtain ⟨b, rfl⟩ : ∃ b, d = b + 2 := ⟨d - 2, by omega⟩
   have e3 : (b + 2 + 1) * (a + 2 + 1) = b * a + 3 * b + 3 * a + 9 := by
    simp only [Nat.add_mul, Nat.mul_add]; omega
   have e4 : (a + 2) * (b + 2) = b * a + 2 * b + 2 * a + 4 := by
    simp only [Nat.add_mul, Nat.mul_add]; rw [Nat.mul_comm a b]; omega
   rw [e3] at e2
   rw [e4]
   omega
 ·have hd1 : 1 ≤ d := by
   rcases Nat.lt_or_ge d 1 with h3 | h3
   ·have : d = 0 := by omega
    subst this
    omega
   ·exact h3
  have := Nat.mul_le_mul_left w hd1
  omega
theorem scaled {b n d w : Nat} (hn : ln b = n + 1) (hw : w = (limbs b).getD n 0) (hd : d = 1000000000 / (w + 1)) :
  1 ≤ w ∧ w < 1000000000 ∧ 0 < d ∧ d < 1000000000 ∧ ln (b * d) = n + 1 ∧ 1000000000 ≤ 2 * (limbs (b * d)).getD n 0 := by
 have ob := okL_limbs b
 have hb0 : b ≠ 0 := by rintro rfl; rw [ln_zero] at hn; omega
 have htop : w = b / 1000000000 ^ n := by
  rw [hw, top_div ob hn, lval_limbs]
 have hw1 : w < 1000000000 := by rw [hw]; exact okL_getD ob _
 have hpos : 0 < 1000000000 ^ n := Nat.pow_pos (by omega)
 have hw0 : 1 ≤ w := by
  rw [htop, Nat.le_div_iff_mul_le hpos, Nat.one_mul]
  have := pow_le_of_ln hb0
  rw [hn, Nat.add_sub_cancel] at this
  exact this
 have e1 : d * (w + 1) ≤ 1000000000 := by rw [hd]; exact Nat.div_mul_le_self _ _
 have hd0 : 0 < d := by rw [hd]; exact Nat.div_pos (by omega) (by omega)
 have hd1 : d < 1000000000 := by
  have := Nat.mul_le_mul_left d (show 2 ≤ w + 1 by omega)
  omega
 have hlt : b * d < 1000000000 ^ (n + 1) := by
  have h1 : b < (w + 1) * 1000000000 ^ n := by
   have := Nat.lt_mul_div_succ b hpos
   rw [← htop, Nat.mul_comm] at this; exact this
  have h2 : b * d < (w + 1) * 1000000000 ^ n * d := Nat.mul_lt_mul_of_pos_right h1 hd0
  have h3 : (w + 1) * 1000000000 ^ n * d = d * (w + 1) * 1000000000 ^ n := by
   rw [Nat.mul_comm _ d, ← Nat.mul_assoc]
  rw [h3] at h2
  have h4 := Nat.mul_le_mul_right (1000000000 ^ n) e1
  rw [Nat.pow_succ, Nat.mul_comm (1000000000 ^ n)]
  exact Nat.lt_of_lt_of_le h2 h4
 have hge : ln b ≤ ln (b * d) := ln_mono (Nat.le_mul_of_pos_right b hd0)
 have hln : ln (b * d) = n + 1 := by
  have := ln_le hlt
  omega
 refine ⟨hw0, hw1, hd0, hd1, hln, ?_⟩
 rw [top_div (okL_limbs _) hln, lval_limbs]
 have hk := knuth_norm hw0 hw1 hd
 have : w * d ≤ b * d / 1000000000 ^ n := by
  rw [Nat.le_div_iff_mul_le hpos, htop, Nat.mul_assoc, Nat.mul_comm d, ← Nat.mul_assoc]
  exact Nat.mul_le_mul_right _ (Nat.div_mul_le_self _ _)
 omega
theorem div_round {u v : List Nat} {j n : Nat} (ho : okL u = true) (hv : okL v = true) (hvl : v.length = n) (hj : j + n + 1 ≤ u.length) (hlt : lval u < lval v * 1000000000 ^ (j + 1)) :
  lval ((u.drop j).take (n + 1)) < 1000000000 * lval v ∧
  lval (u.take j ++ limbsN (n + 1) (lval ((u.drop j).take (n + 1)) % lval v) ++ u.drop (j + (n + 1))) + lval ((u.drop j).take (n + 1)) / lval v * 1000000000 ^ j * lval v = lval u ∧
  lval (u.take j ++ limbsN (n + 1) (lval ((u.drop j).take (n + 1)) % lval v) ++ u.drop (j + (n + 1))) < lval v * 1000000000 ^ j := by
 have hp : 0 < 1000000000 ^ j := Nat.pow_pos (by omega)
 have e1 := lval_take_drop u j (by omega)
 have e2 := lval_take_drop (u.drop j) (n + 1) (by simp; omega)
 rw [List.drop_drop] at e2
 have hV := lval_lt hv
 rw [hvl] at hV
 have hV0 : 0 < lval v := by
  rcases Nat.eq_zero_or_pos (lval v) with h | h
  ·rw [h] at hlt; omega
  ·exact h
 generalize hX : lval ((u.drop j).take (n + 1)) = X at *
 generalize hZ : lval (u.drop (j + (n + 1))) = Z at *
 generalize hY : lval (u.drop j) = Y at *
 have hYlt : Y < 1000000000 * lval v := by
  have h1 : 1000000000 ^ j * Y < 1000000000 ^ j * (1000000000 * lval v) := by
   have : lval v * 1000000000 ^ (j + 1) = 1000000000 ^ j * (1000000000 * lval v) := by
    rw [Nat.pow_succ, Nat.mul_comm (lval v), Nat.mul_assoc]
   omega
  exact Nat.lt_of_mul_lt_mul_left h1
 have hZ0 : Z = 0 := by
  rcases Nat.eq_zero_or_pos Z with h | h
  ·exact h
  ·have h1 : 1000000000 ^ (n + 1) ≤ 1000000000 ^ (n + 1) * Z := Nat.le_mul_of_pos_right _ h
   rw [Nat.pow_succ] at h1
   have h2 : 1000000000 * lval v < 1000000000 ^ n * 1000000000 := by omega
   rw [Nat.pow_succ] at e2
   omega
 have hXY : Y = X := by rw [hZ0, Nat.mul_zero] at e2; exact e2
 rw [hXY] at hYlt e1
 have hT := lval_lt (okL_take ho j)
 rw [List.length_take, Nat.min_eq_left (by omega)] at hT
 have hr : X % lval v < lval v := Nat.mod_lt _ hV0
 have hrl : X % lval v < 1000000000 ^ (n + 1) := by
  rw [Nat.pow_succ]; omega
 have hnew : lval (u.take j ++ limbsN (n + 1) (X % lval v) ++ u.drop (j + (n + 1))) = lval (u.take j) + 1000000000 ^ j * (X % lval v) := by
  rw [lval_append, lval_append, hZ, hZ0, Nat.mul_zero, Nat.add_zero, List.length_take, Nat.min_eq_left (by omega), lval_limbsN _ _ hrl]
 refine ⟨hYlt, ?_, ?_⟩
 ·rw [hnew, e1]
  have := Nat.mod_add_div X (lval v)
  have h3 : X / lval v * 1000000000 ^ j * lval v = 1000000000 ^ j * (lval v * (X / lval v)) := by
   rw [Nat.mul_comm (X / lval v), Nat.mul_assoc, Nat.mul_comm (X / lval v)]
  rw [h3, Nat.add_assoc, ← Nat.mul_add, this]
 ·rw [hnew]
  have h4 : 1000000000 ^ j * (X % lval v + 1) ≤ 1000000000 ^ j * lval v := Nat.mul_le_mul_left _ hr
  rw [Nat.mul_add, Nat.mul_one] at h4
  rw [Nat.mul_comm (lval v)]
  omega
end Go.PE
namespace Go.PE
theorem limbsN_lval : ∀ {l : List Nat}, okL l = true → limbsN l.length (lval l) = l
 | [], _ => rfl
 | a :: l, h => by
  rw [okL_cons] at h
  rw [List.length_cons, limbsN, lval, show (a + 1000000000 * lval l) % 1000000000 = a by omega, show (a + 1000000000 * lval l) / 1000000000 = lval l by omega, limbsN_lval h.2]
theorem guess_gt {g S top u1 p U V U' V' : Nat} (hV : V = S * p + V') (hU : U = (top * 1000000000 + u1) * p + U') (hU' : U' < p) (h : top * 1000000000 + u1 + 1 ≤ g * S) : U / V < g := by
 have h1 : (top * 1000000000 + u1 + 1) * p ≤ g * S * p := Nat.mul_le_mul_right _ h
 rw [Nat.add_mul, Nat.one_mul] at h1
 have h2 : g * S * p ≤ g * V := by rw [hV, Nat.mul_add, Nat.mul_assoc]; omega
 apply Nat.div_lt_of_lt_mul
 rw [Nat.mul_comm]
 omega
theorem guess_le {g S top u1 p U V U' V' : Nat} (hV : V = S * p + V') (hU : U = (top * 1000000000 + u1) * p + U') (hV' : V' < p) (hS : 1000000000 ≤ S) (hg : g < 1000000000) (h : g * S ≤ top * 1000000000 + u1) : g ≤ U / V + 1 := by
 rcases Nat.eq_zero_or_pos g with h0 | h0
 ·rw [h0]; exact Nat.zero_le _
 have h1 : g * S * p ≤ (top * 1000000000 + u1) * p := Nat.mul_le_mul_right _ h
 have h2 : g * V = g * S * p + g * V' := by rw [hV, Nat.mul_add, Nat.mul_assoc]
 have h3 : g * V' ≤ g * p := Nat.mul_le_mul_left _ (by omega)
 have h4 : g * p < 1000000000 * p := Nat.mul_lt_mul_of_pos_right hg (by omega)
 have h5 : 1000000000 * p ≤ S * p := Nat.mul_le_mul_right _ hS
 have h6 : (g - 1) * V ≤ U := by
  rw [Nat.sub_mul, Nat.one_mul]; omega
 have h7 : 0 < V := by omega
 have := (Nat.le_div_iff_mul_le h7).2 h6
 omega
theorem split2 {v : List Nat} {m : Nat} (h : okL v = true) (hl : v.length = m + 2) : lval v = (v.getD (m + 1) 0 * 1000000000 + v.getD m 0) * 1000000000 ^ m + lval (v.take m) ∧ lval (v.take m) < 1000000000 ^ m := by
 have h1 := lval_take_drop v m (by omega)
 rw [drop_getD (l := v) (i := m) (by omega), drop_getD (l := v) (i := m + 1) (by omega), List.drop_of_length_le (by omega)] at h1
 simp only [lval, Nat.mul_zero, Nat.add_zero] at h1
 have h2 := lval_lt (okL_take h m)
 rw [List.length_take, Nat.min_eq_left (by omega)] at h2
 refine ⟨?_, h2⟩
 rw [h1, Nat.mul_comm (1000000000 ^ m), Nat.add_comm, Nat.mul_comm 1000000000 (v.getD (m + 1) 0), Nat.add_comm (v.getD m 0)]
theorem split3 {u : List Nat} {m : Nat} (h : okL u = true) (hl : u.length = m + 3) :
  lval u = ((u.getD (m + 2) 0 * 1000000000 + u.getD (m + 1) 0) * 1000000000 + u.getD m 0) * 1000000000 ^ m + lval (u.take m) ∧ lval (u.take m) < 1000000000 ^ m := by
 have h1 := lval_take_drop u m (by omega)
 rw [drop_getD (l := u) (i := m) (by omega), drop_getD (l := u) (i := m + 1) (by omega), drop_getD (l := u) (i := m + 1 + 1) (by omega), List.drop_of_length_le (by omega)] at h1
 simp only [lval, Nat.mul_zero, Nat.add_zero] at h1
 have h2 := lval_lt (okL_take h m)
 rw [List.length_take, Nat.min_eq_left (by omega)] at h2
 refine ⟨?_, h2⟩
 rw [h1, Nat.mul_comm (1000000000 ^ m), Nat.add_comm]
 congr 2
 generalize u.getD (m + 2) 0 = a
 generalize u.getD (m + 1) 0 = b
 generalize u.getD m 0 = c
 omega
theorem three (a b c : Nat) : a * 1000000000 * 1000000000 ≤ (a * 1000000000 + b) * 1000000000 + c := by omega
theorem top_le {u v : List Nat} {m : Nat} (hu : okL u = true) (hv : okL v = true) (lu : u.length = m + 3) (lv : v.length = m + 2) (hlt : lval u < 1000000000 * lval v) : u.getD (m + 2) 0 ≤ v.getD (m + 1) 0 := by
 obtain ⟨h1, h2⟩ := split2 hv lv
 obtain ⟨h3, h4⟩ := split3 hu lu
 have hb := okL_getD hv m
 generalize lval (v.take m) = V' at *
 generalize lval (u.take m) = U' at *
 generalize u.getD (m + 2) 0 = a at *
 generalize u.getD (m + 1) 0 = b at *
 generalize u.getD m 0 = c at *
 generalize v.getD (m + 1) 0 = d at *
 generalize v.getD m 0 = e at *
 generalize 1000000000 ^ m = p at *
 rcases Nat.lt_or_ge d a with h | h
 ·exfalso
  have k1 : (d * 1000000000 + e + 1) * p ≤ (d + 1) * 1000000000 * p := Nat.mul_le_mul_right _ (by omega)
  have k2 : (d + 1) * 1000000000 * p ≤ a * 1000000000 * p := Nat.mul_le_mul_right _ (Nat.mul_le_mul_right _ (by omega))
  have k3 : a * 1000000000 * p * 1000000000 ≤ ((a * 1000000000 + b) * 1000000000 + c) * p := by
   exact Nat.le_trans (Nat.le_of_eq (Nat.mul_right_comm _ _ _)) (Nat.mul_le_mul_right p (three a b c))
  have k4 : (d * 1000000000 + e + 1) * p = (d * 1000000000 + e) * p + p := by rw [Nat.add_mul, Nat.one_mul]
  have k5 : lval v < a * 1000000000 * p := by omega
  omega
 ·exact h
theorem guess_step {v1 v2 u1 top g rest q : Nat} (hg : g * v1 + rest = top) (hbig : 1000000000 ≤ g ∨ rest * 1000000000 + u1 < g * v2) (hq1 : q < 1000000000)
  (hq2 : ∀ g, top * 1000000000 + u1 + 1 ≤ g * (v1 * 1000000000 + v2) → q < g) : q < g := by
 rcases hbig with h | h
 ·omega
 ·apply hq2
  rw [Nat.mul_add, ← Nat.mul_assoc, ← hg, Nat.add_mul]
  omega
theorem guess_final {v1 v2 u1 top g rest : Nat} (hg : g * v1 + rest = top) (h : g * v2 ≤ rest * 1000000000 + u1) : g * (v1 * 1000000000 + v2) ≤ top * 1000000000 + u1 := by
 rw [Nat.mul_add, ← Nat.mul_assoc, ← hg, Nat.add_mul]
 omega
theorem guess_break {v1 v2 u1 u2 u3 g rest : Nat} (hg : g * v1 + rest = u3 * 1000000000 + u2) (h3 : u3 ≤ v1) (h2 : u2 < 1000000000) (hv2 : v2 < 1000000000) (hr : 1000000000 ≤ rest) : g < 1000000000 ∧ g * v2 ≤ rest * 1000000000 + u1 := by
 have hlt : g < 1000000000 := by
  rcases Nat.lt_or_ge g 1000000000 with h | h
  ·exact h
  ·exfalso
   have := Nat.mul_le_mul_right v1 h
   omega
 refine ⟨hlt, ?_⟩
 have : g * v2 ≤ 1000000000 * 1000000000 := Nat.mul_le_mul (by omega) (by omega)
 omega
end Go.PE
namespace Go.PE
open Go.RowKit Go.Proofs.Tryz
set_option maxRecDepth 100000
theorem mixed_ok : prog.follows .mixedOrders = true := by kernel_rfl
def noF : FuncId → List PV → Option (PV × List (List PV)) := fun _ _ => none
theorem noF_meets : ∀ g, Meets prog g (noF g) := fun g => none_meets g
theorem mid_get {pre post : List (List PV)} {x : List Nat} {i : Nat} (h : i < x.length) : (pre ++ row x ++ post)[pre.length + i]? = some [.int .u32 (x.getD i 0 : Nat)] := by
 rw [List.append_assoc, List.getElem?_append_right (by omega), Nat.add_sub_cancel_left, List.getElem?_append_left (by rw [row_len]; exact h)]
 exact row_get h
theorem mid_set {pre post : List (List PV)} {x : List Nat} {i y : Nat} (h : i < x.length) : (pre ++ row x ++ post).set (pre.length + i) [.int .u32 (y : Int)] = pre ++ row (x.set i y) ++ post := by
 rw [List.append_assoc, List.set_append_right _ _ (by omega), Nat.add_sub_cancel_left, List.set_append_left _ _ (by rw [row_len]; exact h), row_set, List.append_assoc]
theorem parts {xs : List (List PV)} {off len : Nat} {u : List Nat} (h : (xs.drop off).take len = row u) (hf : off + len ≤ xs.length) :
  ∃ pre post, xs = pre ++ row u ++ post ∧ pre.length = off ∧ u.length = len ∧ ∀ new, xs.take off ++ new ++ xs.drop (off + len) = pre ++ new ++ post := by
 refine ⟨xs.take off, xs.drop (off + len), ?_, by simp; omega, ?_, fun _ => rfl⟩
 ·rw [← h, List.append_assoc, ← List.drop_drop, List.take_append_drop, List.take_append_drop]
 ·rw [← row_len u, ← h]; simp; omega
theorem set_take {l : List Nat} {i x : Nat} (h : i < l.length) : (l.set i x).take (i + 1) = l.take i ++ [x] := by
 rw [take_succ_getD (by simp; omega), List.take_set_of_le (Nat.le_refl _)]
 simp [List.getD, h]
theorem set_drop {l : List Nat} {i x : Nat} : (l.set i x).drop (i + 1) = l.drop (i + 1) := List.drop_set_of_lt (Nat.lt_succ_self i)
theorem getD_drop {l m : List Nat} {i : Nat} (h : l.drop i = m.drop i) : l.getD i 0 = m.getD i 0 := by
 have := congrArg (fun l => l.getD 0 0) h
 simpa [List.getD] using this
theorem drop_succ {l m : List Nat} {i : Nat} (h : l.drop i = m.drop i) : l.drop (i + 1) = m.drop (i + 1) := by
 rw [← List.drop_drop, ← List.drop_drop, h]
def subF (avs : List PV) : Option (PV × List (List PV)) :=
 match avs with
 | [.own (0, 0) 1 xs, .imm 1 ys, .int .u64 t] => match unrow xs, unrow ys with
  | some u, some v => if okL u = true ∧ okL v = true ∧ u.length = v.length + 1 ∧ v.length ≤ 16777216 ∧ 0 ≤ t ∧ t < 1000000000 then
    some (.bool (decide (lval u < t.toNat * lval v)), row (limbsN u.length (lval u + (if lval u < t.toNat * lval v then 1000000000 ^ u.length else 0) - t.toNat * lval v))) else none
  | _, _ => none
 | _ => none
theorem sub_arith {L t V U c b p d x y c' b' : Nat} (h0 : L + t * V = U + (c + b) * p) (h : c + b + d + t * x = y + (c' + b') * 1000000000) : L + p * d + t * (V + p * x) = U + p * y + (c' + b') * (p * 1000000000) := by
 have h1 : p * (c + b + d + t * x) = p * (y + (c' + b') * 1000000000) := by rw [h]
 rw [Nat.mul_add, Nat.mul_add p y, Nat.mul_add p (c + b) d] at h1
 rw [Nat.mul_add t V, Nat.mul_left_comm t p x, Nat.mul_left_comm (c' + b') p]
 rw [Nat.mul_comm (c + b) p] at h0
 omega
theorem sub_end {W t V U b P : Nat} (hW : W < P) (hb : b ≤ 1) (h : W + t * V = U + (0 + b) * P) : decide (0 < b) = decide (U < t * V) ∧ W = U + (if U < t * V then P else 0) - t * V := by
 generalize t * V = X at *
 rcases Nat.lt_or_ge b 1 with hb' | hb'
 ·have : b = 0 := by omega
  subst this
  rw [Nat.add_zero, Nat.zero_mul, Nat.add_zero] at h
  have : ¬ U < X := by omega
  rw [decide_eq_false this, if_neg this]
  exact ⟨rfl, by omega⟩
 ·have : b = 1 := by omega
  subst this
  rw [Nat.zero_add, Nat.one_mul] at h
  have : U < X := by omega
  rw [decide_eq_true this, if_pos this]
  exact ⟨rfl, by omega⟩
def subI (u v : List Nat) (t i c b : Nat) (y : List Nat) : Prop :=
 i ≤ u.length ∧ y.length = u.length ∧ okL y = true ∧ y.drop i = u.drop i ∧ c ≤ t ∧ b ≤ 1 ∧ (v.length < i → c = 0) ∧ lval (y.take i) + t * lval (v.take i) = lval (u.take i) + (c + b) * 1000000000 ^ i
theorem subI_step {u v y : List Nat} {t i c b d b' : Nat} (h : subI u v t i c b y) (hi : i < u.length) (luv : u.length = v.length + 1) (ht : t < 1000000000) (ov : okL v = true) (hd : d < 1000000000) (hb' : b' ≤ 1)
  (he : (c + t * v.getD i 0) % 1000000000 + b + d = u.getD i 0 + b' * 1000000000) : subI u v t (i + 1) ((c + t * v.getD i 0) / 1000000000) b' (y.set i d) := by
 obtain ⟨h1, h2, h3, h4, h5, h6, h7, h8⟩ := h
 have hx := okL_getD ov i
 refine ⟨hi, by simp [h2], okL_set h3 _ hd, by rw [set_drop]; exact drop_succ h4, ?_, hb', fun hl => ?_, ?_⟩
 ·have := Nat.mul_le_mul_left t (show v.getD i 0 ≤ 999999999 by omega)
  have e : (c + t * v.getD i 0) / 1000000000 ≤ (t * 1000000000) / 1000000000 := Nat.div_le_div_right (by omega)
  omega
 ·have : v.getD i 0 = 0 := getD_ge (by omega)
  rw [this]; omega
 ·rw [set_take (by omega), lval_append, lval_step, lval_step, List.length_take, Nat.min_eq_left (by omega), Nat.pow_succ]
  simp only [lval, Nat.mul_zero, Nat.add_zero]
  refine sub_arith h8 ?_
  have := Nat.mod_add_div (c + t * v.getD i 0) 1000000000
  generalize v.getD i 0 = x at *
  generalize t * x = z at *
  omega
theorem sub_meets : Meets prog 313 subF := by
 refine meetsW_of tab_eq mixed_ok noF_meets func313 rfl (by decide) [6] (fun b => VS :: lvF 313 b) NN rfl rfl (by kernel_rfl) ?_
 intro sz xs off len avs r new hF hfit hpos hmx hfl
 unfold subF at hF
 split at hF
 ·rename_i xs0 ys t heq
  split at hF
  ·rename_i u v hu hv
   split at hF
   ·rename_i hc
    obtain ⟨ou, ov, luv, lv, ht0, ht⟩ := hc
    cases hF
    simp only [List.cons.injEq, PV.own.injEq, true_and] at heq
    obtain ⟨⟨rfl, hwin⟩, rfl⟩ := heq
    obtain rfl := row_unrow hv
    have hxs := row_unrow hu
    rw [← hwin] at hxs
    obtain ⟨pre, post, rfl, rfl, rfl, hnew⟩ := parts hxs hfit
    rw [hnew]
    clear hnew hxs hu hv hwin
    obtain ⟨t, rfl⟩ : ∃ n : Nat, t = n := ⟨t.toNat, by omega⟩
    rw [Int.toNat_natCast]
    simp only [List.length_append, row_len] at hmx
    refine ⟨Nat.le_of_ble_eq_true rfl, rfl, ?_⟩
    show W _ _ _ _ _ _ _ (0, [(VS, _), (0, _), (1, _), (2, _)]) _
    refine zs0 ?_
    refine W.loop (fun e m => ∃ (i c b : Nat) (y : List Nat), e = [(VS, .own (0, 0) 1 (pre ++ row y ++ post)), (0, .snap VS none (0, 0) pre.length u.length), (1, .imm 1 (row v)), (2, .int .u64 t), (7, .int .u64 c), (8, .int .i64 b), (12, .int .i64 u.length), (13, .int .i64 i)] ∧
     subI u v t i c b y ∧ m = u.length - i) u.length ?_ ?_ ?_
    ·exact ⟨0, 0, 0, u, rfl, ⟨by omega, rfl, ou, rfl, by omega, by omega, fun _ => rfl, by simp [lval]⟩, by omega⟩
    ·show _ < 4611686018427387904; omega
    ·rintro e m ⟨i, c, b, y, rfl, hI, rfl⟩
     have hI2 := hI
     obtain ⟨hi, hlen, oy, hdr, hct, hb, hc0, hv⟩ := hI2
     refine zs0 ?_
     refine W.cond rfl (fun hlt => ?_) (fun hlt => ?_)
     ·have hlt := of_decide_eq_true hlt
      have hy := getD_drop hdr
      have gy := okL_getD oy i
      rw [hy] at gy
      have gv := okL_getD ov i
      have hst := fun d b' => @subI_step u v y t i c b d b' hI (by omega) luv (by omega) ov
      have gm := mid_get (pre := pre) (post := post) (x := y) (i := i) (by omega)
      rw [hy] at gm
      refine zs0 ?_
      rw [row_len]
      refine W.cond rfl (fun hin => ?_) (fun hin => ?_)
      ·have hin := of_decide_eq_true hin
       have g := row_get (l := v) (i := i) (by omega)
       refine zs0 ?_
       refine wI te rfl rfl rfl rfl rfl rfl (by omega) (g) ?_
       refine zs0 ?_
       obtain ⟨z, hz⟩ : ∃ z, z = t * v.getD i 0 := ⟨_, rfl⟩
       have hzI : (t : Int) * ((v.getD i 0 : Nat) : Int) = (z : Int) := by rw [hz]; exact (Int.natCast_mul _ _).symm
       have hzB : z ≤ t * 999999999 := by rw [hz]; exact Nat.mul_le_mul_left t (by omega)
       rw [wrap_u64 (x := ((v.getD i 0 : Nat) : Int)) (by omega) (by omega), hzI, wrap_u64 (x := (z : Int)) (by omega) (by omega), wrap_u64 (x := (c : Int) + z) (by omega) (by omega), show (c : Int) + z = ((c + z : Nat) : Int) by omega]
       obtain ⟨c1, hc1⟩ : ∃ c1, c1 = c + z := ⟨_, rfl⟩
       rw [← hc1]
       rw [← hz, ← hc1] at hst
       refine wS te rfl rfl (by omega) ?_
       refine WX.ldElem tab_eq rfl rfl rfl (by rw [Int.toNat_natCast]; exact gm) rfl rfl rfl rfl ?_
       refine zs0 ?_
       rw [wrap_i64 (x := ((u.getD i 0 : Nat) : Int)) (by omega) (by omega), tmodB, wrap_i64 (x := ((c1 % 1000000000 : Nat) : Int)) (by omega) (by omega), wrap_i64 (x := ((u.getD i 0 : Nat) : Int) - b) (by omega) (by omega), wrap_i64 (x := ((u.getD i 0 : Nat) : Int) - b - (c1 % 1000000000 : Nat)) (by omega) (by omega), tdivB, wrap_u64 (x := ((c1 / 1000000000 : Nat) : Int)) (by omega) (by omega)]
       refine W.cond rfl (fun hneg => ?_) (fun hneg => ?_)
       ·have hneg := of_decide_eq_true hneg
        refine zs0 ?_
        rw [wrap_i64 (x := ((u.getD i 0 : Nat) : Int) - b - (c1 % 1000000000 : Nat) + 1000000000) (by omega) (by omega), show ((u.getD i 0 : Nat) : Int) - b - (c1 % 1000000000 : Nat) + 1000000000 = ((u.getD i 0 + 1000000000 - b - c1 % 1000000000 : Nat) : Int) by omega, wrap_u32 (by omega) (by omega)]
        refine wS te rfl rfl (by omega) ?_
        refine WX.stElem tab_eq rfl rfl rfl (by rw [Int.toNat_natCast]; exact gm) rfl rfl rfl ?_
        refine zs0 ?_
        rw [Int.toNat_natCast, wrap_i64 (x := (i : Int) + 1) (by omega) (by omega)]
        show ∃ m', _
        refine ⟨u.length - (i + 1), by omega, i + 1, c1 / 1000000000, 1, y.set i (u.getD i 0 + 1000000000 - b - c1 % 1000000000), ?_, ?_, rfl⟩
        ·rw [mid_set (by omega)]; rfl
        ·have h := hst (u.getD i 0 + 1000000000 - b - c1 % 1000000000) 1 (by omega) (by omega) (by skip; omega)
         skip
         exact h
       ·have hneg := of_decide_eq_false hneg
        refine zs0 ?_
        rw [show ((u.getD i 0 : Nat) : Int) - b - (c1 % 1000000000 : Nat) = ((u.getD i 0 - b - c1 % 1000000000 : Nat) : Int) by omega, wrap_u32 (by omega) (by omega)]
        refine wS te rfl rfl (by omega) ?_
        refine WX.stElem tab_eq rfl rfl rfl (by rw [Int.toNat_natCast]; exact gm) rfl rfl rfl ?_
        refine zs0 ?_
        rw [Int.toNat_natCast, wrap_i64 (x := (i : Int) + 1) (by omega) (by omega)]
        show ∃ m', _
        refine ⟨u.length - (i + 1), by omega, i + 1, c1 / 1000000000, 0, y.set i (u.getD i 0 - b - c1 % 1000000000), ?_, ?_, rfl⟩
        ·rw [mid_set (by omega)]; rfl
        ·have h := hst (u.getD i 0 - b - c1 % 1000000000) 0 (by omega) (by omega) (by skip; omega)
         skip
         exact h
      ·have hin := of_decide_eq_false hin
       have hv0 : v.getD i 0 = 0 := getD_ge (by omega)
       rw [hv0, Nat.mul_zero, Nat.add_zero] at hst
       refine zs0 ?_
       refine wS te rfl rfl (by omega) ?_
       refine WX.ldElem tab_eq rfl rfl rfl (by rw [Int.toNat_natCast]; exact gm) rfl rfl rfl rfl ?_
       refine zs0 ?_
       rw [wrap_i64 (x := ((u.getD i 0 : Nat) : Int)) (by omega) (by omega), tmodB, wrap_i64 (x := ((c % 1000000000 : Nat) : Int)) (by omega) (by omega), wrap_i64 (x := ((u.getD i 0 : Nat) : Int) - b) (by omega) (by omega), wrap_i64 (x := ((u.getD i 0 : Nat) : Int) - b - (c % 1000000000 : Nat)) (by omega) (by omega), tdivB, wrap_u64 (x := ((c / 1000000000 : Nat) : Int)) (by omega) (by omega)]
       refine W.cond rfl (fun hneg => ?_) (fun hneg => ?_)
       ·have hneg := of_decide_eq_true hneg
        refine zs0 ?_
        rw [wrap_i64 (x := ((u.getD i 0 : Nat) : Int) - b - (c % 1000000000 : Nat) + 1000000000) (by omega) (by omega), show ((u.getD i 0 : Nat) : Int) - b - (c % 1000000000 : Nat) + 1000000000 = ((u.getD i 0 + 1000000000 - b - c % 1000000000 : Nat) : Int) by omega, wrap_u32 (by omega) (by omega)]
        refine wS te rfl rfl (by omega) ?_
        refine WX.stElem tab_eq rfl rfl rfl (by rw [Int.toNat_natCast]; exact gm) rfl rfl rfl ?_
        refine zs0 ?_
        rw [Int.toNat_natCast, wrap_i64 (x := (i : Int) + 1) (by omega) (by omega)]
        show ∃ m', _
        refine ⟨u.length - (i + 1), by omega, i + 1, c / 1000000000, 1, y.set i (u.getD i 0 + 1000000000 - b - c % 1000000000), ?_, ?_, rfl⟩
        ·rw [mid_set (by omega)]; rfl
        ·have h := hst (u.getD i 0 + 1000000000 - b - c % 1000000000) 1 (by omega) (by omega) (by skip; omega)
         skip
         exact h
       ·have hneg := of_decide_eq_false hneg
        refine zs0 ?_
        rw [show ((u.getD i 0 : Nat) : Int) - b - (c % 1000000000 : Nat) = ((u.getD i 0 - b - c % 1000000000 : Nat) : Int) by omega, wrap_u32 (by omega) (by omega)]
        refine wS te rfl rfl (by omega) ?_
        refine WX.stElem tab_eq rfl rfl rfl (by rw [Int.toNat_natCast]; exact gm) rfl rfl rfl ?_
        refine zs0 ?_
        rw [Int.toNat_natCast, wrap_i64 (x := (i : Int) + 1) (by omega) (by omega)]
        show ∃ m', _
        refine ⟨u.length - (i + 1), by omega, i + 1, c / 1000000000, 0, y.set i (u.getD i 0 - b - c % 1000000000), ?_, ?_, rfl⟩
        ·rw [mid_set (by omega)]; rfl
        ·have h := hst (u.getD i 0 - b - c % 1000000000) 0 (by omega) (by omega) (by skip; omega)
         skip
         exact h
     ·have hlt := of_decide_eq_false hlt
      have hie : i = u.length := by omega
      subst hie
      have := hc0 (by omega)
      subst this
      rw [List.take_of_length_le (show y.length ≤ u.length by omega), List.take_of_length_le (show v.length ≤ u.length by omega), List.take_length] at hv
      have h1 := lval_lt oy
      rw [hlen] at h1
      obtain ⟨k1, k2⟩ := sub_end h1 hb hv
      refine zs0 ?_
      show (∃ st, _) ∧ _
      refine ⟨⟨(0, 0), ?_⟩, ?_⟩
      ·rw [← k2, ← hlen, limbsN_lval oy]; rfl
      ·have e : decide ((0 : Int) < (b : Int)) = decide (0 < b) := decide_eq_decide.2 (by omega)
       rw [← k1, ← e]
       rfl
   ·cases hF
  ·cases hF
 ·cases hF
end Go.PE
namespace Go.PE
open Go.RowKit Go.Proofs.Tryz
set_option maxRecDepth 100000
noncomputable def Tn : FuncId → List PV → Option (PV × List (List PV)) := lvl prog noF keepF lvF NN 1
theorem Tn_meets : ∀ g, Meets prog g (Tn g) := lvl_meets mixed_ok noF_meets keepF lvF NN 1
theorem at_Tn {l : List Nat} (i : Nat) (hl : l.length < 1099511627776) : Tn 246 [.imm 1 (row l), .int .i64 i] = some (.int .u32 (l.getD i 0 : Nat), []) := by
 refine lvl_enter tab_eq rfl func246 rfl (by decide) (by kernel_rfl) (Nat.le_of_ble_eq_true rfl) (Nat.le_of_ble_eq_true rfl) rfl ?_
 refine zs0 ?_
 refine W.cond rfl (fun hc => ?_) (fun hc => ?_)
 ·have hc := of_decide_eq_true hc
  rw [row_len] at hc
  refine zs0 ?_
  have : l.getD i 0 = 0 := by rw [List.getD, List.getElem?_eq_none (by omega)]; rfl
  rw [this]
  rfl
 ·have hc := of_decide_eq_false hc
  rw [row_len] at hc
  have hg := row_get (l := l) (i := i) (by omega)
  refine zs0 ?_
  refine wI te rfl rfl rfl rfl rfl rfl (by omega) (hg) ?_
  refine zs0 ?_
  rfl
def restF (avs : List PV) : Option (PV × List (List PV)) :=
 match avs with
 | [.own (0, 0) 1 xs, .imm 1 ys] => match unrow xs, unrow ys with
  | some u, some v => if okL u = true ∧ okL v = true ∧ v.length ≤ u.length ∧ u.length ≤ 16777217 then
    some (.tup [], row (limbsN u.length ((lval u + lval v) % 1000000000 ^ u.length))) else none
  | _, _ => none
 | _ => none
def restI (u v : List Nat) (i c : Nat) (y : List Nat) : Prop :=
 i ≤ u.length ∧ y.length = u.length ∧ okL y = true ∧ y.drop i = u.drop i ∧ c ≤ 1 ∧ lval (y.take i) + c * 1000000000 ^ i = lval (u.take i) + lval (v.take i)
theorem rest_arith {L V U c p d x y c' : Nat} (h0 : L + c * p = U + V) (h : c' * 1000000000 + d = y + x + c) : L + p * d + c' * (p * 1000000000) = U + p * y + (V + p * x) := by
 have h1 : p * (c' * 1000000000 + d) = p * (y + x + c) := by rw [h]
 rw [Nat.mul_add, Nat.mul_add p (y + x) c, Nat.mul_add p y x] at h1
 rw [Nat.mul_left_comm c' p]
 rw [Nat.mul_comm c p] at h0
 omega
theorem restI_step {u v y : List Nat} {i c : Nat} (h : restI u v i c y) (hi : i < u.length) (ou : okL u = true) (ov : okL v = true) :
  restI u v (i + 1) ((u.getD i 0 + v.getD i 0 + c) / 1000000000) (y.set i ((u.getD i 0 + v.getD i 0 + c) % 1000000000)) := by
 obtain ⟨h1, h2, h3, h4, h5, h6⟩ := h
 have gu := okL_getD ou i
 have gv := okL_getD ov i
 refine ⟨hi, by simp [h2], okL_set h3 _ (Nat.mod_lt _ (by omega)), by rw [set_drop]; exact drop_succ h4, by omega, ?_⟩
 rw [set_take (by omega), lval_append, lval_step, lval_step, List.length_take, Nat.min_eq_left (by omega), Nat.pow_succ]
 simp only [lval, Nat.mul_zero, Nat.add_zero]
 exact rest_arith h6 (by omega)
theorem rest_meets : Meets prog 314 restF := by
 refine meetsW_of tab_eq mixed_ok Tn_meets func314 rfl (by decide) [] (fun b => VS :: lvF 314 b) NN rfl rfl (by kernel_rfl) ?_
 intro sz xs off len avs r new hF hfit hpos hmx hfl
 unfold restF at hF
 split at hF
 ·rename_i xs0 ys heq
  split at hF
  ·rename_i u v hu hv
   split at hF
   ·rename_i hc
    obtain ⟨ou, ov, lvu, lu⟩ := hc
    cases hF
    simp only [List.cons.injEq, PV.own.injEq, true_and] at heq
    obtain ⟨⟨rfl, hwin⟩, rfl⟩ := heq
    obtain rfl := row_unrow hv
    have hxs := row_unrow hu
    rw [← hwin] at hxs
    obtain ⟨pre, post, rfl, rfl, rfl, hnew⟩ := parts hxs hfit
    rw [hnew]
    clear hnew hxs hu hv hwin
    refine ⟨Nat.le_of_ble_eq_true rfl, rfl, ?_⟩
    show W _ _ _ _ _ _ _ (0, [(VS, _), (0, _), (1, _)]) _
    refine zs0 ?_
    refine W.loop (fun e m => ∃ (i c : Nat) (y : List Nat), e = [(VS, .own (0, 0) 1 (pre ++ row y ++ post)), (0, .snap VS none (0, 0) pre.length u.length), (1, .imm 1 (row v)), (4, .int .u32 c), (8, .int .i64 u.length), (9, .int .i64 i)] ∧
     restI u v i c y ∧ m = u.length - i) u.length ?_ ?_ ?_
    ·exact ⟨0, 0, u, rfl, ⟨by omega, rfl, ou, rfl, by omega, by simp [lval]⟩, by omega⟩
    ·show _ < 4611686018427387904; omega
    ·rintro e m ⟨i, c, y, rfl, hI, rfl⟩
     have hI2 := hI
     obtain ⟨hi, hlen, oy, hdr, hc, hv⟩ := hI2
     refine zs0 ?_
     refine W.cond rfl (fun hlt => ?_) (fun hlt => ?_)
     ·have hlt := of_decide_eq_true hlt
      have hy := getD_drop hdr
      have gu := okL_getD ou i
      have gv := okL_getD ov i
      have hst := restI_step hI (by omega) ou ov
      have gm := mid_get (pre := pre) (post := post) (x := y) (i := i) (by omega)
      rw [hy] at gm
      refine zd8 ?_
      refine wD te rfl rfl (by omega) ?_
      refine WX.ldElemD tab_eq rfl rfl rfl (by rw [Int.toNat_natCast]; exact gm) rfl rfl rfl rfl ?_
      refine zd0 ?_
      refine wG te rfl rfl rfl rfl rfl (at_Tn i (by omega)) rfl rfl ?_
      refine zd0 ?_
      refine WX.nilD (by kernel_rfl) ?_
      rw [wrap_u32 (x := ((u.getD i 0 : Nat) : Int) + ((v.getD i 0 : Nat) : Int)) (by omega) (by omega), wrap_u32 (x := ((u.getD i 0 : Nat) : Int) + ((v.getD i 0 : Nat) : Int) + c) (by omega) (by omega),
       show ((u.getD i 0 : Nat) : Int) + ((v.getD i 0 : Nat) : Int) + c = ((u.getD i 0 + v.getD i 0 + c : Nat) : Int) by omega]
      refine zs0 ?_
      rw [tmodB, tdivB, wrap_u32 (x := (((u.getD i 0 + v.getD i 0 + c) / 1000000000 : Nat) : Int)) (by omega) (by omega)]
      refine wS te rfl rfl (by omega) ?_
      refine WX.stElem tab_eq rfl rfl rfl (by rw [Int.toNat_natCast]; exact gm) rfl rfl rfl ?_
      refine zs0 ?_
      rw [Int.toNat_natCast, wrap_i64 (x := (i : Int) + 1) (by omega) (by omega)]
      show ∃ m', _
      refine ⟨u.length - (i + 1), by omega, i + 1, (u.getD i 0 + v.getD i 0 + c) / 1000000000, y.set i ((u.getD i 0 + v.getD i 0 + c) % 1000000000), ?_, hst, rfl⟩
      rw [mid_set (by omega)]; rfl
     ·have hlt := of_decide_eq_false hlt
      have hie : i = u.length := by omega
      subst hie
      rw [List.take_of_length_le (show y.length ≤ u.length by omega), List.take_of_length_le (show v.length ≤ u.length by omega), List.take_length] at hv
      have h1 := lval_lt oy
      rw [hlen] at h1
      have h2 : lval y = (lval u + lval v) % 1000000000 ^ u.length := by
       rw [← hv, Nat.add_mul_mod_self_right, Nat.mod_eq_of_lt h1]
      refine zs0 ?_
      show (∃ st, _) ∧ _
      refine ⟨⟨(0, 0), ?_⟩, rfl⟩
      rw [← h2, ← hlen, limbsN_lval oy]; rfl
   ·cases hF
  ·cases hF
 ·cases hF
theorem trim_meets : Meets prog 239 trimF := by
 refine meetsP_of mixed_ok noF_meets func239 rfl (by decide) [2] (fun b => VS :: lvF 239 b) NN rfl rfl rfl rfl (by kernel_rfl) ?_
 intro sz xs off len m hF hfit h0 hm hfl
 unfold trimF at hF
 split at hF
 ·rename_i xs0 heq
  split at hF
  ·rename_i l hl
   split at hF
   ·rename_i hc
    cases hF
    simp only [List.cons.injEq, PV.own.injEq, true_and, and_true] at heq
    obtain ⟨rfl, hwin⟩ := heq
    have hxs := row_unrow hl
    rw [← hwin] at hxs
    obtain ⟨pre, post, rfl, rfl, rfl, _⟩ := parts hxs hfit
    clear hxs hl hwin
    show W _ _ _ _ _ _ _ (0, [(VS, _), (0, _)]) _
    refine zs0 ?_
    refine W.loop (fun e m => ∃ (n : Nat), e = [(VS, .own (0, 0) 1 (pre ++ row l ++ post)), (0, .snap VS none (0, 0) pre.length l.length), (3, .int .i64 n)] ∧ n ≤ l.length ∧ trimL l l.length = trimL l n ∧ m = n) l.length ?_ ?_ ?_
    ·exact ⟨l.length, rfl, Nat.le_refl _, rfl, rfl⟩
    ·show _ < 4611686018427387904; omega
    ·rintro e m ⟨n, rfl, hn, ht, rfl⟩
     refine zs0 ?_
     refine WX.boolM rfl rfl (fun hb => ?_) (fun hb => ?_)
     ·have hb := of_decide_eq_true hb
      obtain ⟨j, rfl⟩ : ∃ j, m = j + 1 := ⟨m - 1, by omega⟩
      have gm := mid_get (pre := pre) (post := post) (x := l) (i := j) (by omega)
      refine zs0 ?_
      rw [wrap_i64 (x := ((j + 1 : Nat) : Int) - 1) (by omega) (by omega), show ((j + 1 : Nat) : Int) - 1 = (j : Int) by omega]
      refine wS te rfl rfl (by omega) ?_
      refine WX.ldElem tab_eq rfl rfl rfl (by rw [Int.toNat_natCast]; exact gm) rfl rfl rfl rfl ?_
      refine zs0 ?_
      refine W.cond rfl (fun hz => ?_) (fun hz => ?_)
      ·have hz : l.getD j 0 = 0 := by
        have : decide (((l.getD j 0 : Nat) : Int) = 0) = true := hz
        have := of_decide_eq_true this
        omega
       refine zs0 ?_
       rw [wrap_i64 (x := ((j + 1 : Nat) : Int) - 1) (by omega) (by omega), show ((j + 1 : Nat) : Int) - 1 = (j : Int) by omega]
       show ∃ m', _
       exact ⟨j, by omega, j, rfl, by omega, by rw [ht, trimL, if_pos hz], rfl⟩
      ·have hz : ¬ l.getD j 0 = 0 := by
        have : decide (((l.getD j 0 : Nat) : Int) = 0) = false := hz
        have := of_decide_eq_false this
        omega
       have ht2 : trimL l l.length = j + 1 := by rw [ht, trimL, if_neg hz]
       rw [ht2]
       refine zs0 ?_
       refine wS te rfl rfl (by omega) ?_
       refine zs0 ?_
       exact ⟨(0, 0), 2, rfl, rfl, rfl⟩
     ·have hb := of_decide_eq_false hb
      have : m = 0 := by omega
      subst this
      have ht2 : trimL l l.length = 0 := ht
      rw [ht2]
      refine zs0 ?_
      refine wS te rfl rfl (by omega) ?_
      refine zs0 ?_
      exact ⟨(0, 0), 2, rfl, rfl, rfl⟩
   ·cases hF
  ·cases hF
 ·cases hF
end Go.PE
namespace Go.PE
open Go.RowKit Go.Proofs.Tryz
set_option maxRecDepth 100000
variable {k : Nat}
theorem sub_T (a b : Nat) (ha : ln a < 549755813888) (hb : b ≤ a) : T (k + 2) 201 [.imm 1 (row (limbs a)), .imm 1 (row (limbs b))] = some (.own (0, 0) 1 (row (limbs (a - b))), []) := by
 have hln := ln_mono hb
 unfold ln at ha hln
 generalize hla : limbs a = la at ha hln
 generalize hlb : limbs b = lb at hln
 have oa : okL la = true := hla ▸ okL_limbs a
 have ob : okL lb = true := hlb ▸ okL_limbs b
 have va : lval la = a := hla ▸ lval_limbs a
 have vb : lval lb = b := hlb ▸ lval_limbs b
 refine enter rfl func201 rfl (by decide) (by kernel_rfl) rfl rfl ?_
 refine zs0 ?_
 refine wS te rfl rfl (by rw [row_len]; refine ⟨by omega, by omega, by omega, by omega⟩) ?_
 refine zs0 ?_
 rw [row_len]
 refine W.loop (fun e m => ∃ (i c : Nat) (out : List Nat), e = [(0, .imm 1 (row la)), (1, .imm 1 (row lb)), (5, .own (0, 0) 1 (row out)), (6, .int .i64 c), (13, .int .i64 la.length), (14, .int .i64 i)] ∧
  i ≤ la.length ∧ out.length = i ∧ okL out = true ∧ c ≤ 1 ∧ lval out + lval (lb.take i) = lval (la.take i) + c * 1000000000 ^ i ∧ m = la.length - i) la.length ?_ ?_ ?_
 ·exact ⟨0, 0, [], rfl, by omega, rfl, rfl, by omega, by simp [lval], by omega⟩
 ·show _ < 4611686018427387904; omega
 ·rintro e m ⟨i, c, out, rfl, hi, hlen, ho, hc, hv, rfl⟩
  refine zs0 ?_
  refine W.cond rfl (fun hlt => ?_) (fun hlt => ?_)
  ·have hlt := of_decide_eq_true hlt
   have hg := row_get (l := la) (i := i) (by omega)
   refine zd8 ?_
   refine WX.idxImmD tab_eq rfl rfl rfl rfl rfl rfl (by omega) (hg) ?_
   refine zd0 ?_
   refine wG te rfl rfl rfl rfl rfl (at_T i (by omega)) rfl rfl ?_
   refine zd0 ?_
   refine WX.nilD (by kernel_rfl) ?_
   have g1 := okL_getD oa i
   have g2 := okL_getD ob i
   generalize hx : la.getD i 0 = x at *
   generalize hy : lb.getD i 0 = y at *
   rw [wrap_i64 (x := (x : Int)) (by omega) (by omega), wrap_i64 (x := (y : Int)) (by omega) (by omega), wrap_i64 (x := (x : Int) - y) (by omega) (by omega), wrap_i64 (x := (x : Int) - y - c) (by omega) (by omega)]
   have gp : 1000000000 ^ (i + 1) = 1000000000 ^ i * 1000000000 := Nat.pow_succ ..
   refine zs0 ?_
   refine W.cond rfl (fun hneg => ?_) (fun hneg => ?_)
   ·have hneg := of_decide_eq_true hneg
    refine zs0 ?_
    rw [wrap_i64 (x := (x : Int) - y - c + 1000000000) (by omega) (by omega), show (x : Int) - y - c + 1000000000 = ((x + 1000000000 - y - c : Nat) : Int) by omega, wrap_u32 (by omega) (by omega)]
    refine wS te rfl rfl (by simp only [List.length_take, row_len, List.length_cons, List.length_nil]; omega) ?_
    rw [List.take_length, row_snoc]
    refine zs0 ?_
    rw [wrap_i64 (x := (i : Int) + 1) (by omega) (by omega)]
    show ∃ m', _
    refine ⟨la.length - (i + 1), by omega, i + 1, 1, out ++ [x + 1000000000 - y - c], rfl, by omega, by simp [hlen], ?_, by omega, ?_, rfl⟩
    ·rw [okL_append]; exact ⟨ho, by rw [okL_cons]; exact ⟨by omega, rfl⟩⟩
    ·rw [lval_append, lval_step, lval_step, hlen, gp, hx, hy]
     simp only [lval, Nat.mul_zero, Nat.add_zero, Nat.one_mul]
     generalize 1000000000 ^ i = p at *
     have h1 : p * (x + 1000000000 - y - c) + p * y + p * c = p * x + p * 1000000000 := by
      rw [← Nat.mul_add, ← Nat.mul_add, ← Nat.mul_add]; congr 1; omega
     rw [Nat.mul_comm c p] at hv
     omega
   ·have hneg := of_decide_eq_false hneg
    refine zs0 ?_
    rw [show (x : Int) - y - c = ((x - y - c : Nat) : Int) by omega, wrap_u32 (by omega) (by omega)]
    refine wS te rfl rfl (by simp only [List.length_take, row_len, List.length_cons, List.length_nil]; omega) ?_
    rw [List.take_length, row_snoc]
    refine zs0 ?_
    rw [wrap_i64 (x := (i : Int) + 1) (by omega) (by omega)]
    show ∃ m', _
    refine ⟨la.length - (i + 1), by omega, i + 1, 0, out ++ [x - y - c], rfl, by omega, by simp [hlen], ?_, by omega, ?_, rfl⟩
    ·rw [okL_append]; exact ⟨ho, by rw [okL_cons]; exact ⟨by omega, rfl⟩⟩
    ·rw [lval_append, lval_step, lval_step, hlen, gp, hx, hy]
     simp only [lval, Nat.mul_zero, Nat.add_zero, Nat.zero_mul]
     generalize 1000000000 ^ i = p at *
     have h1 : p * (x - y - c) + p * y + p * c = p * x := by
      rw [← Nat.mul_add, ← Nat.mul_add]; congr 1; omega
     rw [Nat.mul_comm c p] at hv
     omega
  ·have hlt := of_decide_eq_false hlt
   have hie : i = la.length := by omega
   subst hie
   refine zs0 ?_
   refine WX.callP rfl rfl rfl rfl rfl rfl rfl (row_sc _) (by have := trimL_le (out) (out).length; rw [row_len]; omega) (viaA (trim_X (l := out) (by first | omega | (simp <;> omega))) (by simp only [List.drop_zero, List.take_length])) ?_
   refine zs0 ?_
   have : lval out = a - b := by
    have h1 := lval_lt ho
    rw [hlen] at h1
    rw [lval_take_ge (by omega), lval_take_ge (by omega), va, vb] at hv
    have : c = 0 := by
     rcases Nat.lt_or_ge c 1 with h | h
     ·omega
     ·have : c = 1 := by omega
      subst this; omega
    subst this
    omega
   rw [Int.toNat_natCast, row_take, trim_limbs ho, this]
   rfl
theorem cmp_T (a b : Nat) (ha : ln a < 549755813888) (hb : ln b < 549755813888) : ∃ r : Int, T (k + 1) 200 [.imm 1 (row (limbs a)), .imm 1 (row (limbs b))] = some (.int .i64 r, []) ∧ (r < 0 ↔ a < b) ∧ (r = 0 ↔ a = b) := by
 by_cases hl : ln a = ln b
 ·have key : ∀ j, j ≤ ln a → (limbs a).drop j = (limbs b).drop j → ∃ r : Int, (∃ i, i < j ∧ r = ((limbs a).getD i 0 : Int) - (limbs b).getD i 0 ∧ r ≠ 0 ∧ (limbs a).drop (i + 1) = (limbs b).drop (i + 1)) ∨ (limbs a = limbs b ∧ r = 0) := by
   intro j
   induction j with
   | zero => intro _ h; simp only [List.drop_zero] at h; exact ⟨0, .inr ⟨h, rfl⟩⟩
   | succ j ih =>
    intro hj h
    by_cases he : (limbs a).getD j 0 = (limbs b).getD j 0
    ·have : (limbs a).drop j = (limbs b).drop j := by
      unfold ln at hj hl; rw [drop_getD (l := limbs a) (i := j) (by omega), drop_getD (l := limbs b) (i := j) (by omega), h, he]
     obtain ⟨r, h1 | h1⟩ := ih (by omega) this
     ·obtain ⟨i, h2, h3⟩ := h1
      exact ⟨r, .inl ⟨i, by omega, h3⟩⟩
     ·exact ⟨r, .inr h1⟩
    ·exact ⟨((limbs a).getD j 0 : Int) - (limbs b).getD j 0, .inl ⟨j, by omega, rfl, by omega, h⟩⟩
  obtain ⟨r, hr⟩ := key (ln a) (Nat.le_refl _) (by rw [List.drop_of_length_le (show (limbs a).length ≤ ln a from Nat.le_refl _), List.drop_of_length_le (show (limbs b).length ≤ ln a by unfold ln at hl ⊢; omega)])
  refine ⟨r, ?_, ?_⟩
  ·unfold ln at ha hb hl
   have oa := okL_limbs a
   have ob := okL_limbs b
   refine enter rfl func200 rfl (by decide) (by kernel_rfl) rfl rfl ?_
   refine zs0 ?_
   refine W.cond rfl (fun hne => ?_) (fun hne => ?_)
   ·have := of_decide_eq_true hne
    rw [row_len, row_len] at this
    omega
   ·clear hne
    refine zs0 ?_
    rw [row_len, wrap_i64 (x := ((limbs a).length : Int) - 1) (by omega) (by omega)]
    refine W.loop (fun e m => ∃ j : Nat, e = [(0, .imm 1 (row (limbs a))), (1, .imm 1 (row (limbs b))), (5, .int .i64 ((j : Int) - 1))] ∧ j ≤ (limbs a).length ∧ (limbs a).drop j = (limbs b).drop j ∧ m = j) (limbs a).length ?_ ?_ ?_
    ·exact ⟨(limbs a).length, rfl, by omega, by rw [List.drop_of_length_le (Nat.le_refl _), List.drop_of_length_le (by omega)], rfl⟩
    ·show _ < 4611686018427387904; omega
    ·rintro e m ⟨j, rfl, hj, hd, rfl⟩
     refine zs0 ?_
     refine W.cond rfl (fun hge => ?_) (fun hge => ?_)
     ·have hge := of_decide_eq_true hge
      obtain ⟨i, rfl⟩ : ∃ i, m = i + 1 := ⟨m - 1, by omega⟩
      rw [show ((i + 1 : Nat) : Int) - 1 = (i : Int) by omega]
      have g1 := row_get (l := limbs a) (i := i) (by omega)
      have g2 := row_get (l := limbs b) (i := i) (by omega)
      refine zd8 ?_
      refine WX.idxImmD tab_eq rfl rfl rfl rfl rfl rfl (by omega) (g1) ?_
      refine zd0 ?_
      refine WX.idxImmD tab_eq rfl rfl rfl rfl rfl rfl (by omega) (g2) ?_
      refine zd7 ?_
      refine W.cond rfl (fun hd2 => ?_) (fun hd2 => ?_)
      ·have hd2 := of_decide_eq_true hd2
       refine zd8 ?_
       refine WX.idxImmD tab_eq rfl rfl rfl rfl rfl rfl (by omega) (g1) ?_
       refine zd0 ?_
       refine WX.idxImmD tab_eq rfl rfl rfl rfl rfl rfl (by omega) (g2) ?_
       refine zd7 ?_
       have b1 := okL_getD oa i
       have b2 := okL_getD ob i
       have hd2 : ((limbs a).getD i 0 : Int) ≠ (limbs b).getD i 0 := hd2
       rw [wrap_i64 (x := ((limbs a).getD i 0 : Nat)) (by omega) (by omega), wrap_i64 (x := ((limbs b).getD i 0 : Nat)) (by omega) (by omega), wrap_i64 (by omega) (by omega)]
       have : r = ((limbs a).getD i 0 : Int) - (limbs b).getD i 0 := by
        rcases hr with ⟨i2, h1, h2, h3, h4⟩ | ⟨h1, _⟩
        ·rcases Nat.lt_trichotomy i2 i with h | h | h
         ·exfalso
          have e1 : (limbs a).getD i 0 = (limbs b).getD i 0 := by
           have := congrArg (fun l => l.getD (i - (i2 + 1)) 0) h4
           simpa [List.getD, List.getElem?_drop, show i2 + 1 + (i - (i2 + 1)) = i by omega] using this
          omega
         ·subst h; exact h2
         ·exfalso
          apply h3
          have e1 : (limbs a).getD i2 0 = (limbs b).getD i2 0 := by
           have := congrArg (fun l => l.getD (i2 - (i + 1)) 0) hd
           simpa [List.getD, List.getElem?_drop, show i + 1 + (i2 - (i + 1)) = i2 by omega] using this
          omega
        ·exfalso
         rw [h1] at hd2
         exact hd2 rfl
       rw [this]
       rfl
      ·have hd2 := of_decide_eq_false hd2
       have hd2 : (limbs a).getD i 0 = (limbs b).getD i 0 := by
        have : ¬ (((limbs a).getD i 0 : Nat) : Int) ≠ ((limbs b).getD i 0 : Nat) := hd2
        omega
       refine zs0 ?_
       rw [wrap_i64 (by omega) (by omega)]
       show ∃ m', _
       refine ⟨i, by omega, i, rfl, by omega, ?_, rfl⟩
       rw [drop_getD (l := limbs a) (i := i) (by omega), drop_getD (l := limbs b) (i := i) (by omega), hd, hd2]
     ·have hge := of_decide_eq_false hge
      have : m = 0 := by omega
      subst this
      refine zs0 ?_
      simp only [List.drop_zero] at hd
      have : r = 0 := by
       rcases hr with ⟨i2, h1, h2, h3, h4⟩ | ⟨_, h⟩
       ·exfalso; rw [hd] at h2; omega
       ·exact h
      rw [this]
      rfl
  ·rcases hr with ⟨i, h1, h2, h3, h4⟩ | ⟨h1, h2⟩
   ·have oa := okL_limbs a
    have ob := okL_limbs b
    have va := lval_limbs a
    have vb := lval_limbs b
    unfold ln at h1 hl
    rw [lval_take_drop (limbs a) i (by omega), drop_getD (by omega), lval, h4] at va
    rw [lval_take_drop (limbs b) i (by omega), drop_getD (by omega), lval] at vb
    have b1 := lval_lt (okL_take oa i)
    have b2 := lval_lt (okL_take ob i)
    rw [List.length_take, Nat.min_eq_left (by omega)] at b1 b2
    generalize (limbs a).getD i 0 = x at *
    generalize (limbs b).getD i 0 = y at *
    generalize lval ((limbs b).drop (i + 1)) = z at *
    generalize lval ((limbs a).take i) = ta at *
    generalize lval ((limbs b).take i) = tb at *
    generalize 1000000000 ^ i = p at *
    have e1 : p * (x + 1000000000 * z) = p * x + p * (1000000000 * z) := Nat.mul_add ..
    have e2 : p * (y + 1000000000 * z) = p * y + p * (1000000000 * z) := Nat.mul_add ..
    rcases Nat.lt_trichotomy x y with h | h | h
    ·have := Nat.mul_le_mul_left p (show x + 1 ≤ y by omega)
     rw [Nat.mul_add, Nat.mul_one] at this
     exact ⟨⟨fun _ => by omega, fun _ => by omega⟩, ⟨fun _ => by omega, fun _ => by omega⟩⟩
    ·omega
    ·have := Nat.mul_le_mul_left p (show y + 1 ≤ x by omega)
     rw [Nat.mul_add, Nat.mul_one] at this
     exact ⟨⟨fun _ => by omega, fun _ => by omega⟩, ⟨fun _ => by omega, fun _ => by omega⟩⟩
   ·have : a = b := by rw [← lval_limbs a, h1, lval_limbs]
    subst this h2
    simp
 ·refine ⟨(ln a : Int) - ln b, ?_, ?_, ?_⟩
  ·refine enter rfl func200 rfl (by decide) (by kernel_rfl) rfl rfl ?_
   refine zs0 ?_
   refine W.cond rfl (fun hne => ?_) (fun hne => ?_)
   ·refine zs0 ?_
    rw [row_len, row_len, wrap_i64 (by unfold ln at ha hb; omega) (by unfold ln at ha hb; omega)]
    rfl
   ·have := of_decide_eq_false hne
    rw [row_len, row_len] at this
    unfold ln at hl
    omega
  ·constructor
   ·intro h; exact lt_of_ln_lt (by omega)
   ·intro h
    have := ln_mono (Nat.le_of_lt h)
    omega
  ·constructor
   ·intro h; omega
   ·intro h; subst h; omega
end Go.PE
