/-
  A part of the proof that the law's function returns true and leaves its arguments as they were, for every input (no condition): own lemmas of the proof, in the order of their use.
-/
import Derived.Test.YtggpmnlmbfogeaaGreatDoorX24
set_option linter.all false
namespace Go.PE
open Go.RowKit Go.Proofs.Tryz
set_option maxRecDepth 100000
variable {k : Nat}
theorem text_T (n : Nat) (h : ln n ≤ 16777216) : T k 190 [.imm 1 (row (limbs n))] = some (.str (dec n), []) := by
 refine byX ?_
 show textF [.imm 1 (row (limbs n))] = _
 unfold textF
 simp only [unrow_row]
 rw [if_pos ⟨canonL_limbs n, h⟩, lval_limbs, decN_eq]
theorem fmt_T (n : Int) (h0 : -9223372036854775808 ≤ n) (h1 : n ≤ 9223372036854775807) : T (k + 1) 187 [.int .i64 n, .int .i64 10] = some (.str (rs n), []) := by
 have e : rs (n : Rat) = (if n < 0 then 45 :: decN n.natAbs else decN n.toNat) := by
  unfold rs qt
  have e1 : (n : Rat).num = n := rfl
  have e2 : (n : Rat).den = 1 := rfl
  rw [e1, e2]
  by_cases hn : n < 0
  ·have : n.natAbs ≠ 0 := by omega
   simp [hn, this, decN_eq]
  ·have : n.toNat = n.natAbs := by omega
   simp [hn, this, decN_eq]
 have hx : T k 237 [.int .i64 n, .int .i64 10] = some (.str (rs n), []) := by
  refine byX ?_
  show fmtIntF [.int .i64 n, .int .i64 10] = _
  unfold fmtIntF
  simp only
  rw [if_pos ⟨h0, h1⟩, e]
 refine enter rfl func187 rfl (by decide) (by kernel_rfl) rfl rfl ?_
 refine zs1 hx ?_
 rfl
theorem lowest_T (neg : Bool) (n d : Nat) (hn : ln n < 16777216) (hd : ln d < 16777216) (h0 : d ≠ 0) :
  T (k + 5) 188 [.bool neg, .imm 1 (row (limbs n)), .imm 1 (row (limbs d))] = some (.agg [.bool neg, .imm 1 (row (limbs (n / n.gcd d))), .imm 1 (row (limbs (d / n.gcd d)))], []) := by
 have g0 : n.gcd d ≠ 0 := by have := Nat.gcd_pos_of_pos_right n (show 0 < d by omega); omega
 have hg : ln (n.gcd d) < 16777216 := by have := ln_mono (Nat.gcd_le_right n (show 0 < d by omega)); omega
 refine enter rfl func188 rfl (by decide) (by kernel_rfl) rfl rfl ?_
 refine zs1 (gcd_T (k := k) n d hn hd) ?_
 refine zs2 (one_T (k := k + 3) (n.gcd d)) ?_
 refine W.cond rfl (fun b1 => ?_) (fun b1 => ?_)
 ·refine zs1 (quoRem_T (k := k + 1) n (n.gcd d) hn hg g0) ?_
  refine zs2 (quoRem_T (k := k + 1) d (n.gcd d) hd hg g0) ?_
  refine WX.moveB rfl rfl ?_
  refine zs0 ?_
  rfl
 ·have b1 : n.gcd d = 1 := by simpa using b1
  refine zs0 ?_
  refine WX.moveB rfl rfl ?_
  refine zs0 ?_
  rw [b1, Nat.div_one, Nat.div_one]
  rfl
theorem ln_dec (n : Nat) : ln n ≤ (dec n).length := by
 refine ln_le ?_
 have h := dec_lt_pow n
 have h2 : 10 ^ (dec n).length ≤ 1000000000 ^ (dec n).length := Nat.pow_le_pow_left (by omega) _
 omega
theorem ratText_T (neg : Bool) (n d : Nat) (hn : (dec n).length ≤ 16777216) (hd : (dec d).length ≤ 16777216) :
  T (k + 2) 105 [.agg [.bool neg, .imm 1 (row (limbs n)), .imm 1 (row (limbs d))]] = some (.str (qt neg n d), []) := by
 have t1 := text_T (k := k + 1) n (Nat.le_trans (ln_dec n) hn)
 have t2 := text_T (k := k + 1) d (Nat.le_trans (ln_dec d) hd)
 have t3 := one_T (k := k) d
 refine enter rfl func105 rfl (by decide) (by kernel_rfl) rfl rfl ?_
 refine zs1 t1 ?_
 cases neg
 ·refine zs1 t3 ?_
  refine W.cond rfl (fun b1 => ?_) (fun b1 => ?_)
  ·have b1 : ¬ d = 1 := by simpa using b1
   refine zs1 t2 ?_
   refine wS te rfl rfl (by simp; omega) ?_
   refine zs0 ?_
   refine wS te rfl rfl (by simp; omega) ?_
   refine zs0 ?_
   unfold qt
   rw [if_neg b1]
   rfl
  ·have b1 : d = 1 := by simpa using b1
   refine zs0 ?_
   unfold qt
   rw [if_pos b1, List.append_nil]
   rfl
 ·refine zs0 ?_
  refine W.cond rfl (fun b0 => ?_) (fun b0 => ?_)
  ·have b0 : 0 < n := by
    have b0 := of_decide_eq_true b0
    rw [row_len] at b0
    exact Nat.pos_of_ne_zero fun h => by subst h; rw [limbs_zero] at b0; simp at b0
   have hz : (n != 0) = true := by simp; omega
   refine zs0 ?_
   refine wS te rfl rfl (by simp; omega) ?_
   refine zs1 t3 ?_
   refine W.cond rfl (fun b1 => ?_) (fun b1 => ?_)
   ·have b1 : ¬ d = 1 := by simpa using b1
    refine zs1 t2 ?_
    refine wS te rfl rfl (by simp; omega) ?_
    refine zs0 ?_
    refine wS te rfl rfl (by simp; omega) ?_
    refine zs0 ?_
    unfold qt
    rw [if_neg b1, hz]
    rfl
   ·have b1 : d = 1 := by simpa using b1
    refine zs0 ?_
    unfold qt
    rw [if_pos b1, hz, List.append_nil]
    rfl
  ·have b0 : n = 0 := by
    have b0 := of_decide_eq_false b0
    rw [row_len] at b0
    have : (limbs n).length = 0 := by omega
    exact limbs_eq_nil.1 (List.length_eq_zero_iff.1 this)
   subst b0
   refine zs1 t3 ?_
   refine W.cond rfl (fun b1 => ?_) (fun b1 => ?_)
   ·have b1 : ¬ d = 1 := by simpa using b1
    refine zs1 t2 ?_
    refine wS te rfl rfl (by simp; omega) ?_
    refine zs0 ?_
    refine wS te rfl rfl (by simp; omega) ?_
    refine zs0 ?_
    unfold qt
    rw [if_neg b1]
    rfl
   ·have b1 : d = 1 := by simpa using b1
    refine zs0 ?_
    unfold qt
    rw [if_pos b1, List.append_nil]
    rfl
end Go.PE
namespace Go.PE
open Go.RowKit Go.Proofs.Tryz
set_option maxRecDepth 100000
variable {k : Nat}
def ratV (neg : Bool) (n d : Nat) : PV := .agg [.bool neg, .imm 1 (row (limbs n)), .imm 1 (row (limbs d))]
theorem ratMul_T (x y : Bool) (n d m e : Nat) (hn : ln n < 8388608) (hd : ln d < 8388608) (hm : ln m < 8388608) (he : ln e < 8388608) (d0 : d * e ≠ 0) :
  T (k + 6) 104 [ratV x n d, ratV y m e] = some (ratV (!(x == y)) (n * m / (n * m).gcd (d * e)) (d * e / (n * m).gcd (d * e)), []) := by
 have m1 := mul_T (k := k + 3) n m (by omega) (by omega)
 have m2 := mul_T (k := k + 3) d e (by omega) (by omega)
 have l1 := ln_mul n m
 have l2 := ln_mul d e
 have hl := lowest_T (k := k) (!(x == y)) (n * m) (d * e) (by omega) (by omega) d0
 refine enter rfl func104 rfl (by decide) (by kernel_rfl) rfl rfl ?_
 refine zd8 ?_
 refine zd4 m1 ?_
 refine zd4 m2 ?_
 refine zd5 hl ?_
 rfl
end Go.PE
namespace Go.PE
open Go.RowKit Go.Proofs.Tryz
set_option maxRecDepth 100000
variable {k : Nat}
theorem rs_int (n : Int) : rs (n : Rat) = qt (decide (n < 0)) n.natAbs 1 := rfl
theorem rs_nat (n : Nat) : rs ((n : Int) : Rat) = dec n := by
 rw [rs_int]; unfold qt
 have h : ¬ ((n : Int) < 0) := by omega
 simp [h]
theorem frac_rs (n : Int) (d : Nat) (hd : 0 < d) :
  rs (Rat.divInt n d) = rs ((n.tdiv (n.natAbs.gcd d : Nat) : Int) : Rat) ++ (if 1 < d / n.natAbs.gcd d then 47 :: dec (d / n.natAbs.gcd d) else []) := by
 have hs : sg (decide (n < 0)) n.natAbs = n := by unfold sg; by_cases h : n < 0 <;> simp [h] <;> omega
 have e1 : Rat.divInt n d = mkRat (sg (decide (n < 0)) n.natAbs) d := by rw [hs]; rfl
 rw [e1, rs_mkRat _ _ _ (by omega), rs_int]
 generalize hg : n.natAbs.gcd d = g
 have g0 : 0 < g := by rw [← hg]; exact Nat.gcd_pos_of_pos_right _ hd
 have gn : g ∣ n.natAbs := hg ▸ Nat.gcd_dvd_left _ _
 have gd : g ∣ d := hg ▸ Nat.gcd_dvd_right _ _
 have hq : (n.tdiv (g : Int)).natAbs = n.natAbs / g := by rw [Int.natAbs_tdiv, Int.natAbs_natCast]; rfl
 have h1 : 0 < d / g := Nat.div_pos (Nat.le_of_dvd hd gd) g0
 have hneg : n.natAbs / g ≠ 0 → (decide (n < 0)) = decide (n.tdiv (g : Int) < 0) := by
  intro h
  have hm := Int.tdiv_mul_cancel (a := n) (b := (g : Int)) (Int.ofNat_dvd_left.2 gn)
  by_cases hn : n < 0
  ·have : n.tdiv (g : Int) < 0 := by
    apply Int.lt_of_not_ge; intro hge
    have := Int.mul_nonneg hge (show (0 : Int) ≤ g by omega); omega
   simp [hn, this]
  ·have : ¬ n.tdiv (g : Int) < 0 := by
    intro hlt
    have := Int.mul_neg_of_neg_of_pos hlt (show (0 : Int) < g by omega); omega
   simp [hn, this]
 rw [hq, qt_congr hneg]
 unfold qt
 by_cases h2 : d / g = 1
 ·rw [show (if d / g = 1 then ([] : Bs) else 47 :: dec (d / g)) = [] from if_pos h2, show (if 1 < d / g then 47 :: dec (d / g) else ([] : Bs)) = [] from if_neg (by omega), show (if (1 : Nat) = 1 then ([] : Bs) else 47 :: dec 1) = [] from if_pos rfl, List.append_nil, List.append_nil]
 ·rw [show (if d / g = 1 then ([] : Bs) else 47 :: dec (d / g)) = 47 :: dec (d / g) from if_neg h2, show (if 1 < d / g then 47 :: dec (d / g) else ([] : Bs)) = 47 :: dec (d / g) from if_pos (by omega), show (if (1 : Nat) = 1 then ([] : Bs) else 47 :: dec 1) = [] from if_pos rfl, List.append_nil]
theorem fraction1_T (n : Int) (d : Nat) (hn0 : -4000000000000000000 ≤ n) (hn1 : n ≤ 4000000000000000000) (hd0 : 0 < d) (hd1 : d ≤ 4000000000000000000) :
  T (k + 3) 102 [.int .i64 n, .int .i64 d] = some (.str (rs (Rat.divInt n d)), []) := by
 have e1 : IntKind.i64.wrap (0 - n) = -n := by rw [wrap_i64 (x := 0 - n) (by omega) (by omega)]; omega
 have e2 : max n (IntKind.i64.wrap (0 - n)) = ((n.natAbs : Nat) : Int) := by rw [e1]; omega
 have hg : T (k + 2) 186 [.int .i64 (max n (IntKind.i64.wrap (0 - n))), .int .i64 d] = some (.int .i64 (Nat.gcd n.natAbs d : Nat), []) := by
  rw [e2]
  exact divisor_T (k := k + 1) _ _ (by omega) (by omega)
 have g0 : 0 < n.natAbs.gcd d := Nat.gcd_pos_of_pos_right _ hd0
 have f := frac_rs n d hd0
 have q1 : (n.tdiv (n.natAbs.gcd d : Nat)).natAbs ≤ n.natAbs := by rw [Int.natAbs_tdiv]; exact Nat.div_le_self _ _
 have q2 : ((d : Int).tdiv (n.natAbs.gcd d : Nat)) = ((d / n.natAbs.gcd d : Nat) : Int) := by rw [Int.ofNat_tdiv]
 have q3 := Nat.div_le_self d (n.natAbs.gcd d)
 have f1 : T (k + 2) 187 [.int .i64 (IntKind.i64.wrap (n.tdiv (n.natAbs.gcd d : Nat))), .int .i64 10] = some (.str (rs ((n.tdiv (n.natAbs.gcd d : Nat) : Int) : Rat)), []) := by
  generalize n.tdiv (n.natAbs.gcd d : Nat) = q at q1
  rw [wrap_i64 (by omega) (by omega)]; exact fmt_T (k := k + 1) _ (by omega) (by omega)
 have l4 : (rs ((n.tdiv (n.natAbs.gcd d : Nat) : Int) : Rat)).length ≤ 40 := by
  rw [rs_int]
  generalize n.tdiv (n.natAbs.gcd d : Nat) = q at q1
  have l2 : (dec q.natAbs).length ≤ 19 := dec_len_le (by omega) (by omega)
  unfold qt
  rw [List.length_append, List.length_append]
  split <;> simp <;> omega
 refine enter rfl func102 rfl (by decide) (by kernel_rfl) rfl rfl ?_
 refine zs1 hg ?_
 refine zd0 ?_
 refine wD te rfl rfl (by omega) ?_
 refine zd0 ?_
 refine wD te rfl rfl (by omega) ?_
 refine zd7 ?_
 refine zs2 f1 ?_
 generalize hc : d / n.natAbs.gcd d = c at f q2 q3
 have w2 : IntKind.i64.wrap ((d : Int).tdiv (n.natAbs.gcd d : Nat)) = (c : Int) := by rw [q2]; exact wrap_i64 (by omega) (by omega)
 have f2 : T (k + 2) 187 [.int .i64 (IntKind.i64.wrap ((d : Int).tdiv (n.natAbs.gcd d : Nat))), .int .i64 10] = some (.str (dec c), []) := by
  rw [w2, ← rs_nat]; exact fmt_T (k := k + 1) _ (by omega) (by omega)
 have l3 : (dec c).length ≤ 19 := dec_len_le (by omega) (by omega)
 refine W.cond rfl (fun b2 => ?_) (fun b2 => ?_)
 ·have b2 := of_decide_eq_true b2
  rw [w2] at b2
  refine zs1 f2 ?_
  refine wS te rfl rfl (by simp; omega) ?_
  refine zs0 ?_
  refine wS te rfl rfl (by simp; omega) ?_
  refine zs0 ?_
  rw [f, if_pos (by omega)]
  rfl
 ·have b2 := of_decide_eq_false b2
  rw [w2] at b2
  refine zs0 ?_
  rw [f, if_neg (by omega), List.append_nil]
  rfl
theorem fraction2_T (n : Int) (d : Nat) (hn0 : -4000000000000000000 ≤ n) (hn1 : n ≤ 4000000000000000000) (hd0 : 0 < d) (hd1 : d ≤ 4000000000000000000) :
  T (k + 3) 102 [.int .i64 (-n), .int .i64 (-(d : Int))] = some (.str (rs (Rat.divInt n d)), []) := by
 have e1 : IntKind.i64.wrap (0 - n) = -n := by rw [wrap_i64 (x := 0 - n) (by omega) (by omega)]; omega
 have e2 : max n (IntKind.i64.wrap (0 - n)) = ((n.natAbs : Nat) : Int) := by rw [e1]; omega
 have hg : T (k + 2) 186 [.int .i64 (max n (IntKind.i64.wrap (0 - n))), .int .i64 d] = some (.int .i64 (Nat.gcd n.natAbs d : Nat), []) := by
  rw [e2]
  exact divisor_T (k := k + 1) _ _ (by omega) (by omega)
 have g0 : 0 < n.natAbs.gcd d := Nat.gcd_pos_of_pos_right _ hd0
 have f := frac_rs n d hd0
 have q1 : (n.tdiv (n.natAbs.gcd d : Nat)).natAbs ≤ n.natAbs := by rw [Int.natAbs_tdiv]; exact Nat.div_le_self _ _
 have q2 : ((d : Int).tdiv (n.natAbs.gcd d : Nat)) = ((d / n.natAbs.gcd d : Nat) : Int) := by rw [Int.ofNat_tdiv]
 have q3 := Nat.div_le_self d (n.natAbs.gcd d)
 have f1 : T (k + 2) 187 [.int .i64 (IntKind.i64.wrap (n.tdiv (n.natAbs.gcd d : Nat))), .int .i64 10] = some (.str (rs ((n.tdiv (n.natAbs.gcd d : Nat) : Int) : Rat)), []) := by
  generalize n.tdiv (n.natAbs.gcd d : Nat) = q at q1
  rw [wrap_i64 (by omega) (by omega)]; exact fmt_T (k := k + 1) _ (by omega) (by omega)
 have l4 : (rs ((n.tdiv (n.natAbs.gcd d : Nat) : Int) : Rat)).length ≤ 40 := by
  rw [rs_int]
  generalize n.tdiv (n.natAbs.gcd d : Nat) = q at q1
  have l2 : (dec q.natAbs).length ≤ 19 := dec_len_le (by omega) (by omega)
  unfold qt
  rw [List.length_append, List.length_append]
  split <;> simp <;> omega
 have ea : IntKind.i64.wrap (0 - -n) = n := by rw [wrap_i64 (x := 0 - -n) (by omega) (by omega)]; omega
 have eb : IntKind.i64.wrap (0 - -(d : Int)) = d := by rw [wrap_i64 (x := 0 - -(d : Int)) (by omega) (by omega)]; omega
 refine enter rfl func102 rfl (by decide) (by kernel_rfl) rfl rfl ?_
 refine zs0 ?_
 refine W.cond rfl (fun b1 => ?_) (fun b1 => ?_)
 case refine_2 => have b1 := of_decide_eq_false b1; omega
 refine zs0 ?_
 rw [ea, eb]
 refine zs2 hg ?_
 refine zd0 ?_
 refine wD te rfl rfl (by omega) ?_
 refine zd0 ?_
 refine wD te rfl rfl (by omega) ?_
 refine zd7 ?_
 refine zs2 f1 ?_
 generalize hc : d / n.natAbs.gcd d = c at f q2 q3
 have w2 : IntKind.i64.wrap ((d : Int).tdiv (n.natAbs.gcd d : Nat)) = (c : Int) := by rw [q2]; exact wrap_i64 (by omega) (by omega)
 have f2 : T (k + 2) 187 [.int .i64 (IntKind.i64.wrap ((d : Int).tdiv (n.natAbs.gcd d : Nat))), .int .i64 10] = some (.str (dec c), []) := by
  rw [w2, ← rs_nat]; exact fmt_T (k := k + 1) _ (by omega) (by omega)
 have l3 : (dec c).length ≤ 19 := dec_len_le (by omega) (by omega)
 refine W.cond rfl (fun b2 => ?_) (fun b2 => ?_)
 ·have b2 := of_decide_eq_true b2
  rw [w2] at b2
  refine zs1 f2 ?_
  refine wS te rfl rfl (by simp; omega) ?_
  refine zs0 ?_
  refine wS te rfl rfl (by simp; omega) ?_
  refine zs0 ?_
  rw [f, if_pos (by omega)]
  rfl
 ·have b2 := of_decide_eq_false b2
  rw [w2] at b2
  refine zs0 ?_
  rw [f, if_neg (by omega), List.append_nil]
  rfl
end Go.PE
namespace Go.PE
open Go.RowKit Go.Proofs.Tryz
set_option maxRecDepth 100000
variable {k : Nat}
theorem rdV_rs (q : Rat) : rdV (rs q) = some (q.num.natAbs, q.den) := by
 unfold rdV rdP
 rw [cutM_rs]
 simp only [cutS_dec, dec_numeral, Bool.true_eq_false, if_false, val_dec]
 have hz : dec q.num.natAbs = [48] ↔ q.num = 0 := by
  rw [← dec_zero]; exact ⟨fun e => by have := dec_inj e; omega, fun e => by rw [e]; rfl⟩
 have hden : q.num = 0 → q.den = 1 := fun h => by
  have := q.reduced
  rw [h] at this
  simpa [Nat.Coprime] using this
 rw [if_neg (by
  rintro ⟨h, h2⟩
  have h0 := hz.1 h
  have h1 := hden h0
  rcases h2 with h2 | h2
  ·have := of_decide_eq_true h2; omega
  ·exact of_decide_eq_true h2 h1)]
 by_cases hd : q.den = 1
 ·simp [hd]
 ·have h2 : 2 ≤ q.den := by have := q.den_pos; omega
  have n0 : dec q.den ≠ [48] := by rw [← dec_zero]; intro e; have := dec_inj e; omega
  have n1 : dec q.den ≠ [49] := by
   intro e
   have := congrArg val e
   rw [val_dec] at this
   have h3 : val [49] = 1 := by decide
   omega
  simp [hd, n0, n1, dec_numeral, val_dec]
def ratQ (q : Rat) : PV := ratV (decide (q.num < 0)) q.num.natAbs q.den
theorem readQ_T (q : Rat) (h : (rs q).length < 150994900) : T (k + 5) 164 [.str (rs q)] = some (.tup [ratQ q, .bool true], []) := by
 rw [read_T _ h, rdV_rs, cutM_rs]
 simp only [rdO]
 rw [decide_eq_true q.reduced]
 rfl
theorem two_T (p q r : Rat) (f g : FuncId) (hfg : (f = 101 ∧ g = 103) ∨ (f = 193 ∧ g = 194) ∨ (f = 124 ∧ g = 125)) (hp : (rs p).length < 150994900) (hq : (rs q).length < 150994900)
  (hs : (smV (rs p)).2.2 = true → (smV (rs q)).2.2 = true → T (k + 5) f [.agg [.int .i64 (smV (rs p)).1, .int .i64 (smV (rs p)).2.1], .agg [.int .i64 (smV (rs q)).1, .int .i64 (smV (rs q)).2.1]] = some (.str (rs r), []))
  (ha : T (k + 5) g [ratQ p, ratQ q] = some (.str (rs r), [])) :
  T (k + 6) 100 [.str (rs p), .str (rs q), .func f [], .func g []] = some (.str (rs r), []) := by
 have s1 := smallOf_T (k := k) (rs p) (by omega)
 have s2 := smallOf_T (k := k) (rs q) (by omega)
 have r1 := readQ_T (k := k) p hp
 have r2 := readQ_T (k := k) q hq
 refine enter rfl func100 rfl (by decide) (by kernel_rfl) rfl rfl ?_
 refine zs1 s1 ?_
 refine zs2 s2 ?_
 refine WX.boolM rfl rfl (fun b1 => ?_) (fun b1 => ?_)
 ·refine zs0 ?_
  refine WX.boolM rfl rfl (fun b2 => ?_) (fun b2 => ?_)
  ·refine zs0 ?_
   rcases hfg with ⟨rfl, rfl⟩ | ⟨rfl, rfl⟩ | ⟨rfl, rfl⟩
   all_goals
    refine zs2 (hs b1 b2) ?_
    rfl
  ·refine zs1 r1 ?_
   refine zs2 r2 ?_
   rcases hfg with ⟨rfl, rfl⟩ | ⟨rfl, rfl⟩ | ⟨rfl, rfl⟩
   all_goals
    refine zs2 ha ?_
    rfl
 ·refine zs1 r1 ?_
  refine zs2 r2 ?_
  rcases hfg with ⟨rfl, rfl⟩ | ⟨rfl, rfl⟩ | ⟨rfl, rfl⟩
  all_goals
   refine zs2 ha ?_
   rfl
end Go.PE
namespace Go.PE
open Go.RowKit Go.Proofs.Tryz
set_option maxRecDepth 100000
variable {k : Nat}
theorem fraction_T (n d : Int) (hn : n.natAbs ≤ 4000000000000000000) (hd0 : d ≠ 0) (hd : d.natAbs ≤ 4000000000000000000) :
  T (k + 3) 102 [.int .i64 n, .int .i64 d] = some (.str (rs (Rat.divInt n d)), []) := by
 by_cases h : 0 < d
 ·obtain ⟨e, rfl⟩ : ∃ e : Nat, d = e := ⟨d.toNat, by omega⟩
  exact fraction1_T n e (by omega) (by omega) (by omega) (by omega)
 ·obtain ⟨e, rfl⟩ : ∃ e : Nat, d = -(e : Int) := ⟨d.natAbs, by omega⟩
  have := fraction2_T (k := k) (-n) e (by omega) (by omega) (by omega) (by omega)
  rw [Int.neg_neg] at this
  rw [this, ← Rat.neg_divInt_neg (-n), Int.neg_neg]
theorem mulB {a b : Int} (ha : a.natAbs < 1000000000) (hb : b.natAbs < 1000000000) : (a * b).natAbs < 1000000000000000000 := by
 rw [Int.natAbs_mul]
 exact Nat.lt_of_lt_of_le (Nat.mul_lt_mul'' ha hb) (by decide)
theorem wrapB {a : Int} (h : a.natAbs < 9000000000000000000) : IntKind.i64.wrap a = a := wrap_i64 (by omega) (by omega)
theorem mulS_T (n d m e : Int) (hn : n.natAbs < 1000000000) (hd : d.natAbs < 1000000000) (hm : m.natAbs < 1000000000) (he : e.natAbs < 1000000000) (d0 : d ≠ 0) (e0 : e ≠ 0) :
  T (k + 4) 101 [.agg [.int .i64 n, .int .i64 d], .agg [.int .i64 m, .int .i64 e]] = some (.str (rs (Rat.divInt n d * Rat.divInt m e)), []) := by
 have b1 := mulB hn hm
 have b2 := mulB hd he
 have hf : T (k + 3) 102 [.int .i64 (IntKind.i64.wrap (n * m)), .int .i64 (IntKind.i64.wrap (d * e))] = some (.str (rs (Rat.divInt n d * Rat.divInt m e)), []) := by
  rw [wrapB (by omega), wrapB (by omega), fraction_T _ _ (by omega) (Int.mul_ne_zero d0 e0) (by omega), Rat.divInt_mul_divInt]
 refine enter rfl func101 rfl (by decide) (by kernel_rfl) rfl rfl ?_
 refine zs1 hf ?_
 rfl
theorem divS_T (n d m e : Int) (hn : n.natAbs < 1000000000) (hd : d.natAbs < 1000000000) (hm : m.natAbs < 1000000000) (he : e.natAbs < 1000000000) (d0 : d ≠ 0) (m0 : m ≠ 0) :
  T (k + 4) 193 [.agg [.int .i64 n, .int .i64 d], .agg [.int .i64 m, .int .i64 e]] = some (.str (rs (Rat.divInt n d / Rat.divInt m e)), []) := by
 have b1 := mulB hn he
 have b2 := mulB hd hm
 have hf : T (k + 3) 102 [.int .i64 (IntKind.i64.wrap (n * e)), .int .i64 (IntKind.i64.wrap (d * m))] = some (.str (rs (Rat.divInt n d / Rat.divInt m e)), []) := by
  rw [wrapB (by omega), wrapB (by omega), fraction_T _ _ (by omega) (Int.mul_ne_zero d0 m0) (by omega), Rat.div_def, Rat.inv_divInt, Rat.divInt_mul_divInt]
 refine enter rfl func193 rfl (by decide) (by kernel_rfl) rfl rfl ?_
 refine zs1 hf ?_
 rfl
theorem addS_T (n d m e : Int) (hn : n.natAbs < 1000000000) (hd : d.natAbs < 1000000000) (hm : m.natAbs < 1000000000) (he : e.natAbs < 1000000000) (d0 : d ≠ 0) (e0 : e ≠ 0) :
  T (k + 4) 124 [.agg [.int .i64 n, .int .i64 d], .agg [.int .i64 m, .int .i64 e]] = some (.str (rs (Rat.divInt n d + Rat.divInt m e)), []) := by
 have b1 := mulB hn he
 have b2 := mulB hm hd
 have b3 := mulB hd he
 have hf : T (k + 3) 102 [.int .i64 (IntKind.i64.wrap (IntKind.i64.wrap (n * e) + IntKind.i64.wrap (m * d))), .int .i64 (IntKind.i64.wrap (d * e))] = some (.str (rs (Rat.divInt n d + Rat.divInt m e)), []) := by
  rw [wrapB (a := n * e) (by omega), wrapB (a := m * d) (by omega), wrapB (a := n * e + m * d) (by omega), wrapB (by omega), fraction_T _ _ (by omega) (Int.mul_ne_zero d0 e0) (by omega), Rat.divInt_add_divInt _ _ d0 e0]
 refine enter rfl func124 rfl (by decide) (by kernel_rfl) rfl rfl ?_
 refine zs1 hf ?_
 rfl
def szQ (q : Rat) (L : Nat) : Prop := (dec q.num.natAbs).length ≤ L ∧ (dec q.den).length ≤ L
theorem szQ.mono {q : Rat} {L M : Nat} (h : szQ q L) (hl : L ≤ M) : szQ q M := ⟨Nat.le_trans h.1 hl, Nat.le_trans h.2 hl⟩
theorem szQ.len {q : Rat} {L : Nat} (h : szQ q L) : (rs q).length ≤ 2 * L + 2 := by
 have := rs_len q; unfold szQ at h; omega
theorem mulL_T (p q : Rat) {L : Nat} (hp : szQ p L) (hq : szQ q L) (hL : L ≤ 4000000) : T (k + 7) 103 [ratQ p, ratQ q] = some (.str (rs (p * q)), []) := by
 have d0 : p.den * q.den ≠ 0 := Nat.mul_ne_zero p.den_nz q.den_nz
 have a1 := ln_dec p.num.natAbs
 have a2 := ln_dec p.den
 have a3 := ln_dec q.num.natAbs
 have a4 := ln_dec q.den
 have l1 := dec_mul_len p.num.natAbs q.num.natAbs
 have l2 := dec_mul_len p.den q.den
 have l3 := dec_len_mono (Nat.div_le_self (p.num.natAbs * q.num.natAbs) ((p.num.natAbs * q.num.natAbs).gcd (p.den * q.den)))
 have l4 := dec_len_mono (Nat.div_le_self (p.den * q.den) ((p.num.natAbs * q.num.natAbs).gcd (p.den * q.den)))
 unfold szQ at hp hq
 have h1 := ratMul_T (k := k) (decide (p.num < 0)) (decide (q.num < 0)) p.num.natAbs p.den q.num.natAbs q.den (by omega) (by omega) (by omega) (by omega) d0
 have h2 := ratText_T (k := k + 4) (!(decide (p.num < 0) == decide (q.num < 0))) (p.num.natAbs * q.num.natAbs / (p.num.natAbs * q.num.natAbs).gcd (p.den * q.den)) (p.den * q.den / (p.num.natAbs * q.num.natAbs).gcd (p.den * q.den)) (by omega) (by omega)
 rw [qt_red _ _ _ d0, mul_rs] at h2
 refine enter rfl func103 rfl (by decide) (by kernel_rfl) rfl rfl ?_
 refine zs1 h1 ?_
 refine zs2 h2 ?_
 rfl
end Go.PE
namespace Go.PE
open Go.RowKit Go.Proofs.Tryz
set_option maxRecDepth 100000
variable {k : Nat}
theorem smQ_of (p : Rat) (h : (smV (rs p)).2.2 = true) : p = Rat.divInt (smV (rs p)).1 (smV (rs p)).2.1 ∧ 0 < (smV (rs p)).2.1 ∧ (smV (rs p)).2.1.natAbs < 1000000000 ∧ (smV (rs p)).1.natAbs < 1000000000 := by
 obtain ⟨h1, h2, h3, h4⟩ := rd_sm (rs p) h
 rw [rd_rs] at h1
 have h1 := Option.some.inj h1
 refine ⟨?_, h2, by omega, h4⟩
 have e : ((smV (rs p)).2.1.toNat : Int) = (smV (rs p)).2.1 := by omega
 rw [← e, show Rat.divInt (smV (rs p)).1 ((smV (rs p)).2.1.toNat : Int) = mkRat (smV (rs p)).1 (smV (rs p)).2.1.toNat from rfl, ← h1]
theorem divL_T (p q : Rat) (hq0 : q ≠ 0) {L : Nat} (hp : szQ p L) (hq : szQ q L) (hL : L ≤ 4000000) : T (k + 7) 194 [ratQ p, ratQ q] = some (.str (rs (p / q)), []) := by
 have n0 : q.num ≠ 0 := fun e => hq0 (Rat.num_eq_zero.1 e)
 have d0 : p.den * q.num.natAbs ≠ 0 := Nat.mul_ne_zero p.den_nz (by omega)
 have a1 := ln_dec p.num.natAbs
 have a2 := ln_dec p.den
 have a3 := ln_dec q.num.natAbs
 have a4 := ln_dec q.den
 have l1 := dec_mul_len p.num.natAbs q.den
 have l2 := dec_mul_len p.den q.num.natAbs
 have l3 := dec_len_mono (Nat.div_le_self (p.num.natAbs * q.den) ((p.num.natAbs * q.den).gcd (p.den * q.num.natAbs)))
 have l4 := dec_len_mono (Nat.div_le_self (p.den * q.num.natAbs) ((p.num.natAbs * q.den).gcd (p.den * q.num.natAbs)))
 unfold szQ at hp hq
 have h1 := ratMul_T (k := k) (decide (p.num < 0)) (decide (q.num < 0)) p.num.natAbs p.den q.den q.num.natAbs (by omega) (by omega) (by omega) (by omega) d0
 have h2 := ratText_T (k := k + 4) (!(decide (p.num < 0) == decide (q.num < 0))) (p.num.natAbs * q.den / (p.num.natAbs * q.den).gcd (p.den * q.num.natAbs)) (p.den * q.num.natAbs / (p.num.natAbs * q.den).gcd (p.den * q.num.natAbs)) (by omega) (by omega)
 rw [qt_red _ _ _ d0, div_rs _ _ n0] at h2
 refine enter rfl func194 rfl (by decide) (by kernel_rfl) rfl rfl ?_
 refine zs1 h1 ?_
 refine zs2 h2 ?_
 rfl
theorem mul_Q (p q : Rat) {L : Nat} (hp : szQ p L) (hq : szQ q L) (hL : L ≤ 4000000) : T (k + 9) 33 [.str (rs p), .str (rs q)] = some (.str (rs (p * q)), []) := by
 have lp := hp.len
 have lq := hq.len
 have h := two_T (k := k + 2) p q (p * q) 101 103 (.inl ⟨rfl, rfl⟩) (by omega) (by omega) (fun h1 h2 => by
  obtain ⟨e1, a1, a2, a3⟩ := smQ_of p h1
  obtain ⟨e2, b1, b2, b3⟩ := smQ_of q h2
  have := mulS_T (k := k + 3) _ _ _ _ a3 a2 b3 b2 (by omega) (by omega)
  rw [← e1, ← e2] at this
  exact this) (mulL_T (k := k) p q hp hq hL)
 refine enter rfl func33 rfl (by decide) (by kernel_rfl) rfl rfl ?_
 refine zs1 h ?_
 rfl
theorem rs_ne_zero {q : Rat} (h : q ≠ 0) : rs q ≠ [48] := fun e => h (rs_inj (e.trans rs_zero.symm))
theorem div_Q (p q : Rat) (hq0 : q ≠ 0) {L : Nat} (hp : szQ p L) (hq : szQ q L) (hL : L ≤ 4000000) : T (k + 9) 114 [.str (rs p), .str (rs q)] = some (.str (rs (p / q)), []) := by
 have lp := hp.len
 have lq := hq.len
 have h := two_T (k := k + 2) p q (p / q) 193 194 (.inr (.inl ⟨rfl, rfl⟩)) (by omega) (by omega) (fun h1 h2 => by
  obtain ⟨e1, a1, a2, a3⟩ := smQ_of p h1
  obtain ⟨e2, b1, b2, b3⟩ := smQ_of q h2
  have := divS_T (k := k + 3) _ _ _ _ a3 a2 b3 b2 (by omega) (by
   intro e0
   rw [e0] at e2
   exact hq0 (by rw [e2, Rat.zero_divInt]))
  rw [← e1, ← e2] at this
  exact this) (divL_T (k := k) p q hq0 hp hq hL)
 refine enter rfl func114 rfl (by decide) (by kernel_rfl) rfl rfl ?_
 refine zs0 ?_
 refine W.cond rfl (fun b1 => ?_) (fun b1 => ?_)
 ·exact absurd (of_decide_eq_true b1) (fun e => rs_ne_zero hq0 e)
 ·refine zs1 h ?_
  rfl
end Go.PE
namespace Go.PE
open Go.RowKit Go.Proofs.Tryz
set_option maxRecDepth 100000
variable {k : Nat}
def adN (x y : Bool) (a b : Nat) : Bool × Nat := if x = y then (x, a + b) else if b ≤ a then (x, a - b) else (y, b - a)
theorem adN_sg (x y : Bool) (a b : Nat) : sg (adN x y a b).1 (adN x y a b).2 = sg x a + sg y b := by
 unfold adN sg
 cases x <;> cases y <;> simp <;> first | omega | (split <;> simp <;> omega)
theorem adN_le (x y : Bool) (a b : Nat) : (adN x y a b).2 ≤ a + b := by
 unfold adN; split
 ·exact Nat.le_refl _
 ·split <;> simp <;> omega
theorem sg_den (p q : Rat) : sg (decide (p.num < 0)) (p.num.natAbs * q.den) = p.num * q.den := by
 unfold sg
 have h3 : ((p.num.natAbs * q.den : Nat) : Int) = (p.num.natAbs : Int) * q.den := Int.natCast_mul ..
 by_cases hp : p.num < 0
 ·simp only [hp, decide_true, if_true]
  rw [h3, ← Int.neg_mul]; congr 1; omega
 ·simp only [hp, decide_false, Bool.false_eq_true, if_false]
  rw [h3]; congr 1; omega
theorem add_rs (p q : Rat) : mkRat (sg (adN (decide (p.num < 0)) (decide (q.num < 0)) (p.num.natAbs * q.den) (q.num.natAbs * p.den)).1 (adN (decide (p.num < 0)) (decide (q.num < 0)) (p.num.natAbs * q.den) (q.num.natAbs * p.den)).2) (p.den * q.den) = p + q := by
 rw [adN_sg, sg_den, sg_den, Rat.add_def']
set_option maxHeartbeats 2000000 in
theorem ratAdd_T (x y : Bool) (n d m e : Nat) (hn : ln n < 4194304) (hd : ln d < 4194304) (hm : ln m < 4194304) (he : ln e < 4194304) (d0 : d * e ≠ 0) :
  T (k + 6) 126 [ratV x n d, ratV y m e] = some (ratV (adN x y (n * e) (m * d)).1 ((adN x y (n * e) (m * d)).2 / (adN x y (n * e) (m * d)).2.gcd (d * e)) (d * e / (adN x y (n * e) (m * d)).2.gcd (d * e)), []) := by
 have m1 := mul_T (k := k + 3) n e (by omega) (by omega)
 have m2 := mul_T (k := k + 3) m d (by omega) (by omega)
 have m3 := mul_T (k := k + 3) d e (by omega) (by omega)
 have l1 := ln_mul n e
 have l2 := ln_mul m d
 have l3 := ln_mul d e
 generalize n * e = a at m1 l1
 generalize m * d = b at m2 l2
 generalize d * e = c at m3 l3 d0
 have l4 : ln (a + b) ≤ ln a + ln b + 1 := by
  have h1 := lt_ln a
  have h2 := lt_ln b
  refine ln_le ?_
  have p1 : 1000000000 ^ ln a ≤ 1000000000 ^ (ln a + ln b) := Nat.pow_le_pow_right (by omega) (by omega)
  have p2 : 1000000000 ^ ln b ≤ 1000000000 ^ (ln a + ln b) := Nat.pow_le_pow_right (by omega) (by omega)
  rw [Nat.pow_succ]
  omega
 have l5 := ln_mono (adN_le x y a b)
 have hl := lowest_T (k := k) (adN x y a b).1 (adN x y a b).2 c (by omega) (by omega) d0
 obtain ⟨r, hc, hr, _⟩ := cmp_T (k := k + 4) a b (by omega) (by omega)
 refine enter rfl func126 rfl (by decide) (by kernel_rfl) rfl rfl ?_
 refine zd8 ?_
 refine zd4 m1 ?_
 refine zd4 m2 ?_
 refine zd5 m3 ?_
 refine W.cond rfl (fun b1 => ?_) (fun b1 => ?_)
 ·have b1 : x = y := by simpa using b1
  have e : adN x y a b = (x, a + b) := if_pos b1
  rw [e] at hl ⊢
  refine zd8 ?_
  refine wG te rfl rfl rfl rfl rfl (viaA (add_T (k := k + 3) a b (by omega) (by omega)) (by simp only [List.drop_zero, List.take_length])) rfl rfl ?_
  refine zd0 ?_
  refine wG te rfl rfl rfl rfl rfl (viaA (hl) (by simp only [List.drop_zero, List.take_length])) rfl rfl ?_
  refine zd7 ?_
  rfl
 ·have b1 : ¬ x = y := by simpa using b1
  refine zs0 ?_
  refine wC te rfl rfl rfl rfl rfl (viaA (hc) (by simp only [List.drop_zero, List.take_length])) rfl rfl ?_
  refine zs0 ?_
  refine W.cond rfl (fun b2 => ?_) (fun b2 => ?_)
  ·have b2 := of_decide_eq_true b2
   have hle : b ≤ a := by omega
   have e : adN x y a b = (x, a - b) := by unfold adN; rw [if_neg b1, if_pos hle]
   rw [e] at hl ⊢
   refine zd8 ?_
   refine wG te rfl rfl rfl rfl rfl (viaA (sub_T (k := k + 3) a b (by omega) hle) (by simp only [List.drop_zero, List.take_length])) rfl rfl ?_
   refine zd0 ?_
   refine wG te rfl rfl rfl rfl rfl (viaA (hl) (by simp only [List.drop_zero, List.take_length])) rfl rfl ?_
   refine zd7 ?_
   rfl
  ·have b2 := of_decide_eq_false b2
   have hle : ¬ b ≤ a := by omega
   have e : adN x y a b = (y, b - a) := by unfold adN; rw [if_neg b1, if_neg hle]
   rw [e] at hl ⊢
   refine zd8 ?_
   refine wG te rfl rfl rfl rfl rfl (viaA (sub_T (k := k + 3) b a (by omega) (by omega)) (by simp only [List.drop_zero, List.take_length])) rfl rfl ?_
   refine zd0 ?_
   refine wG te rfl rfl rfl rfl rfl (viaA (hl) (by simp only [List.drop_zero, List.take_length])) rfl rfl ?_
   refine zd7 ?_
   rfl
end Go.PE
namespace Go.PE
open Go.RowKit Go.Proofs.Tryz
set_option maxRecDepth 100000
variable {k : Nat}
theorem dec_add_len (a b : Nat) : (dec (a + b)).length ≤ (dec a).length + (dec b).length := by
 have h1 := dec_lt_pow a
 have h2 := dec_lt_pow b
 have h3 := dec_len_pos a
 have h4 := dec_len_pos b
 refine dec_len_le (by omega) ?_
 have e1 : 10 ^ (dec a).length = 10 * 10 ^ ((dec a).length - 1) := by rw [← Nat.pow_succ']; congr 1; omega
 have p1 : 10 ^ (dec a).length ≤ 10 ^ ((dec a).length + (dec b).length - 1) := Nat.pow_le_pow_right (by omega) (by omega)
 have p2 : 10 ^ (dec b).length ≤ 10 ^ ((dec a).length + (dec b).length - 1) := Nat.pow_le_pow_right (by omega) (by omega)
 have e2 : 10 ^ ((dec a).length + (dec b).length) = 10 * 10 ^ ((dec a).length + (dec b).length - 1) := by rw [← Nat.pow_succ']; congr 1; omega
 omega
theorem addL_T (p q : Rat) {L : Nat} (hp : szQ p L) (hq : szQ q L) (hL : L ≤ 4000000) : T (k + 7) 125 [ratQ p, ratQ q] = some (.str (rs (p + q)), []) := by
 have d0 : p.den * q.den ≠ 0 := Nat.mul_ne_zero p.den_nz q.den_nz
 have a1 := ln_dec p.num.natAbs
 have a2 := ln_dec p.den
 have a3 := ln_dec q.num.natAbs
 have a4 := ln_dec q.den
 have l1 := dec_mul_len p.num.natAbs q.den
 have l2 := dec_mul_len q.num.natAbs p.den
 have l3 := dec_mul_len p.den q.den
 have h1 := ratAdd_T (k := k) (decide (p.num < 0)) (decide (q.num < 0)) p.num.natAbs p.den q.num.natAbs q.den (by unfold szQ at hp; omega) (by unfold szQ at hp; omega) (by unfold szQ at hq; omega) (by unfold szQ at hq; omega) d0
 have hr := add_rs p q
 have l4 := dec_len_mono (adN_le (decide (p.num < 0)) (decide (q.num < 0)) (p.num.natAbs * q.den) (q.num.natAbs * p.den))
 have l5 := dec_add_len (p.num.natAbs * q.den) (q.num.natAbs * p.den)
 generalize (adN (decide (p.num < 0)) (decide (q.num < 0)) (p.num.natAbs * q.den) (q.num.natAbs * p.den)) = s at h1 hr l4
 have l6 := dec_len_mono (Nat.div_le_self s.2 (s.2.gcd (p.den * q.den)))
 have l7 := dec_len_mono (Nat.div_le_self (p.den * q.den) (s.2.gcd (p.den * q.den)))
 unfold szQ at hp hq
 have h2 := ratText_T (k := k + 4) s.1 (s.2 / s.2.gcd (p.den * q.den)) (p.den * q.den / s.2.gcd (p.den * q.den)) (by omega) (by omega)
 rw [qt_red _ _ _ d0, hr] at h2
 refine enter rfl func125 rfl (by decide) (by kernel_rfl) rfl rfl ?_
 refine zs1 h1 ?_
 refine zs2 h2 ?_
 rfl
theorem add_Q (p q : Rat) {L : Nat} (hp : szQ p L) (hq : szQ q L) (hL : L ≤ 4000000) : T (k + 9) 53 [.str (rs p), .str (rs q)] = some (.str (rs (p + q)), []) := by
 have lp := hp.len
 have lq := hq.len
 have h := two_T (k := k + 2) p q (p + q) 124 125 (.inr (.inr ⟨rfl, rfl⟩)) (by omega) (by omega) (fun h1 h2 => by
  obtain ⟨e1, a1, a2, a3⟩ := smQ_of p h1
  obtain ⟨e2, b1, b2, b3⟩ := smQ_of q h2
  have := addS_T (k := k + 3) _ _ _ _ a3 a2 b3 b2 (by omega) (by omega)
  rw [← e1, ← e2] at this
  exact this) (addL_T (k := k) p q hp hq hL)
 refine enter rfl func53 rfl (by decide) (by kernel_rfl) rfl rfl ?_
 refine zs1 h ?_
 rfl
theorem sign_Q (q : Rat) (h : (rs q).length < 150994900) : T (k + 7) 75 [.str (rs q)] = some (.int .i64 (sgn q), []) := by
 rw [sign_T _ h, rd_rs]
theorem rs_pos {q : Rat} (h : 0 < q.num) : rs (-q) = 45 :: rs q := by
 unfold rs qt
 rw [Rat.neg_num, Rat.neg_den, Int.natAbs_neg]
 have h1 : -q.num < 0 := by omega
 have h2 : ¬ q.num < 0 := by omega
 have h3 : q.num ≠ 0 := by omega
 simp [h, h2, h3]
theorem rs_neg {q : Rat} (h : q.num < 0) : rs q = 45 :: rs (-q) := by
 have := rs_pos (q := -q) (by rw [Rat.neg_num]; omega)
 rwa [Rat.neg_neg] at this
theorem sgn_cases (q : Rat) : (q.num < 0 ∧ sgn q = -1) ∨ (q = 0 ∧ sgn q = 0) ∨ (0 < q.num ∧ sgn q = 1) := by
 unfold sgn
 by_cases h : q.num < 0
 ·exact .inl ⟨h, if_pos h⟩
 ·by_cases h0 : q.num = 0
  ·exact .inr (.inl ⟨Rat.num_eq_zero.1 h0, by rw [if_neg h, if_pos h0]⟩)
  ·exact .inr (.inr ⟨by omega, by rw [if_neg h, if_neg h0]⟩)
theorem neg_Q (q : Rat) (h : (rs q).length < 150994900) : T (k + 8) 81 [.str (rs q)] = some (.str (rs (-q)), []) := by
 have hs := sign_Q (k := k) q h
 rcases sgn_cases q with ⟨h1, h2⟩ | ⟨h1, h2⟩ | ⟨h1, h2⟩
 ·rw [h2] at hs
  rw [rs_neg h1] at hs ⊢
  refine enter rfl func81 rfl (by decide) (by kernel_rfl) rfl rfl ?_
  refine zs1 hs ?_
  refine wS te rfl rfl (by simp; omega) ?_
  refine zs0 ?_
  rfl
 ·subst h1
  rw [h2, rs_zero] at hs
  rw [rs_zero, show -(0 : Rat) = 0 from rfl, rs_zero]
  refine enter rfl func81 rfl (by decide) (by kernel_rfl) rfl rfl ?_
  refine zs1 hs ?_
  refine zs2 hs ?_
  rfl
 ·rw [h2] at hs
  rw [rs_pos h1]
  refine enter rfl func81 rfl (by decide) (by kernel_rfl) rfl rfl ?_
  refine zs1 hs ?_
  refine zs2 hs ?_
  refine wS te rfl rfl (by simp; omega) ?_
  refine zs0 ?_
  rfl
theorem abs_Q (q : Rat) (h : (rs q).length < 150994890) : T (k + 9) 233 [.str (rs q)] = some (.str (rs (if q.num < 0 then -q else q)), []) := by
 have hs := sign_Q (k := k + 1) q (by omega)
 have n1 := neg_Q (k := k) q (by omega)
 rcases sgn_cases q with ⟨h1, h2⟩ | ⟨h1, h2⟩ | ⟨h1, h2⟩
 ·rw [h2] at hs
  rw [if_pos h1]
  rw [rs_neg h1] at hs ⊢
  refine enter rfl func233 rfl (by decide) (by kernel_rfl) rfl rfl ?_
  refine zs1 hs ?_
  refine wS te rfl rfl (by simp; omega) ?_
  refine zs0 ?_
  rfl
 ·subst h1
  have n2 : T (k + 8) 81 [.str (rs (-0))] = some (.str (rs 0), []) := n1
  rw [h2] at hs
  rw [if_neg (by decide)]
  refine enter rfl func233 rfl (by decide) (by kernel_rfl) rfl rfl ?_
  refine zs1 hs ?_
  refine zs2 n1 ?_
  refine zs2 n2 ?_
  rfl
 ·have n2 := neg_Q (k := k) (-q) (by rw [rs_pos h1]; simp; omega)
  rw [Rat.neg_neg] at n2
  rw [h2] at hs
  rw [if_neg (by omega)]
  refine enter rfl func233 rfl (by decide) (by kernel_rfl) rfl rfl ?_
  refine zs1 hs ?_
  refine zs2 n1 ?_
  refine zs2 n2 ?_
  rfl
theorem cutS_rs (q : Rat) : cutS (rs q) = (rs (q.num : Rat), if q.den = 1 then [] else dec q.den, decide (q.den ≠ 1)) := by
 have hm : (47 : UInt8) ∉ rs (q.num : Rat) := by
  rw [rs_int]; unfold qt
  rw [if_pos rfl, List.append_nil, List.mem_append]
  rintro (h | h)
  ·split at h
   ·simp at h
   ·cases h
  ·exact slash_dec _ h
 have e : rs q = rs (q.num : Rat) ++ (if q.den = 1 then [] else 47 :: dec q.den) := by
  rw [rs_int]; unfold rs qt
  rw [if_pos rfl, List.append_nil]
 rw [e]
 by_cases h : q.den = 1
 ·simp only [h, if_true, List.append_nil]; rw [cutS_none hm]; rfl
 ·rw [if_neg h, cutS_some _ hm]; simp [h]
theorem valid_Q (q : Rat) (h : (rs q).length < 150994900) : T (k + 6) 70 [.str (rs q)] = some (.bool true, []) := by
 rw [valid_T _ h, rd_rs]; rfl
theorem num_Q (q : Rat) (h : (rs q).length < 150994900) : T (k + 7) 175 [.str (rs q)] = some (.str (rs (q.num : Rat)), []) := by
 have hc := cut_T (k := k + 2) (rs q) (by omega)
 rw [cutS_rs] at hc
 refine enter rfl func175 rfl (by decide) (by kernel_rfl) rfl rfl ?_
 refine zs1 (valid_Q (k := k) q h) ?_
 refine zs2 hc ?_
 rfl
theorem den_Q (q : Rat) (h : (rs q).length < 150994900) : T (k + 7) 170 [.str (rs q)] = some (.str (rs ((q.den : Int) : Rat)), []) := by
 have hc := cut_T (k := k + 2) (rs q) (by omega)
 rw [cutS_rs] at hc
 rw [rs_nat]
 by_cases hd : q.den = 1
 ·rw [decide_eq_false (by simp [hd]), if_pos hd] at hc
  rw [hd, show dec 1 = [49] from (decN_eq 1).symm.trans rfl]
  refine enter rfl func170 rfl (by decide) (by kernel_rfl) rfl rfl ?_
  refine zs1 (valid_Q (k := k) q h) ?_
  refine zs2 hc ?_
  rfl
 ·rw [decide_eq_true hd, if_neg hd] at hc
  refine enter rfl func170 rfl (by decide) (by kernel_rfl) rfl rfl ?_
  refine zs1 (valid_Q (k := k) q h) ?_
  refine zs2 hc ?_
  rfl
end Go.PE
namespace Go.PE
open Go.RowKit Go.Proofs.Tryz
set_option maxRecDepth 100000
variable {k : Nat}
def qrN (x : Bool) (n m : Nat) : Nat × Nat := if x = true ∧ 0 < n % m then (n / m + 1, m - n % m) else (n / m, n % m)
theorem ratQR_T (x y : Bool) (n m : Nat) (hn : ln n < 16777216) (hm : ln m < 16777216) (m0 : m ≠ 0) :
  T (k + 4) 273 [ratV x n 1, ratV y m 1] = some (.tup [ratV (!(x == y)) (qrN x n m).1 1, ratV false (qrN x n m).2 1], []) := by
 have hq := quoRem_T (k := k) n m hn hm m0
 have hlt := Nat.mod_lt n (show 0 < m by omega)
 have l1 := ln_mono (Nat.div_le_self n m)
 have e1 : row (limbs 1) = [[.int .u32 1]] := by rw [limbs_one]; rfl
 have ha := add_T (k := k + 1) (n / m) 1 (by omega) (by rw [show ln 1 = 1 by unfold ln; rw [limbs_one]; rfl]; omega)
 have hs := sub_T (k := k + 1) m (n % m) (by omega) (by omega)
 rw [e1] at ha
 have hz : 0 < (limbs (n % m)).length ↔ 0 < n % m := by
  constructor
  ·intro h; exact Nat.pos_of_ne_zero fun h0 => by rw [h0, limbs_zero] at h; simp at h
  ·intro h; exact Nat.pos_of_ne_zero fun h0 => by have := limbs_eq_nil.1 (List.length_eq_zero_iff.1 h0); omega
 cases x
 ·have e : qrN false n m = (n / m, n % m) := if_neg (by simp)
  rw [e]
  refine enter rfl func273 rfl (by decide) (by kernel_rfl) rfl rfl ?_
  refine zs1 hq ?_
  unfold ratV
  rw [e1]
  rfl
 ·refine enter rfl func273 rfl (by decide) (by kernel_rfl) rfl rfl ?_
  refine zs1 hq ?_
  refine W.cond rfl (fun b1 => ?_) (fun b1 => ?_)
  ·have b1 := of_decide_eq_true b1
   rw [row_len] at b1
   have e : qrN true n m = (n / m + 1, m - n % m) := if_pos ⟨rfl, hz.1 (by omega)⟩
   have vt : ∀ (z : Bool) (j : Nat), ratV z j 1 = .agg [.bool z, .imm 1 (List.take (row (limbs j)).length (List.drop 0 (row (limbs j)))), .imm 1 [[.int .u32 1]]] := fun z j => by
    simp only [List.drop_zero, List.take_length, ratV, e1]
   rw [e, vt (!(true == y)), vt false]
   refine zd8 ?_
   refine zd4 ha ?_
   refine zd5 hs ?_
   rfl
  ·have b1 := of_decide_eq_false b1
   rw [row_len] at b1
   have e : qrN true n m = (n / m, n % m) := if_neg fun h => by have := hz.2 h.2; omega
   rw [e]
   refine zs0 ?_
   unfold ratV
   rw [e1]
   rfl
end Go.PE
namespace Go.PE
open Go.RowKit Go.Proofs.Tryz
set_option maxRecDepth 100000
variable {k : Nat}
theorem rs_sg (neg : Bool) (n : Nat) : qt neg n 1 = rs ((sg neg n : Int) : Rat) := by
 rw [rs_int, sg_natAbs]
 refine qt_congr fun h => ?_
 unfold sg
 cases neg
 ·simp
 ·simp; omega
theorem qr_pos (a : Int) (m : Nat) (hm : 0 < m) : sg (decide (a < 0)) (qrN (decide (a < 0)) a.natAbs m).1 = a / (m : Int) ∧ ((qrN (decide (a < 0)) a.natAbs m).2 : Int) = a % (m : Int) := by
 have hd := Nat.div_add_mod a.natAbs m
 have hl := Nat.mod_lt a.natAbs hm
 have key : ∀ q r : Int, r + m * q = a → 0 ≤ r → r < m → q = a / (m : Int) ∧ r = a % (m : Int) := fun q r h1 h2 h3 => by
  have := (Int.ediv_emod_unique (a := a) (b := m) (r := r) (q := q) (by omega)).2 ⟨h1, h2, h3⟩
  exact ⟨this.1.symm, this.2.symm⟩
 generalize hx : a.natAbs / m = x at hd
 generalize hy : a.natAbs % m = y at hd hl
 have hd2 : (m : Int) * x + y = a.natAbs := by exact_mod_cast hd
 unfold qrN
 rw [hx, hy]
 by_cases ha : a < 0
 ·simp only [ha, decide_true, true_and]
  by_cases h0 : 0 < y
  ·rw [if_pos h0]
   simp only [sg, if_true]
   refine key _ _ ?_ (by omega) (by omega)
   have : ((m - y : Nat) : Int) = m - y := by omega
   rw [this, Int.natCast_add, Int.neg_add, Int.mul_add, Int.mul_neg, Int.mul_neg]
   omega
  ·rw [if_neg h0]
   simp only [sg, if_true]
   refine key _ _ ?_ (by omega) (by omega)
   rw [Int.mul_neg]
   omega
 ·simp only [ha, decide_false, Bool.false_eq_true, false_and, if_false]
  simp only [sg, Bool.false_eq_true, if_false]
  refine key _ _ ?_ (by omega) (by omega)
  omega
theorem sg_not (x : Bool) (n : Nat) : sg (!x) n = -sg x n := by cases x <;> simp [sg]
theorem qr_spec (a b : Int) (hb : b ≠ 0) : sg (!(decide (a < 0) == decide (b < 0))) (qrN (decide (a < 0)) a.natAbs b.natAbs).1 = a / b ∧ ((qrN (decide (a < 0)) a.natAbs b.natAbs).2 : Int) = a % b := by
 have h := qr_pos a b.natAbs (by omega)
 by_cases hn : b < 0
 ·have e : b = -((b.natAbs : Nat) : Int) := by omega
  have e1 : (!(decide (a < 0) == decide (b < 0))) = !(decide (a < 0)) := by simp [hn]
  rw [e1, sg_not, h.1]
  refine ⟨?_, ?_⟩
  ·conv => rhs; rw [e, Int.ediv_neg]
  ·rw [h.2]; conv => rhs; rw [e, Int.emod_neg]
 ·have e : b = ((b.natAbs : Nat) : Int) := by omega
  have e1 : (!(decide (a < 0) == decide (b < 0))) = decide (a < 0) := by simp [hn]
  rw [e1, h.1]
  refine ⟨?_, ?_⟩
  ·conv => rhs; rw [e]
  ·rw [h.2]; conv => rhs; rw [e]
theorem isInt_Z (a : Int) (h : (rs (a : Rat)).length < 150994900) : T (k + 4) 34 [.str (rs (a : Rat))] = some (.bool true, []) := by
 rw [isInt_T _ (by omega), isI_rs]; rfl
theorem dec1_len : (dec 1).length = 1 := by rw [← decN_eq]; rfl
theorem szZ {a : Int} {L : Nat} (h : (dec a.natAbs).length ≤ L) : szQ (a : Rat) L := ⟨h, by
 have := dec_len_pos a.natAbs
 show (dec 1).length ≤ L
 rw [dec1_len]; omega⟩
theorem quoRem_Q (a b : Int) (hb : b ≠ 0) {L : Nat} (ha : (dec a.natAbs).length ≤ L) (hbl : (dec b.natAbs).length ≤ L) (hL : L ≤ 4000000) :
  T (k + 6) 234 [.str (rs (a : Rat)), .str (rs (b : Rat))] = some (.tup [.str (rs ((a / b : Int) : Rat)), .str (rs ((a % b : Int) : Rat))], []) := by
 have za := szZ ha
 have zb := szZ hbl
 have la := za.len
 have lb := zb.len
 have q1 := isInt_Z (k := k + 1) a (by omega)
 have q2 := isInt_Z (k := k + 1) b (by omega)
 have r1 := readQ_T (k := k) (a : Rat) (by omega)
 have r2 := readQ_T (k := k) (b : Rat) (by omega)
 have b0 : rs (b : Rat) ≠ [48] := rs_ne_zero (by intro h; exact hb (by exact_mod_cast h))
 have a1 := ln_dec a.natAbs
 have a2 := ln_dec b.natAbs
 have hq : T (k + 5) 273 [ratQ (a : Rat), ratQ (b : Rat)] = some (.tup [ratV (!(decide (a < 0) == decide (b < 0))) (qrN (decide (a < 0)) a.natAbs b.natAbs).1 1, ratV false (qrN (decide (a < 0)) a.natAbs b.natAbs).2 1], []) :=
  ratQR_T (k := k + 1) (decide (a < 0)) (decide (b < 0)) a.natAbs b.natAbs (by omega) (by omega) (by omega)
 obtain ⟨s1, s2⟩ := qr_spec a b hb
 have l1 : (qrN (decide (a < 0)) a.natAbs b.natAbs).1 ≤ a.natAbs + 1 := by
  have := Nat.div_le_self a.natAbs b.natAbs
  unfold qrN; split <;> simp <;> omega
 have l2 : (qrN (decide (a < 0)) a.natAbs b.natAbs).2 ≤ b.natAbs := by
  have := Nat.mod_lt a.natAbs (show 0 < b.natAbs by omega)
  unfold qrN; split <;> simp <;> omega
 have l3 := dec_len_mono l1
 have l4 := dec_len_mono l2
 have l5 := dec_add_len a.natAbs 1
 have l6 := dec1_len
 generalize qrN (decide (a < 0)) a.natAbs b.natAbs = w at hq s1 s2 l1 l2 l3 l4
 have t1 := ratText_T (k := k + 3) (!(decide (a < 0) == decide (b < 0))) w.1 1 (by omega) (by omega)
 have t2 := ratText_T (k := k + 3) false w.2 1 (by omega) (by omega)
 rw [rs_sg, s1] at t1
 rw [rs_sg, show sg false w.2 = a % b from s2] at t2
 refine enter rfl func234 rfl (by decide) (by kernel_rfl) rfl rfl ?_
 refine zs1 q1 ?_
 refine zs2 q2 ?_
 refine W.cond rfl (fun b1 => ?_) (fun b1 => ?_)
 ·exact absurd (of_decide_eq_true b1) (fun e => b0 e)
 ·refine zs1 r1 ?_
  refine zs2 r2 ?_
  refine zs2 hq ?_
  refine zd2 t1 ?_
  refine zd5 t2 ?_
  rfl
end Go.PE
namespace Go.PE
open Go.RowKit Go.Proofs.Tryz
set_option maxRecDepth 100000
variable {k : Nat}
theorem quo_Q (a b : Int) (hb : b ≠ 0) {L : Nat} (ha : (dec a.natAbs).length ≤ L) (hbl : (dec b.natAbs).length ≤ L) (hL : L ≤ 4000000) :
  T (k + 7) 174 [.str (rs (a : Rat)), .str (rs (b : Rat))] = some (.str (rs ((a / b : Int) : Rat)), []) := by
 refine enter rfl func174 rfl (by decide) (by kernel_rfl) rfl rfl ?_
 refine zs1 (quoRem_Q (k := k) a b hb ha hbl hL) ?_
 rfl
theorem rem_Q (a b : Int) (hb : b ≠ 0) {L : Nat} (ha : (dec a.natAbs).length ≤ L) (hbl : (dec b.natAbs).length ≤ L) (hL : L ≤ 4000000) :
  T (k + 7) 172 [.str (rs (a : Rat)), .str (rs (b : Rat))] = some (.str (rs ((a % b : Int) : Rat)), []) := by
 refine enter rfl func172 rfl (by decide) (by kernel_rfl) rfl rfl ?_
 refine zs1 (quoRem_Q (k := k) a b hb ha hbl hL) ?_
 rfl
theorem gcd_Q (a b : Int) {L : Nat} (ha : (dec a.natAbs).length ≤ L) (hbl : (dec b.natAbs).length ≤ L) (hL : L ≤ 4000000) :
  T (k + 6) 173 [.str (rs (a : Rat)), .str (rs (b : Rat))] = some (.str (rs ((Nat.gcd a.natAbs b.natAbs : Nat) : Int)), []) := by
 have la := (szZ ha).len
 have lb := (szZ hbl).len
 have q1 := isInt_Z (k := k + 1) a (by omega)
 have q2 := isInt_Z (k := k + 1) b (by omega)
 have r1 : T (k + 5) 164 [.str (rs (a : Rat))] = some (.tup [ratV (decide (a < 0)) a.natAbs 1, .bool true], []) := readQ_T (k := k) (a : Rat) (by omega)
 have r2 : T (k + 5) 164 [.str (rs (b : Rat))] = some (.tup [ratV (decide (b < 0)) b.natAbs 1, .bool true], []) := readQ_T (k := k) (b : Rat) (by omega)
 have a1 := ln_dec a.natAbs
 have a2 := ln_dec b.natAbs
 have hg := gcd_T (k := k + 1) a.natAbs b.natAbs (by omega) (by omega)
 have hl : ln (a.natAbs.gcd b.natAbs) ≤ 16777216 := by
  rcases Nat.eq_zero_or_pos a.natAbs with h | h
  ·rw [h, Nat.gcd_zero_left]; omega
  ·have := ln_mono (Nat.gcd_le_left b.natAbs h); omega
 have ht := text_T (k := k + 5) _ hl
 rw [rs_nat]
 refine enter rfl func173 rfl (by decide) (by kernel_rfl) rfl rfl ?_
 refine zs1 q1 ?_
 refine zs2 q2 ?_
 refine zs2 r1 ?_
 refine zs2 r2 ?_
 refine zs2 hg ?_
 refine zs2 ht ?_
 rfl
def flQ (q : Rat) : Int := q.num / (q.den : Int)
theorem floor_Q (q : Rat) {L : Nat} (h : szQ q L) (hL : L ≤ 4000000) : T (k + 8) 84 [.str (rs q)] = some (.str (rs (flQ q : Rat)), []) := by
 have l := h.len
 have hd : ((q.den : Int)) ≠ 0 := by have := q.den_pos; omega
 refine enter rfl func84 rfl (by decide) (by kernel_rfl) rfl rfl ?_
 refine zs0 ?_
 refine wC te rfl rfl rfl rfl rfl (num_Q (k := k) q (by omega)) rfl rfl ?_
 refine zs0 ?_
 refine wC te rfl rfl rfl rfl rfl (den_Q (k := k) q (by omega)) rfl rfl ?_
 refine zs1 (quo_Q (k := k) q.num (q.den : Int) hd h.1 h.2 hL) ?_
 rfl
theorem szQ.neg {q : Rat} {L : Nat} (h : szQ q L) : szQ (-q) L := by
 unfold szQ at h ⊢
 rw [Rat.neg_num, Rat.neg_den, Int.natAbs_neg]; exact h
theorem flQ_le (q : Rat) : (flQ q).natAbs ≤ q.num.natAbs + 1 := by
 unfold flQ
 have := (qr_pos q.num q.den q.den_pos).1
 rw [← this, sg_natAbs]
 have h2 := Nat.div_le_self q.num.natAbs q.den
 unfold qrN; split <;> simp <;> omega
theorem flQ_sz {q : Rat} {L : Nat} (h : szQ q L) : szQ (flQ q : Rat) (L + 1) := szZ (by
 have := dec_len_mono (flQ_le q)
 have := dec_add_len q.num.natAbs 1
 have := dec1_len
 have := h.1
 omega)
theorem ceil_Q (q : Rat) {L : Nat} (h : szQ q L) (hL : L ≤ 4000000) : T (k + 9) 83 [.str (rs q)] = some (.str (rs (-(flQ (-q) : Rat))), []) := by
 have l := h.len
 have l2 := (flQ_sz h.neg).len
 refine enter rfl func83 rfl (by decide) (by kernel_rfl) rfl rfl ?_
 refine zs0 ?_
 refine wC te rfl rfl rfl rfl rfl (neg_Q (k := k) q (by omega)) rfl rfl ?_
 refine zs1 (floor_Q (k := k) (-q) h.neg hL) ?_
 refine wC te rfl rfl rfl rfl rfl (neg_Q (k := k) (flQ (-q) : Rat) (by omega)) rfl rfl ?_
 refine zs0 ?_
 rfl
theorem lcm_Q (a b : Nat) (ha0 : a ≠ 0) (hb0 : b ≠ 0) {L : Nat} (ha : (dec a).length ≤ L) (hbl : (dec b).length ≤ L) (hL : L ≤ 4000000) :
  T (k + 10) 171 [.str (rs ((a : Int) : Rat)), .str (rs ((b : Int) : Rat))] = some (.str (rs ((Nat.lcm a b : Nat) : Int)), []) := by
 have hg := gcd_Q (k := k + 3) (a : Int) (b : Int) ha hbl hL
 rw [show (a : Int).natAbs = a from rfl, show (b : Int).natAbs = b from rfl] at hg
 have g0 : 0 < a.gcd b := Nat.gcd_pos_of_pos_left _ (by omega)
 have n1 : rs ((a : Int) : Rat) ≠ [48] := rs_ne_zero (by intro h; exact ha0 (by exact_mod_cast h))
 have n2 : rs ((b : Int) : Rat) ≠ [48] := rs_ne_zero (by intro h; exact hb0 (by exact_mod_cast h))
 have n3 : rs (((a.gcd b : Nat) : Int) : Rat) ≠ [] := by rw [rs_nat]; exact dec_ne _
 have lg := dec_len_mono (Nat.gcd_le_left b (show 0 < a by omega))
 have lq := dec_len_mono (Nat.div_le_self b (a.gcd b))
 have hq := quo_Q (k := k + 2) (b : Int) ((a.gcd b : Nat) : Int) (by omega) (L := L) hbl (by show (dec (a.gcd b)).length ≤ L; omega) hL
 rw [show ((b : Int) / ((a.gcd b : Nat) : Int)) = ((b / a.gcd b : Nat) : Int) from rfl] at hq
 have hm := mul_Q (k := k) ((a : Int) : Rat) (((b / a.gcd b : Nat) : Int) : Rat) (L := L) (szZ ha) (szZ (by show (dec (b / a.gcd b)).length ≤ L; omega)) hL
 have e : ((a : Int) : Rat) * (((b / a.gcd b : Nat) : Int) : Rat) = ((Nat.lcm a b : Nat) : Int) := by
  rw [← Rat.intCast_mul, Nat.lcm]
  congr 1
  rw [← Int.natCast_mul, Nat.mul_div_assoc _ (Nat.gcd_dvd_right a b)]
 rw [e] at hm
 have ll := dec_mul_len a b
 have l5 := dec_len_mono (show Nat.lcm a b ≤ a * b from Nat.div_le_self _ _)
 have habs := abs_Q (k := k) ((Nat.lcm a b : Nat) : Int) (by rw [rs_nat]; omega)
 rw [if_neg (by show ¬ ((Nat.lcm a b : Nat) : Int) < 0; omega)] at habs
 refine enter rfl func171 rfl (by decide) (by kernel_rfl) rfl rfl ?_
 refine zs1 hg ?_
 refine W.cond rfl (fun b1 => ?_) (fun b1 => ?_)
 ·exact absurd (of_decide_eq_true b1) (fun e => n3 e)
 ·refine zs0 ?_
  refine WX.boolM rfl rfl (fun b2 => ?_) (fun b2 => ?_)
  ·exact absurd (of_decide_eq_true b2) (fun e => n1 e)
  ·refine zs0 ?_
   refine W.cond rfl (fun b3 => ?_) (fun b3 => ?_)
   ·exact absurd (of_decide_eq_true b3) (fun e => n2 e)
   ·refine zs1 hq ?_
    refine zs2 hm ?_
    refine zs2 habs ?_
    rfl
end Go.PE
