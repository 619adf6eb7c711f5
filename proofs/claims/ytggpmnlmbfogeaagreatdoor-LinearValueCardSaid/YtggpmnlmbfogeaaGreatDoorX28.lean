/-
  A part of the proof that the law's function returns true and leaves its arguments as they were, for every input (no condition): own lemmas of the proof, in the order of their use.
-/
import Derived.Test.YtggpmnlmbfogeaaGreatDoorX27
set_option linter.all false
namespace Go.PE
open Go.RowKit Go.Proofs.Tryz
set_option maxRecDepth 100000
variable {k : Nat}
set_option maxHeartbeats 1000000 in
theorem addMag_T (a b : Nat) (hal : (dec a).length < 1073741824) (hbl : (dec b).length < 1073741824) :
  T (k + 2) 180 [.str (dec a), .str (dec b)] = some (.str (dec (a + b)), []) := by
 have va := val_dec a
 have vb := val_dec b
 have da := dec_all a
 have db := dec_all b
 have la := dec_lt_pow a
 have lb := dec_lt_pow b
 have na := dec_len_pos a
 generalize hx : dec a = x at *
 generalize hy : dec b = y at *
 obtain ⟨n, hn⟩ : ∃ n, n = max x.length y.length + 1 := ⟨_, rfl⟩
 have hnx : x.length + 1 ≤ n := by omega
 have hny : y.length + 1 ≤ n := by omega
 have hn2 : n < 1073741826 := by omega
 have hab : a + b < 10 ^ n := by
  have p1 : 10 ^ x.length ≤ 10 ^ (n - 1) := Nat.pow_le_pow_right (by omega) (by omega)
  have p2 : 10 ^ y.length ≤ 10 ^ (n - 1) := Nat.pow_le_pow_right (by omega) (by omega)
  have e : 10 ^ n = 10 * 10 ^ (n - 1) := by rw [← Nat.pow_succ']; congr 1; omega
  omega
 refine enter rfl func180 rfl (by decide) (by kernel_rfl) rfl rfl ?_
 refine zs0 ?_
 rw [show IntKind.i64.wrap (max (x.length : Int) (y.length : Int) + 1) = (n : Int) by rw [wrap_i64 (by omega) (by omega)]; omega]
 refine wS te rfl rfl (by refine ⟨by omega, by omega, by omega, by omega⟩) ?_
 refine zs0 ?_
 rw [Int.toNat_natCast]
 refine W.loop (fun e m => ∃ (c i : Nat) (out : Bs), e = [(0, .str x), (1, .str y), (5, .int .i64 n), (6, .own (0, 0) 1 (bytesPV out)), (7, .int .i64 c), (8, .int .i64 i)] ∧
  i ≤ n ∧ out.length = n ∧ c ≤ 1 ∧ (out.drop (n - i)).all isDg = true ∧ val (out.drop (n - i)) + c * 10 ^ i = a % 10 ^ i + b % 10 ^ i ∧ m = n - i) n ?_ ?_ ?_
 ·refine ⟨0, 0, List.replicate n 0, ?_, by omega, by simp, by omega, ?_, ?_, by omega⟩
  ·rw [← bytes_rep]; rfl
  ·rw [List.drop_of_length_le (by simp)]; rfl
  ·rw [List.drop_of_length_le (by simp)]; simp [val_nil, Nat.mod_one]
 ·show _ < 4611686018427387904; omega
 ·rintro e m ⟨c, i, out, rfl, hi, hlen, hc, hd, hv, rfl⟩
  refine zs0 ?_
  refine W.cond rfl (fun hlt => ?_) (fun hlt => ?_)
  ·have hlt := of_decide_eq_true hlt
   have m1 := mod_pow_succ a i
   have m2 := mod_pow_succ b i
   have hX : a / 10 ^ i % 10 < 10 := Nat.mod_lt _ (by omega)
   have hY : b / 10 ^ i % 10 < 10 := Nat.mod_lt _ (by omega)
   have hgx := @dig_ge a i x.length la
   have hgy := @dig_ge b i y.length lb
   have c1 := fun h => dgChar (i := i) da h
   have c2 := fun h => dgChar (i := i) db h
   rw [va] at c1
   rw [vb] at c2
   generalize a / 10 ^ i % 10 = X at *
   generalize b / 10 ^ i % 10 = Y at *
   have hfin : ∀ V : Nat, V = c + X + Y → ((out.set (n - 1 - i) (UInt8.ofNat (48 + V % 10))).drop (n - (i + 1))).all isDg = true ∧ val ((out.set (n - 1 - i) (UInt8.ofNat (48 + V % 10))).drop (n - (i + 1))) + V / 10 * 10 ^ (i + 1) = a % 10 ^ (i + 1) + b % 10 ^ (i + 1) := by
    intro V hV
    have hn := Nat.mod_lt V (show 0 < 10 by omega)
    have hs := Nat.div_add_mod V 10
    have hset := drop_set (s := out) (i := n - 1 - i) (UInt8.ofNat (48 + V % 10)) (by omega)
    rw [show n - 1 - i + 1 = n - i by omega] at hset
    refine ⟨?_, ?_⟩
    ·rw [show n - (i + 1) = n - 1 - i by omega, hset, List.all_cons, hd, dg_isDg hn]; rfl
    ·rw [show n - (i + 1) = n - 1 - i by omega, hset, val_cons, dg_dv hn, List.length_drop, hlen, show n - (n - i) = i by omega, m1, m2, Nat.pow_succ]
     generalize V % 10 = r at *
     generalize V / 10 = q at *
     generalize 10 ^ i = p at *
     have e : p * (10 * q) + p * r = p * c + p * X + p * Y := by rw [← Nat.mul_add, ← Nat.mul_add, ← Nat.mul_add, hs, hV]
     have e2 : q * (p * 10) = p * (10 * q) := by rw [Nat.mul_comm q, Nat.mul_assoc, Nat.mul_comm 10 q]
     rw [e2, Nat.mul_comm r p]
     rw [Nat.mul_comm c p] at hv
     omega
   refine zs0 ?_
   refine W.cond rfl (fun b1 => ?_) (fun b1 => ?_)
   ·have b1 := of_decide_eq_true b1
    have c1 := c1 (by omega)
    refine zs0 ?_
    rw [wrap_i64 (x := (x.length : Int) - 1) (by omega) (by omega), wrap_i64 (x := (x.length : Int) - 1 - i) (by omega) (by omega)]
    refine wS te rfl rfl (by constructor <;> omega) ?_
    refine zs0 ?_
    rw [show ((x.length : Int) - 1 - i).toNat = x.length - 1 - i by omega, c1]
    rw [show ((48 + X : Nat) : Int) - 48 = X by omega, wrap_u8 (x := (X : Int)) (by omega) (by omega), wrap_i64 (x := (X : Int)) (by omega) (by omega), wrap_i64 (x := (c : Int) + X) (by omega) (by omega)]
    refine zs0 ?_
    refine W.cond rfl (fun b2 => ?_) (fun b2 => ?_)
    ·have b2 := of_decide_eq_true b2
     have c2 := c2 (by omega)
     refine zs0 ?_
     rw [wrap_i64 (x := (y.length : Int) - 1) (by omega) (by omega), wrap_i64 (x := (y.length : Int) - 1 - i) (by omega) (by omega)]
     refine wS te rfl rfl (by constructor <;> omega) ?_
     refine zs0 ?_
     rw [show ((y.length : Int) - 1 - i).toNat = y.length - 1 - i by omega, c2]
     rw [show ((48 + Y : Nat) : Int) - 48 = Y by omega, wrap_u8 (x := (Y : Int)) (by omega) (by omega), wrap_i64 (x := (Y : Int)) (by omega) (by omega), wrap_i64 (x := (c : Int) + X + Y) (by omega) (by omega)]
     rw [show (c : Int) + X + Y = ((c + X + Y : Nat) : Int) by omega]
     obtain ⟨V, hV⟩ : ∃ V, V = c + X + Y := ⟨_, rfl⟩
     rw [← hV]
     have hq := hfin V hV
     have hV2 : V < 20 := by omega
     refine zs0 ?_
     rw [show (48 : Int) + (V : Int).tmod 10 = ((48 + V % 10 : Nat) : Int) from rfl]
     have hm := Nat.mod_lt V (show 0 < 10 by omega)
     rw [wrap_i64 (x := ((48 + V % 10 : Nat) : Int)) (by omega) (by omega), wrap_u8 (x := ((48 + V % 10 : Nat) : Int)) (by omega) (by omega), ofNat48 hm]
     rw [wrap_i64 (x := (n : Int) - 1) (by omega) (by omega), wrap_i64 (x := (n : Int) - 1 - i) (by omega) (by omega)]
     refine wS te rfl rfl (by rw [bytes_len]; omega) ?_
     rw [show 0 + ((n : Int) - 1 - i).toNat = n - 1 - i by omega]
     refine WX.stElem tab_eq rfl rfl rfl (bytes_get (s := out) (i := n - 1 - i) (by omega)) rfl rfl rfl ?_
     refine zs0 ?_
     rw [bytes_set, wrap_i64 (x := (i : Int) + 1) (by omega) (by omega), show (V : Int).tdiv 10 = ((V / 10 : Nat) : Int) from rfl, wrap_i64 (x := ((V / 10 : Nat) : Int)) (by omega) (by omega)]
     show ∃ m', _
     exact ⟨n - (i + 1), by omega, V / 10, i + 1, out.set (n - 1 - i) (UInt8.ofNat (48 + V % 10)), rfl, by omega, by simp [hlen], by omega, hq.1, hq.2, rfl⟩
    ·have b2 := of_decide_eq_false b2
     have hY0 : Y = 0 := hgy (by omega)
     rw [show (c : Int) + X = ((c + X + Y : Nat) : Int) by omega]
     obtain ⟨V, hV⟩ : ∃ V, V = c + X + Y := ⟨_, rfl⟩
     rw [← hV]
     have hq := hfin V hV
     have hV2 : V < 20 := by omega
     refine zs0 ?_
     rw [show (48 : Int) + (V : Int).tmod 10 = ((48 + V % 10 : Nat) : Int) from rfl]
     have hm := Nat.mod_lt V (show 0 < 10 by omega)
     rw [wrap_i64 (x := ((48 + V % 10 : Nat) : Int)) (by omega) (by omega), wrap_u8 (x := ((48 + V % 10 : Nat) : Int)) (by omega) (by omega), ofNat48 hm]
     rw [wrap_i64 (x := (n : Int) - 1) (by omega) (by omega), wrap_i64 (x := (n : Int) - 1 - i) (by omega) (by omega)]
     refine wS te rfl rfl (by rw [bytes_len]; omega) ?_
     rw [show 0 + ((n : Int) - 1 - i).toNat = n - 1 - i by omega]
     refine WX.stElem tab_eq rfl rfl rfl (bytes_get (s := out) (i := n - 1 - i) (by omega)) rfl rfl rfl ?_
     refine zs0 ?_
     rw [bytes_set, wrap_i64 (x := (i : Int) + 1) (by omega) (by omega), show (V : Int).tdiv 10 = ((V / 10 : Nat) : Int) from rfl, wrap_i64 (x := ((V / 10 : Nat) : Int)) (by omega) (by omega)]
     show ∃ m', _
     exact ⟨n - (i + 1), by omega, V / 10, i + 1, out.set (n - 1 - i) (UInt8.ofNat (48 + V % 10)), rfl, by omega, by simp [hlen], by omega, hq.1, hq.2, rfl⟩
   ·have b1 := of_decide_eq_false b1
    have hX0 : X = 0 := hgx (by omega)
    refine zs0 ?_
    refine W.cond rfl (fun b2 => ?_) (fun b2 => ?_)
    ·have b2 := of_decide_eq_true b2
     have c2 := c2 (by omega)
     refine zs0 ?_
     rw [wrap_i64 (x := (y.length : Int) - 1) (by omega) (by omega), wrap_i64 (x := (y.length : Int) - 1 - i) (by omega) (by omega)]
     refine wS te rfl rfl (by constructor <;> omega) ?_
     refine zs0 ?_
     rw [show ((y.length : Int) - 1 - i).toNat = y.length - 1 - i by omega, c2]
     rw [show ((48 + Y : Nat) : Int) - 48 = Y by omega, wrap_u8 (x := (Y : Int)) (by omega) (by omega), wrap_i64 (x := (Y : Int)) (by omega) (by omega), wrap_i64 (x := (c : Int) + Y) (by omega) (by omega)]
     rw [show (c : Int) + Y = ((c + X + Y : Nat) : Int) by omega]
     obtain ⟨V, hV⟩ : ∃ V, V = c + X + Y := ⟨_, rfl⟩
     rw [← hV]
     have hq := hfin V hV
     have hV2 : V < 20 := by omega
     refine zs0 ?_
     rw [show (48 : Int) + (V : Int).tmod 10 = ((48 + V % 10 : Nat) : Int) from rfl]
     have hm := Nat.mod_lt V (show 0 < 10 by omega)
     rw [wrap_i64 (x := ((48 + V % 10 : Nat) : Int)) (by omega) (by omega), wrap_u8 (x := ((48 + V % 10 : Nat) : Int)) (by omega) (by omega), ofNat48 hm]
     rw [wrap_i64 (x := (n : Int) - 1) (by omega) (by omega), wrap_i64 (x := (n : Int) - 1 - i) (by omega) (by omega)]
     refine wS te rfl rfl (by rw [bytes_len]; omega) ?_
     rw [show 0 + ((n : Int) - 1 - i).toNat = n - 1 - i by omega]
     refine WX.stElem tab_eq rfl rfl rfl (bytes_get (s := out) (i := n - 1 - i) (by omega)) rfl rfl rfl ?_
     refine zs0 ?_
     rw [bytes_set, wrap_i64 (x := (i : Int) + 1) (by omega) (by omega), show (V : Int).tdiv 10 = ((V / 10 : Nat) : Int) from rfl, wrap_i64 (x := ((V / 10 : Nat) : Int)) (by omega) (by omega)]
     show ∃ m', _
     exact ⟨n - (i + 1), by omega, V / 10, i + 1, out.set (n - 1 - i) (UInt8.ofNat (48 + V % 10)), rfl, by omega, by simp [hlen], by omega, hq.1, hq.2, rfl⟩
    ·have b2 := of_decide_eq_false b2
     have hY0 : Y = 0 := hgy (by omega)
     have hV : c = c + X + Y := by omega
     have hq := hfin c hV
     have hV2 : c < 20 := by omega
     refine zs0 ?_
     rw [show (48 : Int) + (c : Int).tmod 10 = ((48 + c % 10 : Nat) : Int) from rfl]
     have hm := Nat.mod_lt c (show 0 < 10 by omega)
     rw [wrap_i64 (x := ((48 + c % 10 : Nat) : Int)) (by omega) (by omega), wrap_u8 (x := ((48 + c % 10 : Nat) : Int)) (by omega) (by omega), ofNat48 hm]
     rw [wrap_i64 (x := (n : Int) - 1) (by omega) (by omega), wrap_i64 (x := (n : Int) - 1 - i) (by omega) (by omega)]
     refine wS te rfl rfl (by rw [bytes_len]; omega) ?_
     rw [show 0 + ((n : Int) - 1 - i).toNat = n - 1 - i by omega]
     refine WX.stElem tab_eq rfl rfl rfl (bytes_get (s := out) (i := n - 1 - i) (by omega)) rfl rfl rfl ?_
     refine zs0 ?_
     rw [bytes_set, wrap_i64 (x := (i : Int) + 1) (by omega) (by omega), show (c : Int).tdiv 10 = ((c / 10 : Nat) : Int) from rfl, wrap_i64 (x := ((c / 10 : Nat) : Int)) (by omega) (by omega)]
     show ∃ m', _
     exact ⟨n - (i + 1), by omega, c / 10, i + 1, out.set (n - 1 - i) (UInt8.ofNat (48 + c % 10)), rfl, by omega, by simp [hlen], by omega, hq.1, hq.2, rfl⟩
  ·have hlt := of_decide_eq_false hlt
   have hie : i = n := by omega
   subst hie
   rw [Nat.sub_self, List.drop_zero] at hd hv
   have h1 : b % 10 ^ i = b := Nat.mod_eq_of_lt (by omega)
   have h2 : a % 10 ^ i = a := Nat.mod_eq_of_lt (by omega)
   have h4 : val out = a + b := by
    rw [h1, h2] at hv
    rcases (show c = 0 ∨ c = 1 by omega) with rfl | rfl <;> omega
   refine zs0 ?_
   refine WX.convS tab_eq rfl rfl rfl rfl rfl (by rw [List.drop_zero, List.take_length]; exact bytesOf_PV out) ?_
   refine zs0 ?_
   refine wC te rfl rfl rfl rfl rfl (rtrim_T (k := k) out hd (by rintro rfl; simp at hlen; omega) (by omega)) rfl rfl ?_
   refine zs0 ?_
   rw [h4]
   rfl
end Go.PE
namespace Go.PE
open Go.RowKit Go.Proofs.Tryz
set_option maxRecDepth 100000
variable {k : Nat}
theorem rparse_Q (q : Rat) (h : (rs q).length < 268435456) : T (k + 6) 96 [.str (rs q)] = some (.tup [.agg [.bool (decide (q.num < 0)), .str (dec q.num.natAbs), .str (dec q.den)], .bool true], []) := by
 have h1 := rparse_T (k := k) (rs q) h
 unfold rdA at h1
 rw [rd_rs] at h1
 exact h1
set_option maxHeartbeats 1000000 in
theorem radd_Q (p q : Rat) {L : Nat} (hp : szQ p L) (hq : szQ q L) (hL : L ≤ 400000) : T (k + 7) 94 [.str (rs p), .str (rs q)] = some (.str (rs (p + q)), []) := by
 have lp := hp.len
 have lq := hq.len
 have h1 := rparse_Q (k := k) p (by omega)
 have h2 := rparse_Q (k := k) q (by omega)
 have ap := hp.1
 have bp := hp.2
 have aq := hq.1
 have bq := hq.2
 have m1 := mulMag_T (k := k + 4) p.num.natAbs q.den (by omega) (by omega)
 have m2 := mulMag_T (k := k + 4) q.num.natAbs p.den (by omega) (by omega)
 have m3 := mulMag_T (k := k + 4) p.den q.den (by omega) (by omega)
 have l1 := dec_mul_len p.num.natAbs q.den
 have l2 := dec_mul_len q.num.natAbs p.den
 have l3 := dec_mul_len p.den q.den
 have d0 : p.den * q.den ≠ 0 := Nat.mul_ne_zero p.den_nz q.den_nz
 have hs := add_rs p q
 generalize decide (p.num < 0) = x at *
 generalize decide (q.num < 0) = y at *
 generalize p.num.natAbs * q.den = a at *
 generalize q.num.natAbs * p.den = b at *
 generalize p.den * q.den = c at *
 have l4 := dec_len_mono (adN_le x y a b)
 have l5 := dec_add_len a b
 have hr := rreduce_T (k := k + 1) (adN x y a b).1 (adN x y a b).2 c d0 (by omega) (by omega)
 have hx := red_text (k := k + 5) (adN x y a b).1 (adN x y a b).2 c d0 (by omega) (by omega)
 rw [hs] at hx
 have hc := cmpMag_T (k := k + 5) a b
 refine enter rfl func94 rfl (by decide) (by kernel_rfl) rfl rfl ?_
 refine zs1 h1 ?_
 refine zs2 h2 ?_
 refine zd2 m1 ?_
 refine zd4 m2 ?_
 refine zd5 m3 ?_
 refine W.cond rfl (fun b1 => ?_) (fun b1 => ?_)
 ·have b1 : x = y := by simpa using b1
  have e : adN x y a b = (x, a + b) := if_pos b1
  rw [e] at hr hx
  refine zd8 ?_
  refine wG te rfl rfl rfl rfl rfl (addMag_T (k := k + 4) a b (by omega) (by omega)) rfl rfl ?_
  refine zd2 hr ?_
  refine zd5 hx ?_
  rfl
 ·have b1 : ¬ x = y := by simpa using b1
  refine zs1 hc ?_
  refine W.cond rfl (fun b2 => ?_) (fun b2 => ?_)
  ·have b2 := of_decide_eq_true b2
   have hle : b ≤ a := by
    apply Nat.le_of_not_lt; intro h; rw [if_pos h] at b2; omega
   have e : adN x y a b = (x, a - b) := by unfold adN; rw [if_neg b1, if_pos hle]
   rw [e] at hr hx
   refine zd8 ?_
   refine wG te rfl rfl rfl rfl rfl (subMag_T (k := k + 4) a b hle (by omega)) rfl rfl ?_
   refine zd2 hr ?_
   refine zd5 hx ?_
   rfl
  ·have b2 := of_decide_eq_false b2
   have hle : ¬ b ≤ a := by
    intro h; apply b2; split
    ·omega
    ·split <;> omega
   have e : adN x y a b = (y, b - a) := by unfold adN; rw [if_neg b1, if_neg hle]
   rw [e] at hr hx
   refine zd8 ?_
   refine wG te rfl rfl rfl rfl rfl (subMag_T (k := k + 4) b a (by omega) (by omega)) rfl rfl ?_
   refine zd2 hr ?_
   refine zd5 hx ?_
   rfl
end Go.PE
namespace Go.PE
open Go.RowKit Go.Proofs.Tryz
set_option maxRecDepth 100000
variable {k : Nat}
theorem decOne : dec 1 = [49] := (decN_eq 1).symm.trans rfl
theorem rsign_Q (q : Rat) (h : (rs q).length < 268435456) : T (k + 7) 76 [.str (rs q)] = some (.int .i64 (sgn q), []) := by
 rw [rsign_T _ h, rd_rs]
theorem rvalid_Q (q : Rat) (h : (rs q).length < 268435456) : T (k + 7) 73 [.str (rs q)] = some (.bool true, []) := by
 rw [rvalid_T _ h, rd_rs]; rfl
end Go.PE
namespace Go.PE
open Go.RowKit Go.Proofs.Tryz
set_option maxRecDepth 100000
variable {k : Nat}
theorem szQ_mk {n : Int} {d : Nat} (hd : d ≠ 0) {L : Nat} (h1 : (dec n.natAbs).length ≤ L) (h2 : (dec d).length ≤ L) : szQ (mkRat n d) L := by
 have hg : 0 < Nat.gcd d n.natAbs := Nat.gcd_pos_of_pos_left _ (by omega)
 unfold szQ
 rw [Rat.num_mkRat, Rat.den_mkRat, if_neg hd, if_neg hd]
 constructor
 ·refine Nat.le_trans (dec_len_mono ?_) h1
  rw [Int.natAbs_ediv_of_dvd (Int.ofNat_dvd_left.2 (Nat.gcd_dvd_right _ _)), Int.natAbs_natCast]
  exact Nat.div_le_self _ _
 ·exact Nat.le_trans (dec_len_mono (Nat.div_le_self _ _)) h2
theorem szQ_mul {p q : Rat} {L M : Nat} (hp : szQ p L) (hq : szQ q M) : szQ (p * q) (L + M) := by
 rw [← mul_rs]
 refine szQ_mk (Nat.mul_ne_zero p.den_nz q.den_nz) ?_ ?_
 ·rw [sg_natAbs]
  have := dec_mul_len p.num.natAbs q.num.natAbs
  have := hp.1; have := hq.1; omega
 ·have := dec_mul_len p.den q.den
  have := hp.2; have := hq.2; omega
theorem szQ_div {p q : Rat} {L M : Nat} (h0 : q ≠ 0) (hp : szQ p L) (hq : szQ q M) : szQ (p / q) (L + M) := by
 have n0 : q.num ≠ 0 := fun e => h0 (Rat.num_eq_zero.1 e)
 rw [← div_rs _ _ n0]
 refine szQ_mk (Nat.mul_ne_zero p.den_nz (by omega)) ?_ ?_
 ·rw [sg_natAbs]
  have := dec_mul_len p.num.natAbs q.den
  have := hp.1; have := hq.2; omega
 ·have := dec_mul_len p.den q.num.natAbs
  have := hp.2; have := hq.1; omega
theorem szQ_add {p q : Rat} {L M : Nat} (hp : szQ p L) (hq : szQ q M) : szQ (p + q) (2 * (L + M)) := by
 rw [← add_rs]
 refine szQ_mk (Nat.mul_ne_zero p.den_nz q.den_nz) ?_ ?_
 ·rw [sg_natAbs]
  have := dec_len_mono (adN_le (decide (p.num < 0)) (decide (q.num < 0)) (p.num.natAbs * q.den) (q.num.natAbs * p.den))
  have := dec_add_len (p.num.natAbs * q.den) (q.num.natAbs * p.den)
  have := dec_mul_len p.num.natAbs q.den
  have := dec_mul_len q.num.natAbs p.den
  have := hp.1; have := hp.2; have := hq.1; have := hq.2; omega
 ·have := dec_mul_len p.den q.den
  have := hp.2; have := hq.2; omega
theorem szQ.sm {q : Rat} {L : Nat} (h : szQ q L) (hL : L ≤ 400000) : smQ q := by
 unfold szQ at h; unfold smQ; omega
end Go.PE
namespace Go.PE
open Go.RowKit Go.Proofs.Tryz
set_option maxRecDepth 100000
variable {k : Nat}
abbrev QT := Bs × Rat
def tx (us : List QT) : List Trm := us.map fun u => (u.1, rs u.2)
def linP (kd : Int) (us : List QT) (c : Rat) : PV := .agg [.int .i64 kd, .imm 2 (trow (tx us)), .str (rs c)]
def mulU (us : List QT) (q : Rat) : List QT := us.map fun u => (u.1, u.2 * q)
def scU (us : List QT) (q : Rat) : List QT := if q = 0 then [] else mulU us q
theorem tx_len (us : List QT) : (tx us).length = us.length := by simp [tx]
theorem mulU_len (us : List QT) (q : Rat) : (mulU us q).length = us.length := by simp [mulU]
theorem getD_mem {us : List QT} {i : Nat} (h : i < us.length) : us.getD i ([], 0) ∈ us := by
 simp [List.getD, List.getElem?_eq_getElem h]
theorem tx_get {us : List QT} {i : Nat} (h : i < us.length) : (trow (tx us))[i]? = some [.str (us.getD i ([], 0)).1, .str (rs (us.getD i ([], 0)).2)] := by
 unfold trow tx
 rw [List.getElem?_map, List.getElem?_map, List.getElem?_eq_getElem h]
 simp [List.getD, List.getElem?_eq_getElem h]
theorem take_snoc {us : List QT} {i : Nat} (h : i < us.length) : us.take (i + 1) = us.take i ++ [us.getD i ([], 0)] := by
 rw [List.take_succ, List.getElem?_eq_getElem h]
 simp [List.getD, List.getElem?_eq_getElem h]
theorem scale_T (kd : Int) (us : List QT) (c q : Rat) {L : Nat} (hc : szQ c L) (hq : szQ q L) (hu : ∀ u ∈ us, szQ u.2 L) (hL : L ≤ 4000000) (hl : us.length < 1073741824) :
  T (k + 10) 82 [linP kd us c, .str (rs q)] = some (linP kd (scU us q) (c * q), []) := by
 have m1 := mul_Q (k := k) c q hc hq hL
 refine enter rfl func82 rfl (by decide) (by kernel_rfl) rfl rfl ?_
 refine zd1 m1 ?_
 refine W.cond rfl (fun b1 => ?_) (fun b1 => ?_)
 ·have hq0 : q = 0 := by
   have h : rs q = [48] := of_decide_eq_true b1
   exact rs_inj (h.trans rs_zero.symm)
  unfold scU
  rw [if_pos hq0]
  refine zs0 ?_
  rfl
 ·refine zs0 ?_
  have hq0 : q ≠ 0 := fun e => of_decide_eq_false b1 (by rw [e]; exact rs_zero)
  refine W.loop (fun e m => ∃ (i : Nat), e = [(1, .str (rs q)), (2, .box (0, 0) [.int .i64 kd, .imm 2 (trow (tx us)), .str (rs c)]), (4, .box (0, 0) [.int .i64 0, .own (0, 0) 2 [], .str []]), (5, .box (0, 0) [.int .i64 kd, .own (0, 0) 2 (trow (tx (mulU (us.take i) q))), .str (rs (c * q))]), (18, .loc 2 (0, 0) 1), (19, .imm 2 (trow (tx us))), (20, .int .i64 (trow (tx us)).length), (21, .int .i64 i)] ∧
   i ≤ us.length ∧ m = us.length - i) us.length ?_ ?_ ?_
  ·refine ⟨0, ?_, by omega, by omega⟩
   rw [List.take_zero]
   rfl
  ·show _ < 4611686018427387904; omega
  ·rintro e m ⟨i, rfl, hi, rfl⟩
   refine zs0 ?_
   refine W.cond rfl (fun hlt => ?_) (fun hlt => ?_)
   ·have hlt := of_decide_eq_true hlt
    rw [trow_len, tx_len] at hlt
    have hget : (trow (tx us))[i]? = some [.str (us.getD i ([], 0)).1, .str (rs (us.getD i ([], 0)).2)] := tx_get (by omega)
    have hm := mul_Q (k := k) (us.getD i ([], 0)).2 q (hu _ (getD_mem (by omega))) hq hL
    refine zs0 ?_
    refine wI te rfl rfl rfl rfl rfl rfl (by omega) (hget) ?_
    refine zd8 ?_
    refine zd4 hm ?_
    refine wD te rfl rfl (by simp [trow_len, tx_len, mulU_len]; omega) ?_
    refine zd7 ?_
    rw [wrap_i64 (x := (i : Int) + 1) (by omega) (by omega)]
    show ∃ m', _
    refine ⟨us.length - (i + 1), by omega, i + 1, ?_, by omega, rfl⟩
    have e : (trow (tx (mulU (us.take i) q))).take (trow (tx (mulU (us.take i) q))).length ++ [[PV.str (us.getD i ([], 0)).1, .str (rs ((us.getD i ([], 0)).2 * q))]] = trow (tx (mulU (us.take (i + 1)) q)) := by
     rw [List.take_length, take_snoc (show i < us.length by omega)]; simp [trow, tx, mulU]
    rw [← e]
    rfl
   ·have hlt := of_decide_eq_false hlt
    rw [trow_len, tx_len] at hlt
    have hie : i = us.length := by omega
    subst hie
    rw [List.take_length]
    unfold scU
    rw [if_neg hq0]
    refine zs0 ?_
    rfl
end Go.PE
namespace Go.PE
open Go.RowKit Go.Proofs.Tryz
set_option maxRecDepth 100000
variable {k : Nat}
theorem times_T (kd : Int) (us : List QT) (c q : Rat) {L : Nat} (hc : szQ c L) (hq : szQ q L) (hu : ∀ u ∈ us, szQ u.2 L) (hL : L ≤ 400000) (hl : us.length < 1073741824) :
  T (k + 8) 92 [linP kd us c, .str (rs q)] = some (linP kd (scU us q) (c * q), []) := by
 have m1 := rmul_T (k := k) c q (hc.sm hL) (hq.sm hL)
 refine enter rfl func92 rfl (by decide) (by kernel_rfl) rfl rfl ?_
 refine zd1 m1 ?_
 refine W.loop (fun e m => ∃ (i : Nat), e = [(1, .str (rs q)), (2, .box (0, 0) [.int .i64 kd, .imm 2 (trow (tx us)), .str (rs c)]), (4, .box (0, 0) [.int .i64 0, .own (0, 0) 2 [], .str []]), (5, .box (0, 0) [.int .i64 kd, .own (0, 0) 2 (trow (tx (mulU (us.take i) q))), .str (rs (c * q))]), (6, .int .i64 i)] ∧
  i ≤ us.length ∧ (i = 0 ∨ q ≠ 0) ∧ m = us.length - i) us.length ?_ ?_ ?_
 ·refine ⟨0, ?_, by omega, .inl rfl, by omega⟩
  rw [List.take_zero]
  rfl
 ·show _ < 4611686018427387904; omega
 ·rintro e m ⟨i, rfl, hi, hz, rfl⟩
  refine zs0 ?_
  refine WX.boolM rfl rfl (fun hlt => ?_) (fun hlt => ?_)
  ·have hlt := of_decide_eq_true hlt
   rw [trow_len, tx_len] at hlt
   have hget : (trow (tx us))[i]? = some [.str (us.getD i ([], 0)).1, .str (rs (us.getD i ([], 0)).2)] := tx_get (by omega)
   have hm := rmul_T (k := k) (us.getD i ([], 0)).2 q ((hu _ (getD_mem (by omega))).sm hL) (hq.sm hL)
   refine zs0 ?_
   refine W.cond rfl (fun b1 => ?_) (fun b1 => ?_)
   ·have hq0 : q ≠ 0 := fun e => of_decide_eq_true b1 (by rw [e]; exact rs_zero)
    refine zd8 ?_
    refine WX.idxImmD tab_eq rfl rfl rfl rfl rfl rfl (by omega) (hget) ?_
    refine zd0 ?_
    refine WX.idxImmD tab_eq rfl rfl rfl rfl rfl rfl (by omega) (hget) ?_
    refine zd2 hm ?_
    refine wD te rfl rfl (by simp [trow_len, tx_len, mulU_len]; omega) ?_
    refine zd7 ?_
    rw [wrap_i64 (x := (i : Int) + 1) (by omega) (by omega)]
    show ∃ m', _
    refine ⟨us.length - (i + 1), by omega, i + 1, ?_, by omega, .inr hq0, rfl⟩
    have e : (trow (tx (mulU (us.take i) q))).take (trow (tx (mulU (us.take i) q))).length ++ [[PV.str (us.getD i ([], 0)).1, .str (rs ((us.getD i ([], 0)).2 * q))]] = trow (tx (mulU (us.take (i + 1)) q)) := by
     rw [List.take_length, take_snoc (show i < us.length by omega)]; simp [trow, tx, mulU]
    rw [← e]
    rfl
   ·have hq0 : q = 0 := by
     have h : rs q = [48] := Classical.not_not.1 (of_decide_eq_false b1)
     exact rs_inj (h.trans rs_zero.symm)
    have h0 : i = 0 := by rcases hz with h | h; exact h; exact absurd hq0 h
    subst h0
    unfold scU
    rw [if_pos hq0, List.take_zero]
    refine zs0 ?_
    rfl
  ·have hlt := of_decide_eq_false hlt
   rw [trow_len, tx_len] at hlt
   have hie : i = us.length := by omega
   subst hie
   have e : scU us q = mulU us q := by
    unfold scU
    rcases hz with h | h
    ·rw [List.eq_nil_of_length_eq_zero h]; simp [mulU]
    ·rw [if_neg h]
   rw [List.take_length, e]
   refine zs0 ?_
   rfl
end Go.PE
namespace Go.PE
open Go.RowKit Go.Proofs.Tryz
set_option maxRecDepth 100000
variable {k : Nat}
def lcmU (d : Nat) (us : List QT) : Nat := us.foldl (fun d u => Nat.lcm d u.2.den) d
def zU (d : Nat) (u : QT) : Int := u.2.num * ((d / u.2.den : Nat) : Int)
def gcdU (d : Nat) (us : List QT) : Nat := us.foldl (fun g u => Nat.gcd g (zU d u).natAbs) 0
theorem lcmU_snoc (d : Nat) (us : List QT) (u : QT) : lcmU d (us ++ [u]) = Nat.lcm (lcmU d us) u.2.den := by simp [lcmU]
theorem gcdU_snoc (d : Nat) (us : List QT) (u : QT) : gcdU d (us ++ [u]) = Nat.gcd (gcdU d us) (zU d u).natAbs := by simp [gcdU]
theorem lcmU_pos {d : Nat} (hd : d ≠ 0) : ∀ {us : List QT}, lcmU d us ≠ 0 := by
 intro us
 induction us generalizing d with
 | nil => exact hd
 | cons u us ih => exact ih (Nat.lcm_ne_zero hd u.2.den_nz)
theorem lcm_len {a b : Nat} : (dec (Nat.lcm a b)).length ≤ (dec a).length + (dec b).length :=
 Nat.le_trans (dec_len_mono (show Nat.lcm a b ≤ a * b from Nat.div_le_self _ _)) (dec_mul_len a b)
theorem lcmU_len {M : Nat} : ∀ {us : List QT} {d : Nat}, (∀ u ∈ us, szQ u.2 M) → (dec (lcmU d us)).length ≤ (dec d).length + M * us.length
 | [], d, _ => by simp [lcmU]
 | u :: us, d, h => by
  have h1 := lcmU_len (us := us) (d := Nat.lcm d u.2.den) fun x hx => h x (by simp [hx])
  have h2 := (h u (by simp)).2
  have h3 := @lcm_len d u.2.den
  have e : lcmU d (u :: us) = lcmU (Nat.lcm d u.2.den) us := rfl
  rw [e, List.length_cons, Nat.mul_succ]
  omega
theorem lcmU_dvd : ∀ {us : List QT} {d : Nat}, d ∣ lcmU d us ∧ ∀ u ∈ us, u.2.den ∣ lcmU d us
 | [], d => ⟨Nat.dvd_refl _, fun u hu => by cases hu⟩
 | u :: us, d => by
  obtain ⟨h1, h2⟩ := lcmU_dvd (us := us) (d := Nat.lcm d u.2.den)
  have e : lcmU d (u :: us) = lcmU (Nat.lcm d u.2.den) us := rfl
  rw [e]
  refine ⟨Nat.dvd_trans (Nat.dvd_lcm_left _ _) h1, fun x hx => ?_⟩
  rcases List.mem_cons.1 hx with rfl | hx
  ·exact Nat.dvd_trans (Nat.dvd_lcm_right _ _) h1
  ·exact h2 x hx
theorem divInt_one' (n : Int) : Rat.divInt n 1 = (n : Rat) := by
 show mkRat n 1 = _
 rw [Rat.mkRat_one]
theorem zU_eq {d : Nat} {u : QT} (h : u.2.den ∣ d) : u.2 * ((d : Int) : Rat) = ((zU d u : Int) : Rat) := by
 obtain ⟨x, rfl⟩ := h
 unfold zU
 have dp := u.2.den_pos
 rw [Nat.mul_div_cancel_left _ dp]
 have e1 : ((((u.2.den * x : Nat) : Int)) : Rat) = Rat.divInt ((u.2.den * x : Nat) : Int) 1 := (divInt_one' _).symm
 have e2 : ((u.2.num * (x : Int) : Int) : Rat) = Rat.divInt (u.2.num * (x : Int)) 1 := (divInt_one' _).symm
 rw [e1, e2]
 have h : u.2 * Rat.divInt ((u.2.den * x : Nat) : Int) 1 = Rat.divInt u.2.num u.2.den * Rat.divInt ((u.2.den * x : Nat) : Int) 1 := by rw [Rat.num_divInt_den]
 rw [h, Rat.divInt_mul_divInt]
 refine (Rat.divInt_eq_divInt_iff (by omega) (by omega)).2 ?_
 rw [Int.natCast_mul, Int.mul_one, Int.mul_one, Int.mul_comm (u.2.den : Int) (x : Int), ← Int.mul_assoc]
theorem gcd_len (a b : Nat) : (dec (Nat.gcd a b)).length ≤ max (dec a).length (dec b).length := by
 rcases Nat.eq_zero_or_pos a with h | h
 ·subst h; rw [Nat.gcd_zero_left]; omega
 ·have := dec_len_mono (Nat.gcd_le_left b h); omega
theorem gcdU_len0 {d M : Nat} : ∀ {us : List QT} {g : Nat}, (dec g).length ≤ M → (∀ u ∈ us, (dec (zU d u).natAbs).length ≤ M) → (dec (us.foldl (fun g u => Nat.gcd g (zU d u).natAbs) g)).length ≤ M
 | [], _, h, _ => h
 | u :: us, g, h, hz => by
  refine gcdU_len0 (us := us) ?_ fun x hx => hz x (by simp [hx])
  show (dec (g.gcd (zU d u).natAbs)).length ≤ M
  have := gcd_len g (zU d u).natAbs
  have := hz u (by simp)
  omega
theorem gcdU_len {d M : Nat} {us : List QT} (h0 : 1 ≤ M) (h : ∀ u ∈ us, (dec (zU d u).natAbs).length ≤ M) : (dec (gcdU d us)).length ≤ M :=
 gcdU_len0 (by rw [dec_zero]; exact h0) h
theorem zU_len {d : Nat} {u : QT} {M : Nat} (h : szQ u.2 M) : (dec (zU d u).natAbs).length ≤ M + (dec d).length := by
 unfold zU
 rw [Int.natAbs_mul, Int.natAbs_natCast]
 have := dec_mul_len u.2.num.natAbs (d / u.2.den)
 have := dec_len_mono (Nat.div_le_self d u.2.den)
 have := h.1
 omega
theorem zU_ne {d : Nat} {u : QT} (hd : d ≠ 0) (h : u.2.den ∣ d) (h0 : u.2 ≠ 0) : zU d u ≠ 0 := by
 unfold zU
 obtain ⟨x, rfl⟩ := h
 have dp := u.2.den_pos
 rw [Nat.mul_div_cancel_left _ dp]
 refine Int.mul_ne_zero (fun e => h0 (Rat.num_eq_zero.1 e)) ?_
 intro e
 have : x = 0 := by omega
 subst this
 simp at hd
theorem gcdU_ne0 {d : Nat} : ∀ {us : List QT} {g : Nat}, (g ≠ 0 ∨ us ≠ []) → (∀ u ∈ us, zU d u ≠ 0) → us.foldl (fun g u => Nat.gcd g (zU d u).natAbs) g ≠ 0
 | [], g, h, _ => by rcases h with h | h; exact h; exact absurd rfl h
 | u :: us, g, _, hz => by
  refine gcdU_ne0 (us := us) (.inl ?_) fun x hx => hz x (by simp [hx])
  show g.gcd (zU d u).natAbs ≠ 0
  have := hz u (by simp)
  have := Nat.gcd_pos_of_pos_right g (show 0 < (zU d u).natAbs by omega)
  omega
def prim (us : List QT) : Rat := ((lcmU 1 us : Int) : Rat) / ((gcdU (lcmU 1 us) us : Int) : Rat)
def goodU (us : List QT) : Prop := us.length ≤ 8 ∧ ∀ u ∈ us, szQ u.2 1000 ∧ u.2 ≠ 0
theorem primitive_T (us : List QT) (h : goodU us) (hne : us ≠ []) : T (k + 12) 80 [.imm 2 (trow (tx us))] = some (.str (rs (prim us)), []) := by
  obtain ⟨hl, hu⟩ := h
  have hsz : ∀ u ∈ us, szQ u.2 1000 := fun u h => (hu u h).1
  have ld : ∀ i, (dec (lcmU 1 (us.take i))).length ≤ 9001 := fun i => by
    have h1 := lcmU_len (us := us.take i) (d := 1) (M := 1000) fun u hu => hsz u (List.mem_of_mem_take hu)
    rw [dec1_len, List.length_take] at h1
    have := Nat.min_le_right i us.length
    omega
  refine enter rfl func80 rfl (by decide) (by kernel_rfl) rfl rfl ?_
  refine zs0 ?_
  refine W.loop (fun e m => ∃ (i : Nat), e = [(0, .imm 2 (trow (tx us))), (3, .str (rs ((lcmU 1 (us.take i) : Nat) : Int))), (4, .str [48]), (9, .imm 2 (trow (tx us))), (10, .int .i64 (trow (tx us)).length), (11, .int .i64 i)] ∧
    i ≤ us.length ∧ m = us.length - i) us.length ?_ ?_ ?_
  · refine ⟨0, ?_, by omega, by omega⟩
    rw [List.take_zero, rs_nat, show dec (lcmU 1 []) = [49] from decOne]
    rfl
  · show _ < 4611686018427387904; omega
  · rintro e m ⟨i, rfl, hi, rfl⟩
    refine zs0 ?_
    refine W.cond rfl (fun hlt => ?_) (fun hlt => ?_)
    · have hlt := of_decide_eq_true hlt
      rw [trow_len, tx_len] at hlt
      have hget : (trow (tx us))[i]? = some [.str (us.getD i ([], 0)).1, .str (rs (us.getD i ([], 0)).2)] := tx_get (by omega)
      have hmem := getD_mem (us := us) (i := i) (by omega)
      have hs := hsz _ hmem
      have hl1 := hs.len
      have hden := den_Q (k := k + 4) (us.getD i ([], 0)).2 (by omega)
      have hlcm := lcm_Q (k := k + 1) (lcmU 1 (us.take i)) (us.getD i ([], 0)).2.den (lcmU_pos (by omega)) (us.getD i ([], 0)).2.den_nz (ld i) (Nat.le_trans hs.2 (by omega)) (by omega)
      refine zs0 ?_
      refine wI te rfl rfl rfl rfl rfl rfl (by omega) (hget) ?_
      refine zs1 hden ?_
      refine zs2 hlcm ?_
      rw [wrap_i64 (x := (i : Int) + 1) (by omega) (by omega)]
      show ∃ m', _
      refine ⟨us.length - (i + 1), by omega, i + 1, ?_, by omega, rfl⟩
      rw [take_snoc (show i < us.length by omega), lcmU_snoc]
      rfl
    · have hlt := of_decide_eq_false hlt
      rw [trow_len, tx_len] at hlt
      have hie : i = us.length := by omega
      subst hie
      rw [List.take_length]
      have ldd := ld us.length
      rw [List.take_length] at ldd
      have hdvd := (lcmU_dvd (us := us) (d := 1)).2
      have hd0 : lcmU 1 us ≠ 0 := lcmU_pos (by omega)
      unfold prim
      generalize lcmU 1 us = D at *
      have hz : ∀ u ∈ us, (dec (zU D u).natAbs).length ≤ 10001 := fun u h => by have := zU_len (d := D) (hsz u h); omega
      have hg : ∀ i, (dec (gcdU D (us.take i))).length ≤ 10001 := fun i => gcdU_len (by omega) fun u h => hz u (List.mem_of_mem_take h)
      refine zs0 ?_
      refine W.loop (fun e m => ∃ (i : Nat), e = [(0, .imm 2 (trow (tx us))), (3, .str (rs ((D : Nat) : Int))), (4, .str (rs ((gcdU D (us.take i) : Nat) : Int))), (21, .imm 2 (trow (tx us))), (22, .int .i64 (trow (tx us)).length), (23, .int .i64 i)] ∧
        i ≤ us.length ∧ m = us.length - i) us.length ?_ ?_ ?_
      · refine ⟨0, ?_, by omega, by omega⟩
        rw [List.take_zero, rs_nat (gcdU D []), show dec (gcdU D []) = [48] from dec_zero]
        rfl
      · show _ < 4611686018427387904; omega
      · rintro e m ⟨i, rfl, hi, rfl⟩
        refine zs0 ?_
        refine W.cond rfl (fun hlt => ?_) (fun hlt => ?_)
        · have hlt := of_decide_eq_true hlt
          rw [trow_len, tx_len] at hlt
          have hget : (trow (tx us))[i]? = some [.str (us.getD i ([], 0)).1, .str (rs (us.getD i ([], 0)).2)] := tx_get (by omega)
          have hmem := getD_mem (us := us) (i := i) (by omega)
          have hm := mul_Q (k := k + 2) (us.getD i ([], 0)).2 ((D : Int) : Rat) (L := 9001) ((hsz _ hmem).mono (by omega)) (szZ (by show (dec D).length ≤ _; omega)) (by omega)
          rw [zU_eq (hdvd _ hmem)] at hm
          have hgc := gcd_Q (k := k + 5) ((gcdU D (us.take i) : Nat) : Int) (zU D (us.getD i ([], 0))) (L := 10001) (hg i) (hz _ hmem) (by omega)
          refine zs0 ?_
          refine wI te rfl rfl rfl rfl rfl rfl (by omega) (hget) ?_
          refine zs1 hm ?_
          refine zs2 hgc ?_
          rw [wrap_i64 (x := (i : Int) + 1) (by omega) (by omega)]
          show ∃ m', _
          refine ⟨us.length - (i + 1), by omega, i + 1, ?_, by omega, rfl⟩
          rw [take_snoc (show i < us.length by omega), gcdU_snoc]
          rfl
        · have hlt := of_decide_eq_false hlt
          rw [trow_len, tx_len] at hlt
          have hie : i = us.length := by omega
          subst hie
          have hgl := hg us.length
          rw [List.take_length] at hgl ⊢
          have hg0 : gcdU D us ≠ 0 := gcdU_ne0 (.inr hne) fun u h => zU_ne hd0 (hdvd u h) (hu u h).2
          have hdiv := div_Q (k := k + 2) ((D : Int) : Rat) ((gcdU D us : Int) : Rat) (by intro h; have : (gcdU D us : Int) = 0 := by exact_mod_cast h
                                                                                          omega) (L := 10001) (szZ (by show (dec D).length ≤ _; omega)) (szZ hgl) (by omega)
          refine zs1 hdiv ?_
          rfl
end Go.PE
namespace Go.PE
open Go.RowKit Go.Proofs.Tryz
set_option maxRecDepth 100000
variable {k : Nat}
def conQ (rel kd : Int) (us : List QT) (c : Rat) (m : Bs) : PV := .agg [.int .i64 rel, .int .i64 kd, .imm 2 (trow (tx us)), .str (rs c), .str m]
def truQ (kd : Int) (b : Bool) : PV := .agg [.int .i64 (if b then 1 else 2), .int .i64 kd, .imm 2 [], .str [48], .str []]
theorem truth_T (kd : Int) (b : Bool) : T (k + 1) 78 [.int .i64 kd, .bool b] = some (truQ kd b, []) := by
 cases b
 ·refine enter rfl func78 rfl (by decide) (by kernel_rfl) rfl rfl ?_
  refine zs0 ?_
  rfl
 ·refine enter rfl func78 rfl (by decide) (by kernel_rfl) rfl rfl ?_
  refine zs0 ?_
  rfl
theorem const_T (kd : Int) (s : Bs) : T k 176 [.int .i64 kd, .str s] = some (.agg [.int .i64 kd, .nils 2, .str s], []) := byX rfl
def cmpQ (rel : Int) (q : Rat) : Bool := if rel = 1 then decide (sgn q ≤ 0) else if rel = 2 then decide (sgn q < 0) else decide (q = 0)
theorem rs_is0 (q : Rat) : rs q = [48] ↔ q = 0 := ⟨fun h => rs_inj (h.trans rs_zero.symm), fun h => by rw [h]; exact rs_zero⟩
theorem compare_T (rel : Int) (q : Rat) (hrel : rel = 1 ∨ rel = 2 ∨ rel = 3) (h : (rs q).length < 150994900) : T (k + 8) 79 [.int .i64 rel, .str (rs q)] = some (.bool (cmpQ rel q), []) := by
 have hs := sign_Q (k := k) q h
 rcases hrel with rfl | rfl | rfl
 ·refine enter rfl func79 rfl (by decide) (by kernel_rfl) rfl rfl ?_
  refine zs1 hs ?_
  rfl
 ·refine enter rfl func79 rfl (by decide) (by kernel_rfl) rfl rfl ?_
  refine zs1 hs ?_
  rfl
 ·refine enter rfl func79 rfl (by decide) (by kernel_rfl) rfl rfl ?_
  refine zs0 ?_
  (refine (congrArg (fun b => some (PV.bool b, [])) ?_ : some (PV.bool _, []) = some (PV.bool _, [])); show decide (rs q = [48]) = decide (q = 0); simp only [rs_is0])
end Go.PE
namespace Go.PE
open Go.RowKit Go.Proofs.Tryz
set_option maxRecDepth 100000
variable {k : Nat}
def kQ (rel : Int) (us : List QT) : Rat := if rel = 3 ∧ (us.getD 0 ([], 0)).2.num < 0 then -prim us else prim us
def nrmV (rel kd : Int) (us : List QT) (c : Rat) : PV :=
 if us = [] then truQ kd (cmpQ rel c) else
 if kd = 3 then conQ rel kd (scU us (kQ rel us)) (c * kQ rel us) [] else
 if rel = 1 then conQ 1 kd (scU us (kQ rel us)) (-(flQ (-(c * kQ rel us)) : Rat)) [] else
 if rel = 2 then conQ 1 kd (scU us (kQ rel us)) ((flQ (c * kQ rel us) : Rat) + 1) [] else
 if (c * kQ rel us).den = 1 then conQ rel kd (scU us (kQ rel us)) (c * kQ rel us) [] else truQ kd false
theorem prim_sz {us : List QT} (h : goodU us) : szQ (prim us) 20000 := by
  obtain ⟨hl, hu⟩ := h
  by_cases hne : us = []
  · subst hne
    unfold prim
    rw [show ((lcmU 1 [] : Nat) : Int) = 1 from rfl, show ((gcdU (lcmU 1 []) [] : Nat) : Int) = 0 from rfl]
    rw [show ((0 : Int) : Rat) = 0 from rfl, Rat.div_def, Rat.inv_zero, Rat.mul_zero]
    exact szZ (a := 0) (by rw [show (0 : Int).natAbs = 0 from rfl, dec_zero]; simp)
  have hsz : ∀ u ∈ us, szQ u.2 1000 := fun u h => (hu u h).1
  have h1 := lcmU_len (us := us) (d := 1) (M := 1000) hsz
  rw [dec1_len] at h1
  have hdvd := (lcmU_dvd (us := us) (d := 1)).2
  have hd0 : lcmU 1 us ≠ 0 := lcmU_pos (by omega)
  unfold prim
  generalize lcmU 1 us = D at *
  have hz : ∀ u ∈ us, (dec (zU D u).natAbs).length ≤ 9999 := fun u h => by have := zU_len (d := D) (hsz u h); omega
  have hgl := gcdU_len (d := D) (us := us) (M := 9999) (by omega) hz
  have hg0 : gcdU D us ≠ 0 := gcdU_ne0 (.inr hne) fun u h => zU_ne hd0 (hdvd u h) (hu u h).2
  exact (szQ_div (by intro h; have : (gcdU D us : Int) = 0 := by exact_mod_cast h
                     omega) (szZ (a := (D : Int)) (L := 9001) (by show (dec D).length ≤ _; omega)) (szZ (a := (gcdU D us : Int)) hgl)).mono (by omega)
theorem kQ_sz {rel : Int} {us : List QT} (h : goodU us) : szQ (kQ rel us) 20000 := by
 unfold kQ; split
 ·exact (prim_sz h).neg
 ·exact prim_sz h
theorem isInt_Q (q : Rat) (h : (rs q).length < 150994900) : T (k + 4) 34 [.str (rs q)] = some (.bool (decide (q.den = 1)), []) := by
 rw [isInt_T _ (by omega), isI_rs]
theorem normal0_T (rel kd : Int) (c : Rat) (hrel : rel = 1 ∨ rel = 2 ∨ rel = 3) (hc : szQ c 1000)
  (hv : T (k + 12) 24 [conQ rel kd [] c []] = some (.bool true, [])) : T (k + 13) 26 [conQ rel kd [] c []] = some (.tup [nrmV rel kd [] c, .int .i64 0], []) := by
 have l := hc.len
 have h1 := compare_T (k := k + 4) rel c hrel (by omega)
 have h2 := truth_T (k := k + 11) kd (cmpQ rel c)
 unfold nrmV
 rw [if_pos rfl]
 rcases hrel with rfl | rfl | rfl
 all_goals
  refine enter rfl func26 rfl (by decide) (by kernel_rfl) rfl rfl ?_
  refine zs1 hv ?_
  refine zd2 h1 ?_
  refine zd5 h2 ?_
  rfl
theorem normal1_T (kd : Int) (us : List QT) (c : Rat) (hkd : kd = 2 ∨ kd = 3) (hne : us ≠ []) (hg : goodU us) (hc : szQ c 1000)
  (hv : T (k + 12) 24 [conQ 1 kd us c []] = some (.bool true, [])) : T (k + 13) 26 [conQ 1 kd us c []] = some (.tup [nrmV 1 kd us c, .int .i64 0], []) := by
 have hk : szQ (kQ 1 us) 20000 := kQ_sz hg
 have hp := primitive_T (k := k) us hg hne
 have e : kQ 1 us = prim us := if_neg (fun h => by have := h.1; omega)
 have hsc := scale_T (k := k + 2) kd us c (kQ 1 us) (L := 20000) (hc.mono (by omega)) hk (fun u h => (hg.2 u h).1.mono (by omega)) (by omega) (by have := hg.1; omega)
 have hz := szQ_mul hc hk
 have hcl := ceil_Q (k := k + 3) (c * kQ 1 us) hz (by omega)
 unfold nrmV
 rw [if_neg hne]
 rw [← e] at hp
 rcases hkd with rfl | rfl
 ·rw [if_neg (by decide), if_pos rfl]
  refine enter rfl func26 rfl (by decide) (by kernel_rfl) rfl rfl ?_
  refine zs1 hv ?_
  refine W.cond rfl (fun b1 => ?_) (fun b1 => ?_)
  ·have b1 := of_decide_eq_true b1
   rw [trow_len, tx_len] at b1
   exact absurd (List.eq_nil_of_length_eq_zero (by omega)) hne
  ·refine zs1 hp ?_
   refine zd6 hsc ?_
   refine zs2 hcl ?_
   rfl
 ·rw [if_pos rfl]
  refine enter rfl func26 rfl (by decide) (by kernel_rfl) rfl rfl ?_
  refine zs1 hv ?_
  refine W.cond rfl (fun b1 => ?_) (fun b1 => ?_)
  ·have b1 := of_decide_eq_true b1
   rw [trow_len, tx_len] at b1
   exact absurd (List.eq_nil_of_length_eq_zero (by omega)) hne
  ·refine zs1 hp ?_
   refine zd6 hsc ?_
   rfl
theorem normal2_T (kd : Int) (us : List QT) (c : Rat) (hkd : kd = 2 ∨ kd = 3) (hne : us ≠ []) (hg : goodU us) (hc : szQ c 1000)
  (hv : T (k + 12) 24 [conQ 2 kd us c []] = some (.bool true, [])) : T (k + 13) 26 [conQ 2 kd us c []] = some (.tup [nrmV 2 kd us c, .int .i64 0], []) := by
 have hk : szQ (kQ 2 us) 20000 := kQ_sz hg
 have hp := primitive_T (k := k) us hg hne
 have e : kQ 2 us = prim us := if_neg (fun h => by have := h.1; omega)
 have hsc := scale_T (k := k + 2) kd us c (kQ 2 us) (L := 20000) (hc.mono (by omega)) hk (fun u h => (hg.2 u h).1.mono (by omega)) (by omega) (by have := hg.1; omega)
 have hz := szQ_mul hc hk
 have hcl := floor_Q (k := k + 4) (c * kQ 2 us) hz (by omega)
 have one1 : szQ ((1 : Int) : Rat) 30000 := szZ (by rw [show (1 : Int).natAbs = 1 from rfl, dec1_len]; omega)
 have had := add_Q (k := k + 3) (flQ (c * kQ 2 us) : Rat) ((1 : Int) : Rat) (L := 30000) ((flQ_sz hz).mono (by omega)) one1 (by omega)
 rw [show rs ((1 : Int) : Rat) = [49] from (rs_nat 1).trans decOne] at had
 unfold nrmV
 rw [if_neg hne]
 rw [← e] at hp
 rcases hkd with rfl | rfl
 ·rw [if_neg (by decide), if_neg (by decide), if_pos rfl]
  refine enter rfl func26 rfl (by decide) (by kernel_rfl) rfl rfl ?_
  refine zs1 hv ?_
  refine W.cond rfl (fun b1 => ?_) (fun b1 => ?_)
  ·have b1 := of_decide_eq_true b1
   rw [trow_len, tx_len] at b1
   exact absurd (List.eq_nil_of_length_eq_zero (by omega)) hne
  ·refine zs1 hp ?_
   refine zd6 hsc ?_
   refine zs2 hcl ?_
   refine zs2 had ?_
   rfl
 ·rw [if_pos rfl]
  refine enter rfl func26 rfl (by decide) (by kernel_rfl) rfl rfl ?_
  refine zs1 hv ?_
  refine W.cond rfl (fun b1 => ?_) (fun b1 => ?_)
  ·have b1 := of_decide_eq_true b1
   rw [trow_len, tx_len] at b1
   exact absurd (List.eq_nil_of_length_eq_zero (by omega)) hne
  ·refine zs1 hp ?_
   refine zd6 hsc ?_
   rfl
end Go.PE
namespace Go.PE
open Go.RowKit Go.Proofs.Tryz
set_option maxRecDepth 100000
variable {k : Nat}
theorem nrm3 (kd : Int) (us : List QT) (c : Rat) (hne : us ≠ []) (hkd : kd = 2 ∨ kd = 3) : nrmV 3 kd us c = if kd = 3 then conQ 3 kd (scU us (kQ 3 us)) (c * kQ 3 us) [] else if (c * kQ 3 us).den = 1 then conQ 3 kd (scU us (kQ 3 us)) (c * kQ 3 us) [] else truQ kd false := by
 unfold nrmV
 rw [if_neg hne]
 rcases hkd with rfl | rfl
 ·rw [if_neg (show ¬ (2 : Int) = 3 by decide), if_neg (show ¬ (3 : Int) = 1 by decide), if_neg (show ¬ (3 : Int) = 2 by decide), if_neg (show ¬ (2 : Int) = 3 by decide)]
 ·rw [if_pos rfl, if_pos rfl]
set_option maxHeartbeats 1000000 in
theorem normal3_T (kd : Int) (us : List QT) (c : Rat) (hkd : kd = 2 ∨ kd = 3) (hne : us ≠ []) (hg : goodU us) (hc : szQ c 1000)
  (hv : T (k + 12) 24 [conQ 3 kd us c []] = some (.bool true, [])) : T (k + 13) 26 [conQ 3 kd us c []] = some (.tup [nrmV 3 kd us c, .int .i64 0], []) := by
 have hk : szQ (kQ 3 us) 20000 := kQ_sz hg
 have hps := prim_sz hg
 have lps := hps.len
 have hp := primitive_T (k := k) us hg hne
 have hlen : 0 < us.length := List.length_pos_iff.2 hne
 have hget : (trow (tx us))[0]? = some [.str (us.getD 0 ([], 0)).1, .str (rs (us.getD 0 ([], 0)).2)] := tx_get hlen
 have hu0 := (hg.2 _ (getD_mem hlen)).1.len
 have hs := sign_Q (k := k + 5) (us.getD 0 ([], 0)).2 (by omega)
 have hn := neg_Q (k := k + 4) (prim us) (by omega)
 have hsc := scale_T (k := k + 2) kd us c (kQ 3 us) (L := 20000) (hc.mono (by omega)) hk (fun u h => (hg.2 u h).1.mono (by omega)) (by omega) (by have := hg.1; omega)
 have hz := szQ_mul hc hk
 have lz := hz.len
 have hii := isInt_Q (k := k + 8) (c * kQ 3 us) (by omega)
 have htr := truth_T (k := k + 11) kd false
 rw [nrm3 kd us c hne hkd]
 have e : kQ 3 us = if (us.getD 0 ([], 0)).2.num < 0 then -prim us else prim us := by
  unfold kQ
  by_cases h : (us.getD 0 ([], 0)).2.num < 0
  ·rw [if_pos ⟨rfl, h⟩, if_pos h]
  ·rw [if_neg (fun x => h x.2), if_neg h]
 rcases sgn_cases (us.getD 0 ([], 0)).2 with ⟨h1, h2⟩ | ⟨h1, h2⟩ | ⟨h1, h2⟩
 ·rw [if_pos h1] at e
  rw [h2] at hs
  rw [← e] at hn
  rcases hkd with rfl | rfl
  ·rw [if_neg (by decide)]
   refine enter rfl func26 rfl (by decide) (by kernel_rfl) rfl rfl ?_
   refine zs1 hv ?_
   refine W.cond rfl (fun b1 => ?_) (fun b1 => ?_)
   ·have b1 := of_decide_eq_true b1
    rw [trow_len, tx_len] at b1
    exact absurd (List.eq_nil_of_length_eq_zero (by omega)) hne
   ·refine zs1 hp ?_
    refine wI te rfl rfl rfl rfl rfl rfl (by omega) (hget) ?_
    refine zs1 hs ?_
    refine zs2 hn ?_
    refine zd6 hsc ?_
    refine zs2 hii ?_
    refine W.cond rfl (fun b2 => ?_) (fun b2 => ?_)
    ·have b2 : ¬ (c * kQ 3 us).den = 1 := by simpa using b2
     rw [if_neg b2]
     refine zs1 htr ?_
     rfl
    ·have b2 : (c * kQ 3 us).den = 1 := by simpa using b2
     rw [if_pos b2]
     refine zs0 ?_
     rfl
  ·rw [if_pos rfl]
   refine enter rfl func26 rfl (by decide) (by kernel_rfl) rfl rfl ?_
   refine zs1 hv ?_
   refine W.cond rfl (fun b1 => ?_) (fun b1 => ?_)
   ·have b1 := of_decide_eq_true b1
    rw [trow_len, tx_len] at b1
    exact absurd (List.eq_nil_of_length_eq_zero (by omega)) hne
   ·refine zs1 hp ?_
    refine wI te rfl rfl rfl rfl rfl rfl (by omega) (hget) ?_
    refine zs1 hs ?_
    refine zs2 hn ?_
    refine zd6 hsc ?_
    rfl
 all_goals
  first | rw [if_neg (by rw [h1]; decide)] at e | rw [if_neg (by omega)] at e
  rw [h2] at hs
  rw [← e] at hp
  rcases hkd with rfl | rfl
  ·rw [if_neg (by decide)]
   refine enter rfl func26 rfl (by decide) (by kernel_rfl) rfl rfl ?_
   refine zs1 hv ?_
   refine W.cond rfl (fun b1 => ?_) (fun b1 => ?_)
   ·have b1 := of_decide_eq_true b1
    rw [trow_len, tx_len] at b1
    exact absurd (List.eq_nil_of_length_eq_zero (by omega)) hne
   ·refine zs1 hp ?_
    refine wI te rfl rfl rfl rfl rfl rfl (by omega) (hget) ?_
    refine zs1 hs ?_
    refine zd6 hsc ?_
    refine zs2 hii ?_
    refine W.cond rfl (fun b2 => ?_) (fun b2 => ?_)
    ·have b2 : ¬ (c * kQ 3 us).den = 1 := by simpa using b2
     rw [if_neg b2]
     refine zs1 htr ?_
     rfl
    ·have b2 : (c * kQ 3 us).den = 1 := by simpa using b2
     rw [if_pos b2]
     refine zs0 ?_
     rfl
  ·rw [if_pos rfl]
   refine enter rfl func26 rfl (by decide) (by kernel_rfl) rfl rfl ?_
   refine zs1 hv ?_
   refine W.cond rfl (fun b1 => ?_) (fun b1 => ?_)
   ·have b1 := of_decide_eq_true b1
    rw [trow_len, tx_len] at b1
    exact absurd (List.eq_nil_of_length_eq_zero (by omega)) hne
   ·refine zs1 hp ?_
    refine wI te rfl rfl rfl rfl rfl rfl (by omega) (hget) ?_
    refine zs1 hs ?_
    refine zd6 hsc ?_
    rfl
end Go.PE
namespace Go.PE
open Go.RowKit Go.Proofs.Tryz
set_option maxRecDepth 100000
variable {k : Nat}
end Go.PE
namespace Go.PE
open Go.RowKit Go.Proofs.Tryz
set_option maxRecDepth 100000
variable {k : Nat}
end Go.PE
namespace Go.PE
open Go.RowKit Go.Proofs.Tryz
set_option maxRecDepth 100000
variable {k : Nat}
end Go.PE
namespace Go.PE
open Go.RowKit Go.Proofs.Tryz
set_option maxRecDepth 100000
variable {k : Nat}
end Go.PE
namespace Go.PE
open Go.RowKit Go.Proofs.Tryz
set_option maxRecDepth 100000
variable {k : Nat}
def intQ (q : Rat) : Prop := q = ((q.num : Int) : Rat)
def stepD (P : Nat) (st : List QT × Nat) (v : QT) : List QT × Nat :=
 if v.2.num % (P : Int) = 0 then st else (st.1 ++ [(v.1, ((v.2.num % (P : Int) : Int) : Rat))], Nat.gcd st.2 (v.2.num % (P : Int)).natAbs)
def divE (rel : Int) (P : Nat) (c0 : Int) (st : List QT × Nat) : PV :=
 if c0 % (st.2 : Int) ≠ 0 then truQ 2 (!decide (rel = 4)) else
 if st.2 = P then truQ 2 (decide (rel = 4)) else
 conQ rel 2 (scU st.1 (((1 : Int) : Rat) / ((st.2 : Int) : Rat))) ((c0 : Rat) * (((1 : Int) : Rat) / ((st.2 : Int) : Rat))) (rs ((((P : Int) / (st.2 : Int) : Int)) : Rat))
def dD (us : List QT) (c : Rat) : Nat := lcmU c.den us
def divV (rel : Int) (us : List QT) (c : Rat) (M : Nat) : PV :=
 divE rel (M * dD us c) ((c * ((dD us c : Int) : Rat)).num % ((M * dD us c : Nat) : Int)) ((scU us ((dD us c : Int) : Rat)).foldl (stepD (M * dD us c)) ([], M * dD us c))
theorem dD_ne (us : List QT) (c : Rat) : dD us c ≠ 0 := lcmU_pos c.den_nz
theorem dD_len {us : List QT} {c : Rat} (h : goodU us) (hc : szQ c 1000) : (dec (dD us c)).length ≤ 9000 := by
 have h1 := lcmU_len (us := us) (d := c.den) (M := 1000) fun u hu => (h.2 u hu).1
 have := h.1
 have := hc.2
 unfold dD; omega
theorem dD_int {us : List QT} {c : Rat} : intQ (c * ((dD us c : Int) : Rat)) := by
 have h := zU_eq (d := dD us c) (u := (([] : Bs), c)) (lcmU_dvd (us := us) (d := c.den)).1
 unfold intQ
 rw [show c * ((dD us c : Int) : Rat) = ((zU (dD us c) (([] : Bs), c) : Int) : Rat) from h]
 rfl
theorem scU_dD {us : List QT} {c : Rat} : scU us ((dD us c : Int) : Rat) = mulU us ((dD us c : Int) : Rat) := by
 unfold scU
 rw [if_neg]
 intro h
 have h2 : (dD us c : Int) = 0 := by exact_mod_cast h
 exact dD_ne us c (by omega)
theorem vs_int {us : List QT} {c : Rat} : ∀ v ∈ scU us ((dD us c : Int) : Rat), intQ v.2 := by
 rw [scU_dD]
 intro v hv
 obtain ⟨u, hu, rfl⟩ := List.mem_map.1 hv
 have h := zU_eq (d := dD us c) (u := u) ((lcmU_dvd (us := us) (d := c.den)).2 u hu)
 unfold intQ
 rw [show (u.1, u.2 * ((dD us c : Int) : Rat)).2 = u.2 * ((dD us c : Int) : Rat) from rfl, h]
 rfl
theorem vs_len {us : List QT} {c : Rat} : (scU us ((dD us c : Int) : Rat)).length = us.length := by
 rw [scU_dD, mulU_len]
theorem dDq {us : List QT} {c : Rat} (h : goodU us) (hc : szQ c 1000) : szQ ((dD us c : Int) : Rat) 9000 := szZ (by show (dec (dD us c)).length ≤ _; exact dD_len h hc)
theorem vs_sz {us : List QT} {c : Rat} (h : goodU us) (hc : szQ c 1000) : ∀ v ∈ scU us ((dD us c : Int) : Rat), szQ v.2 10000 := by
 rw [scU_dD]
 intro v hv
 obtain ⟨u, hu, rfl⟩ := List.mem_map.1 hv
 exact (szQ_mul (h.2 u hu).1 (dDq h hc)).mono (by omega)
def invD (P : Nat) (n : Nat) (st : List QT × Nat) : Prop := st.1.length ≤ n ∧ st.2 ≠ 0 ∧ (dec st.2).length ≤ 11000 ∧ st.2 ∣ P ∧ ∀ u ∈ st.1, szQ u.2 11000
theorem invD_step {P n : Nat} {st : List QT × Nat} {v : QT} (hP0 : P ≠ 0) (hP : (dec P).length ≤ 11000) (h : invD P n st) : invD P (n + 1) (stepD P st v) := by
 obtain ⟨h1, h2, h3, h4, h5⟩ := h
 unfold stepD
 by_cases hz : v.2.num % (P : Int) = 0
 ·rw [if_pos hz]
  exact ⟨by omega, h2, h3, h4, h5⟩
 ·rw [if_neg hz]
  have hg := Nat.gcd_pos_of_pos_left (v.2.num % (P : Int)).natAbs (show 0 < st.2 by omega)
  have h6 := dec_len_mono (Nat.gcd_le_left (v.2.num % (P : Int)).natAbs (show 0 < st.2 by omega))
  refine ⟨by simp only [List.length_append, List.length_singleton]; omega, by show Nat.gcd _ _ ≠ 0; omega, by show (dec (Nat.gcd _ _)).length ≤ _; omega, Nat.dvd_trans (Nat.gcd_dvd_left _ _) h4, fun u hu => ?_⟩
  rcases List.mem_append.1 hu with hu | hu
  ·exact h5 u hu
  ·obtain rfl := List.mem_singleton.1 hu
   refine szZ ?_
   have e1 := Int.emod_nonneg v.2.num (show (P : Int) ≠ 0 by omega)
   have e2 := Int.emod_lt_of_pos v.2.num (show (0 : Int) < P by omega)
   exact Nat.le_trans (dec_len_mono (show (v.2.num % (P : Int)).natAbs ≤ P by omega)) hP
theorem foldD_snoc (P : Nat) (vs : List QT) (v : QT) (st : List QT × Nat) : (vs ++ [v]).foldl (stepD P) st = stepD P (vs.foldl (stepD P) st) v := by simp
theorem invD_fold {P : Nat} (hP0 : P ≠ 0) (hP : (dec P).length ≤ 11000) : ∀ (vs : List QT) {n : Nat} {st : List QT × Nat}, invD P n st → invD P (n + vs.length) (vs.foldl (stepD P) st)
 | [], _, _, h => h
 | v :: vs, n, st, h => by
  have := invD_fold hP0 hP vs (invD_step (v := v) hP0 hP h)
  rw [List.length_cons, show n + (vs.length + 1) = n + 1 + vs.length by omega]
  exact this
theorem invD_0 {P : Nat} (hP0 : P ≠ 0) (hP : (dec P).length ≤ 11000) : invD P 0 ([], P) := ⟨Nat.le_refl _, hP0, hP, Nat.dvd_refl _, fun u hu => by cases hu⟩
end Go.PE
