/-
  A part of the proof that the law's function returns true and leaves its arguments as they were, for every input (no condition): own lemmas of the proof, in the order of their use.
-/
import Derived.Test.YtggpmnlmbfogeaaGreatDoorX21
set_option linter.all false
namespace Go.PE
open Go.RowKit Go.Proofs.Tryz
set_option maxRecDepth 100000
variable {k : Nat}
theorem bytes_set (s : Bs) (i : Nat) (c : UInt8) : (bytesPV s).set i [.int .u8 (c.toNat : Nat)] = bytesPV (s.set i c) := by simp [bytesPV, List.map_set]
theorem bytes_rep (n : Nat) : List.replicate n [PV.int .u8 0] = bytesPV (List.replicate n 0) := by simp [bytesPV]
theorem bytesOf_PV : ∀ s : Bs, bytesOf? (bytesPV s) = some s
 | [] => rfl
 | c :: s => by
  have ih := bytesOf_PV s
  unfold bytesPV at ih ⊢
  have := UInt8.toNat_lt c
  rw [List.map_cons, bytesOf?, if_pos (by omega), ih]
  simp
theorem ofNat48 {d : Nat} (h : d < 10) : ((48 + d : Nat) : Int) = ((UInt8.ofNat (48 + d)).toNat : Nat) := by rw [dg_nat h]
theorem dgAt : ∀ {s : Bs} {i : Nat}, s.all isDg = true → i < s.length → dv (s.getD (s.length - 1 - i) 0) = val s / 10 ^ i % 10
 | c :: t, i, h, hi => by
  rw [List.all_cons, Bool.and_eq_true] at h
  have hv := val_lt h.2
  have hc := dv_lt h.1
  rw [val_cons]
  by_cases e : i = t.length
  ·subst e
   simp only [List.length_cons, Nat.add_sub_cancel, Nat.sub_self, List.getD_cons_zero]
   rw [Nat.mul_comm, Nat.mul_add_div (Nat.pow_pos (by omega)), Nat.div_eq_of_lt hv, Nat.add_zero, Nat.mod_eq_of_lt hc]
  ·have hi : i < t.length := by simp only [List.length_cons] at hi; omega
   rw [show (c :: t).length - 1 - i = (t.length - 1 - i) + 1 by simp only [List.length_cons]; omega, List.getD_cons_succ, dgAt h.2 hi]
   obtain ⟨j, hj⟩ : ∃ j, t.length = j + 1 + i := ⟨t.length - 1 - i, by omega⟩
   have : dv c * 10 ^ t.length + val t = val t + 10 ^ i * (10 * (dv c * 10 ^ j)) := by
    rw [hj, Nat.pow_add, Nat.pow_succ]
    have : dv c * (10 ^ j * 10 * 10 ^ i) = 10 ^ i * (10 * (dv c * 10 ^ j)) := by
     rw [Nat.mul_comm (10 ^ i), Nat.mul_comm 10 (dv c * _), Nat.mul_assoc, Nat.mul_assoc, Nat.mul_assoc]
    omega
   rw [this, Nat.add_mul_div_left _ _ (Nat.pow_pos (by omega)), Nat.add_mul_mod_self_left]
theorem dgChar {s : Bs} {i : Nat} (h : s.all isDg = true) (hi : i < s.length) : (s.getD (s.length - 1 - i) 0).toNat = 48 + val s / 10 ^ i % 10 := by
 have h1 := dgAt h hi
 have : isDg (s.getD (s.length - 1 - i) 0) = true := by
  apply List.all_eq_true.1 h
  have : s.length - 1 - i < s.length := by omega
  simp only [List.getD, List.getElem?_eq_getElem this, Option.getD_some]
  exact List.getElem_mem _
 rw [isDg_eq] at this
 simp only [Bool.and_eq_true, decide_eq_true_eq] at this
 unfold dv at h1
 omega
theorem mod_pow_succ (a i : Nat) : a % 10 ^ (i + 1) = a % 10 ^ i + 10 ^ i * (a / 10 ^ i % 10) := by rw [Nat.pow_succ, Nat.mod_mul]
theorem dig_ge {b i m : Nat} (h : b < 10 ^ m) (hi : m ≤ i) : b / 10 ^ i % 10 = 0 := by
 rw [Nat.div_eq_of_lt (Nat.lt_of_lt_of_le h (Nat.pow_le_pow_right (by omega) hi))]
theorem drop_set {s : Bs} {i : Nat} (c : UInt8) (h : i < s.length) : (s.set i c).drop i = c :: s.drop (i + 1) := by
 rw [List.drop_set, if_neg (by omega), Nat.sub_self, List.drop_eq_getElem_cons h]; rfl
theorem subMag_T (a b : Nat) (hab : b ≤ a) (ha : (dec a).length < 1073741824) :
  T (k + 2) 182 [.str (dec a), .str (dec b)] = some (.str (dec (a - b)), []) := by
 have hba := dec_len_mono hab
 have va := val_dec a
 have vb := val_dec b
 have da := dec_all a
 have db := dec_all b
 have la := dec_lt_pow a
 have lb := dec_lt_pow b
 have na := dec_ne a
 generalize hx : dec a = x at *
 generalize hy : dec b = y at *
 refine enter rfl func182 rfl (by decide) (by kernel_rfl) rfl rfl ?_
 refine zs0 ?_
 refine wS te rfl rfl (by refine ⟨by omega, by omega, by omega, by omega⟩) ?_
 refine zs0 ?_
 rw [Int.toNat_natCast]
 refine W.loop (fun e m => ∃ (c i : Nat) (out : Bs), e = [(0, .str x), (1, .str y), (5, .own (0, 0) 1 (bytesPV out)), (6, .int .i64 c), (7, .int .i64 i)] ∧
  i ≤ x.length ∧ out.length = x.length ∧ c ≤ 1 ∧ (out.drop (x.length - i)).all isDg = true ∧ val (out.drop (x.length - i)) + b % 10 ^ i = a % 10 ^ i + c * 10 ^ i ∧ m = x.length - i) x.length ?_ ?_ ?_
 ·refine ⟨0, 0, List.replicate x.length 0, ?_, by omega, by simp, by omega, ?_, ?_, by omega⟩
  ·rw [← bytes_rep]; rfl
  ·rw [List.drop_of_length_le (by simp)]; rfl
  ·rw [List.drop_of_length_le (by simp)]; simp [val_nil, Nat.mod_one]
 ·show _ < 4611686018427387904; omega
 ·rintro e m ⟨c, i, out, rfl, hi, hlen, hc, hd, hv, rfl⟩
  refine zs0 ?_
  refine W.cond rfl (fun hlt => ?_) (fun hlt => ?_)
  ·have hlt := of_decide_eq_true hlt
   have c1 := dgChar (i := i) da (by omega)
   have m1 := mod_pow_succ a i
   have m2 := mod_pow_succ b i
   rw [va] at c1
   refine zs0 ?_
   rw [wrap_i64 (x := (x.length : Int) - 1) (by omega) (by omega), wrap_i64 (x := (x.length : Int) - 1 - i) (by omega) (by omega)]
   refine wS te rfl rfl (by constructor <;> omega) ?_
   refine zs0 ?_
   have e1 : ((x.length : Int) - 1 - i).toNat = x.length - 1 - i := by omega
   rw [e1, c1]
   have hX : a / 10 ^ i % 10 < 10 := Nat.mod_lt _ (by omega)
   have hY : b / 10 ^ i % 10 < 10 := Nat.mod_lt _ (by omega)
   have hge := @dig_ge b i y.length lb
   have c2 := fun h => dgChar (i := i) db h
   rw [vb] at c2
   generalize a / 10 ^ i % 10 = X at *
   generalize b / 10 ^ i % 10 = Y at *
   rw [show ((48 + X : Nat) : Int) - 48 = X by omega, wrap_u8 (x := (X : Int)) (by omega) (by omega), wrap_i64 (x := (X : Int)) (by omega) (by omega), wrap_i64 (x := (X : Int) - c) (by omega) (by omega)]
   have hfin : ∀ (n : Nat) (q : Nat), n < 10 → q ≤ 1 → n + Y + c = X + 10 * q → ((out.set (x.length - 1 - i) (UInt8.ofNat (48 + n))).drop (x.length - (i + 1))).all isDg = true ∧ val ((out.set (x.length - 1 - i) (UInt8.ofNat (48 + n))).drop (x.length - (i + 1))) + b % 10 ^ (i + 1) = a % 10 ^ (i + 1) + q * 10 ^ (i + 1) := by
    intro n q hn hq hs
    have hset := drop_set (s := out) (i := x.length - 1 - i) (UInt8.ofNat (48 + n)) (by omega)
    rw [show x.length - 1 - i + 1 = x.length - i by omega] at hset
    refine ⟨?_, ?_⟩
    ·rw [show x.length - (i + 1) = x.length - 1 - i by omega, hset, List.all_cons, hd, dg_isDg hn]; rfl
    ·rw [show x.length - (i + 1) = x.length - 1 - i by omega, hset, val_cons, dg_dv hn, List.length_drop, hlen, show x.length - (x.length - i) = i by omega, m1, m2, Nat.pow_succ]
     generalize 10 ^ i = p at *
     have e : p * n + p * Y + p * c = p * X + p * (10 * q) := by rw [← Nat.mul_add, ← Nat.mul_add, ← Nat.mul_add, hs]
     have e2 : q * (p * 10) = p * (10 * q) := by rw [Nat.mul_comm q, Nat.mul_assoc]
     rw [e2, Nat.mul_comm n p]
     rw [Nat.mul_comm c p] at hv
     omega
   refine zs0 ?_
   refine W.cond rfl (fun b1 => ?_) (fun b1 => ?_)
   ·have b1 := of_decide_eq_true b1
    have c2 := c2 (by omega)
    refine zs0 ?_
    rw [wrap_i64 (x := (y.length : Int) - 1) (by omega) (by omega), wrap_i64 (x := (y.length : Int) - 1 - i) (by omega) (by omega)]
    refine wS te rfl rfl (by constructor <;> omega) ?_
    refine zs0 ?_
    rw [show ((y.length : Int) - 1 - i).toNat = y.length - 1 - i by omega, c2]
    rw [show ((48 + Y : Nat) : Int) - 48 = Y by omega, wrap_u8 (x := (Y : Int)) (by omega) (by omega), wrap_i64 (x := (Y : Int)) (by omega) (by omega), wrap_i64 (x := (X : Int) - c - Y) (by omega) (by omega)]
    refine zs0 ?_
    refine W.cond rfl (fun b2 => ?_) (fun b2 => ?_)
    ·have b2 := of_decide_eq_true b2
     have hq := hfin (X + 10 - c - Y) 1 (by omega) (by omega) (by omega)
     refine zs0 ?_
     rw [wrap_i64 (x := (X : Int) - c - Y + 10) (by omega) (by omega), show (48 : Int) + ((X : Int) - c - Y + 10) = ((48 + (X + 10 - c - Y) : Nat) : Int) by omega]
     rw [wrap_i64 (x := ((48 + (X + 10 - c - Y) : Nat) : Int)) (by omega) (by omega), wrap_u8 (x := ((48 + (X + 10 - c - Y) : Nat) : Int)) (by omega) (by omega), ofNat48 (show X + 10 - c - Y < 10 by omega)]
     rw [wrap_i64 (x := (x.length : Int) - 1) (by omega) (by omega), wrap_i64 (x := (x.length : Int) - 1 - i) (by omega) (by omega)]
     refine wS te rfl rfl (by rw [bytes_len]; omega) ?_
     rw [show 0 + ((x.length : Int) - 1 - i).toNat = x.length - 1 - i by omega]
     refine WX.stElem tab_eq rfl rfl rfl (bytes_get (s := out) (i := x.length - 1 - i) (by omega)) rfl rfl rfl ?_
     refine zs0 ?_
     rw [bytes_set, wrap_i64 (x := (i : Int) + 1) (by omega) (by omega)]
     show ∃ m', _
     exact ⟨x.length - (i + 1), by omega, 1, i + 1, out.set (x.length - 1 - i) (UInt8.ofNat (48 + (X + 10 - c - Y))), rfl, by omega, by simp [hlen], by omega, hq.1, hq.2, rfl⟩
    ·have b2 := of_decide_eq_false b2
     have hq := hfin (X - c - Y) 0 (by omega) (by omega) (by omega)
     refine zs0 ?_
     rw [show (48 : Int) + ((X : Int) - c - Y) = ((48 + (X - c - Y) : Nat) : Int) by omega]
     rw [wrap_i64 (x := ((48 + (X - c - Y) : Nat) : Int)) (by omega) (by omega), wrap_u8 (x := ((48 + (X - c - Y) : Nat) : Int)) (by omega) (by omega), ofNat48 (show X - c - Y < 10 by omega)]
     rw [wrap_i64 (x := (x.length : Int) - 1) (by omega) (by omega), wrap_i64 (x := (x.length : Int) - 1 - i) (by omega) (by omega)]
     refine wS te rfl rfl (by rw [bytes_len]; omega) ?_
     rw [show 0 + ((x.length : Int) - 1 - i).toNat = x.length - 1 - i by omega]
     refine WX.stElem tab_eq rfl rfl rfl (bytes_get (s := out) (i := x.length - 1 - i) (by omega)) rfl rfl rfl ?_
     refine zs0 ?_
     rw [bytes_set, wrap_i64 (x := (i : Int) + 1) (by omega) (by omega)]
     show ∃ m', _
     exact ⟨x.length - (i + 1), by omega, 0, i + 1, out.set (x.length - 1 - i) (UInt8.ofNat (48 + (X - c - Y))), rfl, by omega, by simp [hlen], by omega, hq.1, hq.2, rfl⟩
   ·have b1 := of_decide_eq_false b1
    have hY0 : Y = 0 := hge (by omega)
    refine zs0 ?_
    refine W.cond rfl (fun b2 => ?_) (fun b2 => ?_)
    ·have b2 := of_decide_eq_true b2
     have hq := hfin (X + 10 - c - Y) 1 (by omega) (by omega) (by omega)
     refine zs0 ?_
     rw [wrap_i64 (x := (X : Int) - c + 10) (by omega) (by omega), show (48 : Int) + ((X : Int) - c + 10) = ((48 + (X + 10 - c - Y) : Nat) : Int) by omega]
     rw [wrap_i64 (x := ((48 + (X + 10 - c - Y) : Nat) : Int)) (by omega) (by omega), wrap_u8 (x := ((48 + (X + 10 - c - Y) : Nat) : Int)) (by omega) (by omega), ofNat48 (show X + 10 - c - Y < 10 by omega)]
     rw [wrap_i64 (x := (x.length : Int) - 1) (by omega) (by omega), wrap_i64 (x := (x.length : Int) - 1 - i) (by omega) (by omega)]
     refine wS te rfl rfl (by rw [bytes_len]; omega) ?_
     rw [show 0 + ((x.length : Int) - 1 - i).toNat = x.length - 1 - i by omega]
     refine WX.stElem tab_eq rfl rfl rfl (bytes_get (s := out) (i := x.length - 1 - i) (by omega)) rfl rfl rfl ?_
     refine zs0 ?_
     rw [bytes_set, wrap_i64 (x := (i : Int) + 1) (by omega) (by omega)]
     show ∃ m', _
     exact ⟨x.length - (i + 1), by omega, 1, i + 1, out.set (x.length - 1 - i) (UInt8.ofNat (48 + (X + 10 - c - Y))), rfl, by omega, by simp [hlen], by omega, hq.1, hq.2, rfl⟩
    ·have b2 := of_decide_eq_false b2
     have hq := hfin (X - c - Y) 0 (by omega) (by omega) (by omega)
     refine zs0 ?_
     rw [show (48 : Int) + ((X : Int) - c) = ((48 + (X - c - Y) : Nat) : Int) by omega]
     rw [wrap_i64 (x := ((48 + (X - c - Y) : Nat) : Int)) (by omega) (by omega), wrap_u8 (x := ((48 + (X - c - Y) : Nat) : Int)) (by omega) (by omega), ofNat48 (show X - c - Y < 10 by omega)]
     rw [wrap_i64 (x := (x.length : Int) - 1) (by omega) (by omega), wrap_i64 (x := (x.length : Int) - 1 - i) (by omega) (by omega)]
     refine wS te rfl rfl (by rw [bytes_len]; omega) ?_
     rw [show 0 + ((x.length : Int) - 1 - i).toNat = x.length - 1 - i by omega]
     refine WX.stElem tab_eq rfl rfl rfl (bytes_get (s := out) (i := x.length - 1 - i) (by omega)) rfl rfl rfl ?_
     refine zs0 ?_
     rw [bytes_set, wrap_i64 (x := (i : Int) + 1) (by omega) (by omega)]
     show ∃ m', _
     exact ⟨x.length - (i + 1), by omega, 0, i + 1, out.set (x.length - 1 - i) (UInt8.ofNat (48 + (X - c - Y))), rfl, by omega, by simp [hlen], by omega, hq.1, hq.2, rfl⟩
  ·have hlt := of_decide_eq_false hlt
   have hie : i = x.length := by omega
   subst hie
   rw [Nat.sub_self, List.drop_zero] at hd hv
   have h1 : b % 10 ^ x.length = b := Nat.mod_eq_of_lt (by omega)
   have h2 : a % 10 ^ x.length = a := Nat.mod_eq_of_lt la
   have h3 := val_lt hd
   rw [hlen] at h3
   have h4 : val out = a - b := by
    rw [h1, h2] at hv
    rcases (show c = 0 ∨ c = 1 by omega) with rfl | rfl <;> omega
   refine zs0 ?_
   refine WX.convS tab_eq rfl rfl rfl rfl rfl (by rw [List.drop_zero, List.take_length]; exact bytesOf_PV out) ?_
   refine zs0 ?_
   refine wC te rfl rfl rfl rfl rfl (rtrim_T (k := k) out hd (by rintro rfl; exact na (List.eq_nil_of_length_eq_zero hlen.symm)) (by omega)) rfl rfl ?_
   refine zs0 ?_
   rw [h4]
   rfl
end Go.PE
namespace Go.PE
open Go.RowKit Go.Proofs.Tryz
set_option maxRecDepth 100000
variable {k : Nat}
theorem take_one {s : Bs} {i : Nat} (h : i < s.length) : (s.drop i).take 1 = [s.getD i 0] := by
 rw [List.drop_eq_getElem_cons h, List.take_succ_cons, List.take_zero]
 simp [List.getD, List.getElem?_eq_getElem h]
theorem val_take1 {s : Bs} {i : Nat} (h : i < s.length) : val (s.take (i + 1)) = val (s.take i) * 10 + dv (s.getD i 0) := by
 rw [take_dg h, val_snoc]
theorem getD_dg {s : Bs} {i : Nat} (h : s.all isDg = true) (hi : i < s.length) : isDg (s.getD i 0) = true := by
 apply List.all_eq_true.1 h
 simp only [List.getD, List.getElem?_eq_getElem hi, Option.getD_some]
 exact List.getElem_mem _
theorem take_set {s : Bs} {i : Nat} (c : UInt8) (h : i < s.length) : (s.set i c).take (i + 1) = s.take i ++ [c] := by
 rw [take_dg (by simpa using h), List.take_set_of_le (Nat.le_refl i)]
 simp [List.getD, h]
theorem divMag_T (a b : Nat) (hb0 : 0 < b) (ha : (dec a).length < 536870912) (hbl : (dec b).length < 536870912) :
  T (k + 3) 183 [.str (dec a), .str (dec b)] = some (.tup [.str (dec (a / b)), .str (dec (a % b))], []) := by
 have va := val_dec a
 have da := dec_all a
 have na := dec_ne a
 generalize hx : dec a = x at *
 generalize hy : dec b = y at *
 refine enter rfl func183 rfl (by decide) (by kernel_rfl) rfl rfl ?_
 refine zs0 ?_
 refine wS te rfl rfl (by refine ⟨by omega, by omega, by omega, by omega⟩) ?_
 refine zs0 ?_
 rw [Int.toNat_natCast]
 refine W.loop (fun e m => ∃ (r i : Nat) (out : Bs), e = [(0, .str x), (1, .str y), (6, .own (0, 0) 1 (bytesPV out)), (7, .str (dec r)), (8, .int .i64 i)] ∧
  i ≤ x.length ∧ out.length = x.length ∧ (out.take i).all isDg = true ∧ val (out.take i) = val (x.take i) / b ∧ r = val (x.take i) % b ∧ m = x.length - i) x.length ?_ ?_ ?_
 ·refine ⟨0, 0, List.replicate x.length 0, ?_, by omega, by simp, rfl, ?_, ?_, by omega⟩
  ·rw [← bytes_rep, dec_zero]; rfl
  ·simp [val_nil]
  ·simp [val_nil]
 ·show _ < 4611686018427387904; omega
 ·rintro e m ⟨r, i, out, rfl, hi, hlen, hd, hv, hr, rfl⟩
  refine zs0 ?_
  refine W.cond rfl (fun hlt => ?_) (fun hlt => ?_)
  ·have hlt := of_decide_eq_true hlt
   have hrb : r < b := hr ▸ Nat.mod_lt _ hb0
   have hdr := dec_len_mono (Nat.le_of_lt hrb)
   rw [hy] at hdr
   have hc := getD_dg (i := i) da (by omega)
   have hvt := val_take1 (s := x) (i := i) (by omega)
   have ht1 := take_one (s := x) (i := i) (by omega)
   have hcl := dv_lt hc
   refine zs0 ?_
   rw [wrap_i64 (x := (i : Int) + 1) (by omega) (by omega)]
   refine wS te rfl rfl (by refine ⟨by omega, by omega, by omega⟩) ?_
   refine zs0 ?_
   rw [Int.toNat_natCast, show ((i : Int) + 1).toNat - i = 1 by omega, ht1]
   generalize x.getD i 0 = c at *
   refine wS te rfl rfl (by simp only [List.length_singleton]; omega) ?_
   refine zs0 ?_
   refine wC te rfl rfl rfl rfl rfl (rtrim_T (k := k + 1) (dec r ++ [c]) (by rw [List.all_append, dec_all]; simp [hc]) (by simp) (by simp only [List.length_append, List.length_singleton]; omega)) rfl rfl ?_
   refine zs0 ?_
   rw [val_snoc, val_dec]
   have hR : r * 10 + dv c < 10 * b := by omega
   generalize hRe : r * 10 + dv c = R at *
   refine W.loop (fun e m => ∃ (r2 q : Nat), e = [(0, .str x), (1, .str y), (6, .own (0, 0) 1 (bytesPV out)), (7, .str (dec r2)), (8, .int .i64 i), (9, .int .u8 (48 + q : Nat))] ∧ r2 + q * b = R ∧ m = 10 - q) 10 ?_ ?_ ?_
   ·exact ⟨R, 0, rfl, by omega, rfl⟩
   ·show _ < 4611686018427387904; omega
   ·rintro e m ⟨r2, q, rfl, hq, rfl⟩
    have hq9 : q ≤ 9 := by
     apply Nat.le_of_not_lt
     intro h
     have : 10 * b ≤ q * b := Nat.mul_le_mul_right _ h
     omega
    refine zs0 ?_
    rw [← hy]
    refine zs2 (cmpMag_T (k := k + 1) r2 b) ?_
    refine W.cond rfl (fun hlt2 => ?_) (fun hlt2 => ?_)
    ·have hlt2 := of_decide_eq_true hlt2
     have hge : b ≤ r2 := by
      rcases Nat.lt_or_ge r2 b with h | h
      ·rw [if_pos h] at hlt2; omega
      ·exact h
     have hq9' : q ≤ 8 := by
      apply Nat.le_of_not_lt
      intro h
      have : 9 * b ≤ q * b := Nat.mul_le_mul_right _ h
      omega
     have hlr : (dec r2).length < 1073741824 := by
      have h1 := dec_lt_pow r
      have h2 : R < 10 ^ ((dec r).length + 1) := by rw [Nat.pow_succ]; omega
      have h3 := dec_len_le (n := r2) (k := (dec r).length + 1) (by omega) (by omega)
      omega
     refine zs1 (subMag_T (k := k) r2 b hge hlr) ?_
     rw [wrap_u8 (x := ((48 + q : Nat) : Int) + 1) (by omega) (by omega)]
     show ∃ m', _
     refine ⟨10 - (q + 1), by omega, r2 - b, q + 1, ?_, ?_, rfl⟩
     ·rw [hy]; rfl
     ·rw [Nat.add_mul]; omega
    ·have hlt2 := of_decide_eq_false hlt2
     have hlt3 : r2 < b := by
      rcases Nat.lt_or_ge r2 b with h | h
      ·exact h
      ·rw [if_neg (by omega)] at hlt2; split at hlt2 <;> omega
     have hq1 : q = R / b := by
      rw [← hq, Nat.add_mul_div_right _ _ hb0, Nat.div_eq_of_lt hlt3, Nat.zero_add]
     have hr1 : r2 = R % b := by
      rw [← hq, Nat.add_mul_mod_self_right, Nat.mod_eq_of_lt hlt3]
     refine zs0 ?_
     rw [ofNat48 (show q < 10 by omega)]
     refine wS te rfl rfl (by rw [bytes_len]; omega) ?_
     rw [show 0 + ((i : Int)).toNat = i by omega]
     refine WX.stElem tab_eq rfl rfl rfl (bytes_get (s := out) (i := i) (by omega)) rfl rfl rfl ?_
     refine zs0 ?_
     rw [bytes_set, wrap_i64 (x := (i : Int) + 1) (by omega) (by omega)]
     show ∃ m', _
     have hdm := Nat.div_add_mod (val (x.take i)) b
     have hA : val (x.take (i + 1)) = R + b * (10 * (val (x.take i) / b)) := by
      rw [hvt, ← hRe, hr]
      have : b * (10 * (val (x.take i) / b)) = 10 * (b * (val (x.take i) / b)) := Nat.mul_left_comm ..
      omega
     refine ⟨x.length - (i + 1), by omega, r2, i + 1, out.set i (UInt8.ofNat (48 + q)), ?_, by omega, by simp [hlen], ?_, ?_, ?_, rfl⟩
     ·rw [hy]; rfl
     ·rw [take_set _ (by omega), List.all_append, hd, List.all_cons, dg_isDg (show q < 10 by omega)]; rfl
     ·rw [take_set _ (by omega), val_snoc, dg_dv (by omega), hA, Nat.add_mul_div_left _ _ hb0, hv, hq1]; omega
     ·rw [hA, Nat.add_mul_mod_self_left]; exact hr1
  ·have hlt := of_decide_eq_false hlt
   have hie : i = x.length := by omega
   subst hie
   rw [List.take_length, va] at hv hr
   rw [← hlen, List.take_length] at hd
   rw [← hlen, List.take_length] at hv
   refine zs0 ?_
   refine WX.convS tab_eq rfl rfl rfl rfl rfl (by rw [List.drop_zero, List.take_length]; exact bytesOf_PV out) ?_
   refine zs0 ?_
   refine wC te rfl rfl rfl rfl rfl (rtrim_T (k := k + 1) out hd (by rintro rfl; exact na (List.eq_nil_of_length_eq_zero hlen.symm)) (by omega)) rfl rfl ?_
   refine zs0 ?_
   rw [hv, hr]
   rfl
theorem gcdMag_T (a b : Nat) (ha : (dec a).length < 536870912) (hb : (dec b).length < 536870912) :
  T (k + 4) 179 [.str (dec a), .str (dec b)] = some (.str (dec (Nat.gcd a b)), []) := by
 refine enter rfl func179 rfl (by decide) (by kernel_rfl) rfl rfl ?_
 refine zs0 ?_
 refine W.loop (fun e m => ∃ (x y : Nat), e = [(0, .str (dec x)), (1, .str (dec y))] ∧ (dec x).length < 536870912 ∧ (dec y).length < 536870912 ∧ Nat.gcd x y = Nat.gcd a b ∧ m = eu x y) (eu a b) ?_ ?_ ?_
 ·exact ⟨a, b, rfl, ha, hb, rfl, rfl⟩
 ·have h1 : a < 2 ^ (4 * (dec a).length) := by
   have := dec_lt_pow a
   rw [Nat.pow_mul]
   exact Nat.lt_of_lt_of_le this (Nat.pow_le_pow_left (by omega) _)
  have h2 : b < 2 ^ (4 * (dec b).length) := by
   have := dec_lt_pow b
   rw [Nat.pow_mul]
   exact Nat.lt_of_lt_of_le this (Nat.pow_le_pow_left (by omega) _)
  have h3 : Nat.log2 (a * b) ≤ 4 * (dec a).length + 4 * (dec b).length := by
   by_cases h0 : a * b = 0
   ·rw [h0]; show 0 ≤ _; omega
   ·have h5 : a * b < 2 ^ (4 * (dec a).length + 4 * (dec b).length) := by rw [Nat.pow_add]; exact Nat.mul_lt_mul'' h1 h2
    have := (Nat.log2_lt h0).2 h5
    omega
  have h4 : eu a b ≤ 2 + 2 * Nat.log2 (a * b) := by
   unfold eu; split
   ·omega
   ·split <;> omega
  show _ < 4611686018427387904; omega
 ·rintro e m ⟨x, y, rfl, hx, hy, hg, rfl⟩
  refine zs0 ?_
  refine W.cond rfl (fun h => ?_) (fun h => ?_)
  ·have h : dec y ≠ [48] := by simpa using h
   have hy0 : y ≠ 0 := by rintro rfl; exact h dec_zero
   have hlt : x % y < y := Nat.mod_lt _ (by omega)
   have hl := dec_len_mono (Nat.le_of_lt hlt)
   refine zs0 ?_
   refine wC te rfl rfl rfl rfl rfl (divMag_T (k := k) x y (by omega) hx hy) rfl rfl ?_
   refine zs0 ?_
   show ∃ m', _
   refine ⟨eu y (x % y), ?_, y, x % y, rfl, hy, by omega, ?_, rfl⟩
   ·exact eu_step hy0
   ·rw [← hg, Nat.gcd_comm x y, Nat.gcd_rec y x, Nat.gcd_comm]
  ·have h : dec y = [48] := by simpa using h
   have hy0 : y = 0 := by rw [← dec_zero] at h; exact dec_inj h
   subst hy0
   refine zs0 ?_
   rw [← hg, Nat.gcd_zero_right]
   rfl
theorem rreduce_T (neg : Bool) (n d : Nat) (hd : d ≠ 0) (hnl : (dec n).length < 536870912) (hdl : (dec d).length < 536870912) :
  T (k + 5) 97 [.bool neg, .str (dec n), .str (dec d)] = some (.agg [.bool (neg && decide (n ≠ 0)), .str (dec (n / n.gcd d)), .str (dec (d / n.gcd d))], []) := by
 have hg : 0 < n.gcd d := Nat.gcd_pos_of_pos_right n (by omega)
 have hgl := dec_len_mono (Nat.gcd_le_right n (show 0 < d by omega))
 have hz : dec (n / n.gcd d) = [48] ↔ n = 0 := by
  rw [← dec_zero]
  constructor
  ·intro h
   have := dec_inj h
   have h2 := Nat.div_mul_cancel (Nat.gcd_dvd_left n d)
   rw [this, Nat.zero_mul] at h2; exact h2.symm
  ·rintro rfl; rw [Nat.zero_div]
 refine enter rfl func97 rfl (by decide) (by kernel_rfl) rfl rfl ?_
 refine zs1 (gcdMag_T (k := k) n d hnl hdl) ?_
 refine wC te rfl rfl rfl rfl rfl (divMag_T (k := k + 1) n (n.gcd d) hg hnl (by omega)) rfl rfl ?_
 refine zs0 ?_
 refine wC te rfl rfl rfl rfl rfl (divMag_T (k := k + 1) d (n.gcd d) hg hdl (by omega)) rfl rfl ?_
 refine zs0 ?_
 cases neg
 ·refine zs0 ?_
  rfl
 ·refine zs0 ?_
  show some (PV.agg [.bool (decide (dec (n / n.gcd d) ≠ [48])), _, _], []) = some (PV.agg [.bool (decide (n ≠ 0)), _, _], [])
  have hz2 : decide (dec (n / n.gcd d) ≠ [48]) = decide (n ≠ 0) := decide_eq_decide.2 (not_congr hz)
  rw [hz2]
  rfl
theorem rtext_T (neg : Bool) (n d : Bs) (hnl : n.length < 1073741824) (hdl : d.length < 1073741824) :
  T (k + 1) 99 [.agg [.bool neg, .str n, .str d]] = some (.str ((if neg then [45] else []) ++ n ++ (if d = [49] then [] else 47 :: d)), []) := by
 refine enter rfl func99 rfl (by decide) (by kernel_rfl) rfl rfl ?_
 refine zs0 ?_
 cases neg
 ·refine zs0 ?_
  refine W.cond rfl (fun b1 => ?_) (fun b1 => ?_)
  ·have b1 : d ≠ [49] := by simpa using b1
   refine zs0 ?_
   refine wS te rfl rfl (by simp; omega) ?_
   refine zs0 ?_
   refine wS te rfl rfl (by simp; omega) ?_
   refine zs0 ?_
   rw [if_neg b1]
   rfl
  ·have b1 : d = [49] := by simpa using b1
   refine zs0 ?_
   rw [if_pos b1, List.append_nil]
   rfl
 ·refine zs0 ?_
  refine wS te rfl rfl (by simp; omega) ?_
  refine zs0 ?_
  refine W.cond rfl (fun b1 => ?_) (fun b1 => ?_)
  ·have b1 : d ≠ [49] := by simpa using b1
   refine zs0 ?_
   refine wS te rfl rfl (by simp; omega) ?_
   refine zs0 ?_
   refine wS te rfl rfl (by simp; omega) ?_
   refine zs0 ?_
   rw [if_neg b1]
   rfl
  ·have b1 : d = [49] := by simpa using b1
   refine zs0 ?_
   rw [if_pos b1, List.append_nil]
   rfl
end Go.PE
namespace Go.PE
open Go.RowKit Go.Proofs.Tryz
set_option maxRecDepth 100000
variable {k : Nat}
def cs1 : Code → Code | .seq a _ => a | c => c
def cs2 : Code → Code | .seq _ b => b | c => c
def bodyOf (f : Func) : Code := f.body.getD .skip
def okP (s : Bs) (neg : Bool) (num den : Bs) : Bool :=
 (num.all isDg && decide (num ≠ [])) && ((den.all isDg && decide (den ≠ [])) && (decide (den ≠ [48]) && (decide (dec (val num) = num) && (decide (dec (val den) = den) &&
  decide (qt neg (val num / (val num).gcd (val den)) (val den / (val num).gcd (val den)) = s)))))
def paX (s : Bs) (neg : Bool) (num den : Bs) : List PV := if okP s neg num den then [.bool neg, .str num, .str den] else [.bool false, .str [], .str []]
theorem paX_no {s num den : Bs} {neg : Bool} (h : okP s neg num den = false) : paX s neg num den = [.bool false, .str [], .str []] := by
 unfold paX; rw [h]; rfl
theorem paX_yes {s num den : Bs} {neg : Bool} (h : okP s neg num den = true) : paX s neg num den = [.bool neg, .str num, .str den] := by
 unfold paX; rw [h]; rfl
theorem not_true {b : Bool} (h : (!b) = true) : b = false := by cases b <;> simp_all
theorem not_false {b : Bool} (h : (!b) = false) : b = true := by cases b <;> simp_all
theorem text_qt (neg : Bool) (n d : Nat) (h : d ≠ 0) :
  (if (neg && decide (n ≠ 0)) = true then [45] else []) ++ dec (n / n.gcd d) ++ (if dec (d / n.gcd d) = [49] then [] else 47 :: dec (d / n.gcd d)) = qt neg (n / n.gcd d) (d / n.gcd d) := by
 unfold qt
 have h1 : (n / n.gcd d != 0) = decide (n ≠ 0) := by
  by_cases h0 : n = 0
  ·subst h0; simp
  ·have hg : 0 < n.gcd d := Nat.gcd_pos_of_pos_right n (by omega)
   have := Nat.div_pos (Nat.le_of_dvd (by omega) (Nat.gcd_dvd_left n d)) hg
   have h2 : n / n.gcd d ≠ 0 := by omega
   rw [decide_eq_true h0]
   exact bne_iff_ne.2 h2
 have h2 : dec (d / n.gcd d) = [49] ↔ d / n.gcd d = 1 := by
  rw [show ([49] : Bs) = dec 1 by rw [dec_small (by omega)]; rfl]
  exact ⟨dec_inj, fun h => by rw [h]⟩
 rw [h1]
 congr 1
 by_cases h3 : d / n.gcd d = 1
 ·rw [if_pos h3, if_pos (h2.2 h3)]
 ·rw [if_neg h3, if_neg (fun h => h3 (h2.1 h))]
theorem parseLoop (s m : Bs) (neg : Bool) (hm : m.length < 268435456) (p : Nat) (e : List (Nat × PV)) (s2 s4 : Stamp) (h0 : lookup e 0 = .str s) (h2 : lookup e 2 = .box s2 [.bool false, .str [], .str []])
  (h4 : lookup e 4 = .box s4 [.bool neg, .str [], .str [49]]) (h5 : lookup e 5 = .str m) :
  W prog (T (k + 5)) (keepF 96) (lvF 96) NN 0 (cs2 (cs2 (cs2 (cs2 (bodyOf f96))))) (p, e)
   (endW (finishT tab f96.results.toList (boxPos [.str s])) (.tup [.agg (paX s neg (cutS m).1 (if (cutS m).2.2 then (cutS m).2.1 else [49])), .bool (okP s neg (cutS m).1 (if (cutS m).2.2 then (cutS m).2.1 else [49]))], [])) := by
 refine wq ?_
 refine zs0 ?_
 refine W.loop (fun e m' => ∃ (i : Nat), e = [(0, .str s), (2, .box (0, 0) [.bool false, .str [], .str []]), (4, .box (0, 0) [.bool neg, .str [], .str [49]]), (5, .str m), (6, .int .i64 i)] ∧ i ≤ m.length ∧ 47 ∉ m.take i ∧ m' = m.length - i) m.length ?_ ?_ ?_
 ·refine ⟨0, ?_, by omega, by simp, by omega⟩
  show [(0, canonV _ _ (lookup e 0)), (2, canonV _ _ (lookup e 2)), (4, canonV _ _ (lookup e 4)), (5, canonV _ _ (lookup e 5)), (6, _)] = _
  rw [h0, h2, h4, h5]
  rfl
 ·show _ < 4611686018427387904; omega
 ·rintro e m' ⟨i, rfl, hi, hn, rfl⟩
  refine zs0 ?_
  refine W.cond rfl (fun hlt => ?_) (fun hlt => ?_)
  ·have hlt := of_decide_eq_true hlt
   refine zs0 ?_
   refine wS te rfl rfl (by constructor <;> omega) ?_
   refine zs0 ?_
   refine W.cond rfl (fun b1 => ?_) (fun b1 => ?_)
   ·have b1 : m.getD i 0 = 47 := UInt8.toNat_inj.1 (Int.ofNat_inj.1 (of_decide_eq_true b1))
    have hsplit : m = m.take i ++ 47 :: m.drop (i + 1) := by
     conv => lhs; rw [← List.take_append_drop (i + 1) m, take_dg (by omega), b1]
     simp
    have hcut : cutS m = (m.take i, m.drop (i + 1), true) := by
     conv => lhs; rw [hsplit]
     exact cutS_some _ hn
    rw [hcut]
    refine zd8 ?_
    rw [wrap_i64 (x := (i : Int) + 1) (by omega) (by omega)]
    refine wD te rfl rfl (by constructor <;> omega) ?_
    refine zd0 ?_
    refine wD te rfl rfl (by constructor <;> omega) ?_
    refine zd0 ?_
    refine WX.nilD (by kernel_rfl) ?_
    rw [Int.toNat_natCast, show ((i : Int) + 1).toNat = i + 1 by omega]
    generalize hnum : m.take i = num at *
    generalize hden : m.drop (i + 1) = den at *
    refine zd8 ?_
    have hn1 : num.length < 268435456 := by rw [← hnum, List.length_take]; omega
    have hd1 : den.length < 268435456 := by rw [← hden, List.length_drop]; omega
    show _
    simp only [if_true]
    refine zd0 ?_
    refine wG te rfl rfl rfl rfl rfl (digits_T (k := k + 4) num (by omega)) rfl rfl ?_
    refine zd0 ?_
    refine WX.boolMD rfl rfl (fun c1 => ?_) (fun c1 => ?_)
    ·have hk : okP s neg num den = false := by
      unfold okP; rw [show (num.all isDg && decide (num ≠ [])) = false from not_true c1, Bool.false_and]
     refine zd7 ?_
     rw [paX_no hk, hk]
     rfl
    ·have c1 := not_false c1
     refine zd0 ?_
     refine wG te rfl rfl rfl rfl rfl (digits_T (k := k + 4) den (by first | omega | simp)) rfl rfl ?_
     refine zd0 ?_
     refine WX.boolMD rfl rfl (fun c2 => ?_) (fun c2 => ?_)
     ·have hk : okP s neg num den = false := by
       unfold okP; rw [c1, show (den.all isDg && decide (den ≠ [])) = false from not_true c2, Bool.false_and, Bool.and_false]
      refine zd7 ?_
      rw [paX_no hk, hk]
      rfl
     ·have c2 := not_false c2
      have n1 : num.all isDg = true := by rw [Bool.and_eq_true] at c1; exact c1.1
      have n2 : num ≠ [] := by rw [Bool.and_eq_true] at c1; exact of_decide_eq_true c1.2
      have n3 : (den : Bs).all isDg = true := by rw [Bool.and_eq_true] at c2; exact c2.1
      have n4 : (den : Bs) ≠ [] := by rw [Bool.and_eq_true] at c2; exact of_decide_eq_true c2.2
      refine zd0 ?_
      refine WX.boolMD rfl rfl (fun c3 => ?_) (fun c3 => ?_)
      ·have hk : okP s neg num den = false := by
        unfold okP; rw [c1, c2, show decide ((den : Bs) ≠ [48]) = false from decide_eq_false (fun h => h (of_decide_eq_true c3))]; simp
       refine zd7 ?_
       rw [paX_no hk, hk]
       rfl
      ·have c3 : (den : Bs) ≠ [48] := of_decide_eq_false c3
       refine zd0 ?_
       refine wG te rfl rfl rfl rfl rfl (rtrim_T (k := k + 4) num n1 n2 (by omega)) rfl rfl ?_
       refine zd0 ?_
       refine WX.boolMD rfl rfl (fun c4 => ?_) (fun c4 => ?_)
       ·have hk : okP s neg num den = false := by
         unfold okP; rw [show decide (dec (val num) = num) = false from decide_eq_false (of_decide_eq_true c4)]; simp
        refine zd7 ?_
        rw [paX_no hk, hk]
        rfl
       ·have c4 : dec (val num) = num := Decidable.not_not.1 (of_decide_eq_false c4)
        refine zd0 ?_
        refine wG te rfl rfl rfl rfl rfl (rtrim_T (k := k + 4) den n3 n4 (by first | omega | simp)) rfl rfl ?_
        refine zd0 ?_
        refine WX.boolMD rfl rfl (fun c5 => ?_) (fun c5 => ?_)
        ·have hk : okP s neg num den = false := by
          unfold okP; rw [show decide (dec (val den) = den) = false from decide_eq_false (of_decide_eq_true c5)]; simp
         refine zd7 ?_
         rw [paX_no hk, hk]
         rfl
        ·have c5 : dec (val den) = den := Decidable.not_not.1 (of_decide_eq_false c5)
         have d0 : val den ≠ 0 := by intro h; rw [h, dec_zero] at c5; exact c3 c5.symm
         have hr := rreduce_T (k := k) neg (val num) (val den) d0 (by rw [c4]; omega) (by rw [c5]; omega)
         have ht := text_qt neg (val num) (val den) d0
         have hx := rtext_T (k := k + 4) (neg && decide (val num ≠ 0)) (dec (val num / (val num).gcd (val den))) (dec (val den / (val num).gcd (val den))) (by have := dec_len_mono (Nat.div_le_self (val num) ((val num).gcd (val den))); rw [c4] at this; omega) (by have := dec_len_mono (Nat.div_le_self (val den) ((val num).gcd (val den))); rw [c5] at this; omega)
         rw [ht] at hx
         rw [c4, c5] at hr
         have hok : okP s neg num den = decide (qt neg (val num / (val num).gcd (val den)) (val den / (val num).gcd (val den)) = s) := by
          unfold okP; rw [c1, c2, decide_eq_true c3, decide_eq_true c4, decide_eq_true c5]; rfl
         generalize qt neg _ _ = q at *
         generalize dec (val num / (val num).gcd (val den)) = g1 at *
         generalize dec (val den / (val num).gcd (val den)) = g2 at *
         refine zd2 hr ?_
         refine zd5 hx ?_
         refine W.cond rfl (fun c6 => ?_) (fun c6 => ?_)
         ·have hk : okP s neg num den = false := by
           rw [hok]; exact decide_eq_false (of_decide_eq_true c6)
          refine zs0 ?_
          rw [paX_no hk, hk]
          rfl
         ·have hk : okP s neg num den = true := by
           rw [hok]; exact decide_eq_true (Decidable.not_not.1 (of_decide_eq_false c6))
          refine zs0 ?_
          rw [paX_yes hk, hk]
          rfl
   ·refine zs0 ?_
    rw [wrap_i64 (x := (i : Int) + 1) (by omega) (by omega)]
    show ∃ m', _
    refine ⟨m.length - (i + 1), by omega, i + 1, rfl, by omega, ?_, rfl⟩
    rw [take_dg (by omega)]
    have b1 : m.getD i 0 ≠ 47 := by
     intro h
     have := of_decide_eq_false b1
     apply this
     show ((m.getD i 0).toNat : Int) = 47
     rw [h]; rfl
    simp [hn]
    exact fun h => b1 h.symm
  ·have hlt := of_decide_eq_false hlt
   have hie : i = m.length := by omega
   subst hie
   rw [List.take_length] at hn
   have hcut : cutS m = (m, [], false) := cutS_none hn
   rw [hcut]
   simp only [Bool.false_eq_true, if_false]
   generalize hden : ([49] : Bs) = den at *
   have hd1 : den.length < 268435456 := by rw [← hden]; simp
   refine zd8 ?_
   refine wG te rfl rfl rfl rfl rfl (digits_T (k := k + 4) m (by omega)) rfl rfl ?_
   refine zd0 ?_
   refine WX.boolMD rfl rfl (fun c1 => ?_) (fun c1 => ?_)
   ·have hk : okP s neg m den = false := by
     unfold okP; rw [show (m.all isDg && decide (m ≠ [])) = false from not_true c1, Bool.false_and]
    refine zd7 ?_
    rw [paX_no hk, hk]
    rfl
   ·have c1 := not_false c1
    refine zd0 ?_
    refine wG te rfl rfl rfl rfl rfl (digits_T (k := k + 4) den (by first | omega | simp)) rfl rfl ?_
    refine zd0 ?_
    refine WX.boolMD rfl rfl (fun c2 => ?_) (fun c2 => ?_)
    ·have hk : okP s neg m den = false := by
      unfold okP; rw [c1, show (den.all isDg && decide (den ≠ [])) = false from not_true c2, Bool.false_and, Bool.and_false]
     refine zd7 ?_
     rw [paX_no hk, hk]
     rfl
    ·have c2 := not_false c2
     have n1 : m.all isDg = true := by rw [Bool.and_eq_true] at c1; exact c1.1
     have n2 : m ≠ [] := by rw [Bool.and_eq_true] at c1; exact of_decide_eq_true c1.2
     have n3 : (den : Bs).all isDg = true := by rw [Bool.and_eq_true] at c2; exact c2.1
     have n4 : (den : Bs) ≠ [] := by rw [Bool.and_eq_true] at c2; exact of_decide_eq_true c2.2
     refine zd0 ?_
     refine WX.boolMD rfl rfl (fun c3 => ?_) (fun c3 => ?_)
     ·have hk : okP s neg m den = false := by
       unfold okP; rw [c1, c2, show decide ((den : Bs) ≠ [48]) = false from decide_eq_false (fun h => h (of_decide_eq_true c3))]; simp
      refine zd7 ?_
      rw [paX_no hk, hk]
      rfl
     ·have c3 : (den : Bs) ≠ [48] := of_decide_eq_false c3
      refine zd0 ?_
      refine wG te rfl rfl rfl rfl rfl (rtrim_T (k := k + 4) m n1 n2 (by omega)) rfl rfl ?_
      refine zd0 ?_
      refine WX.boolMD rfl rfl (fun c4 => ?_) (fun c4 => ?_)
      ·have hk : okP s neg m den = false := by
        unfold okP; rw [show decide (dec (val m) = m) = false from decide_eq_false (of_decide_eq_true c4)]; simp
       refine zd7 ?_
       rw [paX_no hk, hk]
       rfl
      ·have c4 : dec (val m) = m := Decidable.not_not.1 (of_decide_eq_false c4)
       refine zd0 ?_
       refine wG te rfl rfl rfl rfl rfl (rtrim_T (k := k + 4) den n3 n4 (by first | omega | simp)) rfl rfl ?_
       refine zd0 ?_
       refine WX.boolMD rfl rfl (fun c5 => ?_) (fun c5 => ?_)
       ·have hk : okP s neg m den = false := by
         unfold okP; rw [show decide (dec (val den) = den) = false from decide_eq_false (of_decide_eq_true c5)]; simp
        refine zd7 ?_
        rw [paX_no hk, hk]
        rfl
       ·have c5 : dec (val den) = den := Decidable.not_not.1 (of_decide_eq_false c5)
        have d0 : val den ≠ 0 := by intro h; rw [h, dec_zero] at c5; exact c3 c5.symm
        have hr := rreduce_T (k := k) neg (val m) (val den) d0 (by rw [c4]; omega) (by rw [c5]; omega)
        have ht := text_qt neg (val m) (val den) d0
        have hx := rtext_T (k := k + 4) (neg && decide (val m ≠ 0)) (dec (val m / (val m).gcd (val den))) (dec (val den / (val m).gcd (val den))) (by have := dec_len_mono (Nat.div_le_self (val m) ((val m).gcd (val den))); rw [c4] at this; omega) (by have := dec_len_mono (Nat.div_le_self (val den) ((val m).gcd (val den))); rw [c5] at this; omega)
        rw [ht] at hx
        rw [c4, c5] at hr
        have hok : okP s neg m den = decide (qt neg (val m / (val m).gcd (val den)) (val den / (val m).gcd (val den)) = s) := by
         unfold okP; rw [c1, c2, decide_eq_true c3, decide_eq_true c4, decide_eq_true c5]; rfl
        generalize qt neg _ _ = q at *
        generalize dec (val m / (val m).gcd (val den)) = g1 at *
        generalize dec (val den / (val m).gcd (val den)) = g2 at *
        refine zd2 hr ?_
        refine zd5 hx ?_
        refine W.cond rfl (fun c6 => ?_) (fun c6 => ?_)
        ·have hk : okP s neg m den = false := by
          rw [hok]; exact decide_eq_false (of_decide_eq_true c6)
         refine zs0 ?_
         rw [paX_no hk, hk]
         rfl
        ·have hk : okP s neg m den = true := by
          rw [hok]; exact decide_eq_true (Decidable.not_not.1 (of_decide_eq_false c6))
         refine zs0 ?_
         rw [paX_yes hk, hk]
         rfl
theorem parse_T (s : Bs) (hs : s.length < 268435456) : T (k + 6) 96 [.str s] = some (.tup [.agg (paX s (cutM s).2 (cutS (cutM s).1).1 (if (cutS (cutM s).1).2.2 then (cutS (cutM s).1).2.1 else [49])),
  .bool (okP s (cutM s).2 (cutS (cutM s).1).1 (if (cutS (cutM s).1).2.2 then (cutS (cutM s).1).2.1 else [49]))], []) := by
 have h0 := cutM_len s
 refine enter rfl func96 rfl (by decide) (by kernel_rfl) rfl rfl ?_
 refine zs0 ?_
 refine WX.boolM rfl rfl (fun b1 => ?_) (fun b1 => ?_)
 ·have b1 : s ≠ [] := by simpa using b1
  obtain ⟨c, t, rfl⟩ := List.exists_cons_of_ne_nil b1
  repeat (first | refine wS te rfl rfl trivial ?_ | refine wS te rfl rfl (by decide) ?_ | refine wN ?_ | refine wK rfl ?_)
  refine wS te rfl rfl (by simp) ?_
  repeat (first | refine wS te rfl rfl trivial ?_ | refine wS te rfl rfl (by decide) ?_ | refine wN ?_ | refine wK rfl ?_)
  refine W.cond rfl (fun b2 => ?_) (fun b2 => ?_)
  ·have b2 : c = 45 := UInt8.toNat_inj.1 (Int.ofNat_inj.1 (of_decide_eq_true b2))
   subst b2
   refine wR ?_
   refine zd0 ?_
   refine wD te rfl rfl (by simp; omega) ?_
   refine zd0 ?_
   refine WX.nilD (by kernel_rfl) ?_
   refine parseLoop (45 :: t) t true (by simp at hs; omega) _ _ ?s2 ?s4 ?h0 ?h2 ?h4 ?h5
   case h0 => exact rfl
   case h2 => exact rfl
   case h4 => exact rfl
   case h5 => exact rfl
  ·have b2 : c ≠ 45 := by
    have b3 : ¬ ((c.toNat : Int) = 45) := of_decide_eq_false b2
    intro e; apply b3; rw [e]; rfl
   have hc : cutM (c :: t) = (c :: t, false) := by simp [cutM, b2]
   rw [hc]
   refine wk ?_
   refine parseLoop (c :: t) (c :: t) false hs _ _ ?s2 ?s4 ?h0 ?h2 ?h4 ?h5
   case h0 => exact rfl
   case h2 => exact rfl
   case h4 => exact rfl
   case h5 => exact rfl
 ·have b1 : s = [] := by simpa using b1
  subst b1
  repeat (first | refine wS te rfl rfl trivial ?_ | refine wS te rfl rfl (by decide) ?_ | refine wN ?_ | refine wK rfl ?_)
  refine wF rfl ?_
  refine wk ?_
  refine parseLoop [] [] false (by simp) _ _ ?s2 ?s4 ?h0 ?h2 ?h4 ?h5
  case h0 => exact rfl
  case h2 => exact rfl
  case h4 => exact rfl
  case h5 => exact rfl
end Go.PE
namespace Go.PE
open Go.RowKit Go.Proofs.Tryz
set_option maxRecDepth 100000
variable {k : Nat}
theorem cutM_rs (q : Rat) : cutM (rs q) = (dec q.num.natAbs ++ (if q.den = 1 then [] else 47 :: dec q.den), decide (q.num < 0)) := by
 unfold rs qt
 by_cases h : q.num < 0
 ·have : q.num.natAbs ≠ 0 := by omega
  simp [h, this, cutM]
 ·simp only [h, decide_false, Bool.false_and]
  rw [if_neg (by simp), List.nil_append, cutM_dec]
def paD (s : Bs) : Bs := if (cutS (cutM s).1).2.2 then (cutS (cutM s).1).2.1 else [49]
def paO (s : Bs) : Bool := okP s (cutM s).2 (cutS (cutM s).1).1 (paD s)
def paR (q : Rat) : List PV := [.bool (decide (q.num < 0)), .str (dec q.num.natAbs), .str (dec q.den)]
theorem okP_rs (q : Rat) : paO (rs q) = true ∧ (cutM (rs q)).2 = decide (q.num < 0) ∧ (cutS (cutM (rs q)).1).1 = dec q.num.natAbs ∧ paD (rs q) = dec q.den := by
 have hD : paD (rs q) = dec q.den := by
  unfold paD
  rw [cutM_rs]; simp only; rw [cutS_dec]
  by_cases h : q.den = 1
  ·simp [h]; rw [dec_small (by omega)]; rfl
  ·simp [h]
 have hN : (cutS (cutM (rs q)).1).1 = dec q.num.natAbs := by rw [cutM_rs]; simp only; rw [cutS_dec]
 have hM : (cutM (rs q)).2 = decide (q.num < 0) := by rw [cutM_rs]
 refine ⟨?_, hM, hN, hD⟩
 unfold paO okP
 rw [hD, hN, hM]
 have hg : q.num.natAbs.gcd q.den = 1 := q.reduced
 simp only [val_dec, hg, Nat.div_one, dec_all, ne_eq, dec_ne, not_false_eq_true, decide_true, Bool.true_and]
 have : dec q.den ≠ [48] := by
  rw [← dec_zero]; intro e; exact q.den_nz (dec_inj e)
 simp only [this, not_false_eq_true, decide_true, Bool.true_and, decide_eq_true_eq]
 rfl
theorem paO_some {s : Bs} (h : paO s = true) : ∃ q, s = rs q := by
 unfold paO okP at h
 simp only [Bool.and_eq_true, decide_eq_true_eq] at h
 obtain ⟨h1, h2, h3, h4, h5, h6⟩ := h
 have hd : val (paD s) ≠ 0 := by
  intro e; rw [e, dec_zero] at h5; exact h3 h5.symm
 exact ⟨_, by rw [rs_mkRat (cutM s).2 (val (cutS (cutM s).1).1) (val (paD s)) hd]; exact h6.symm⟩
theorem paO_rd (s : Bs) : paO s = (rd s).isSome := by
 cases h : paO s
 ·cases h2 : rd s with
  | none => rfl
  | some q => rw [rs_rd h2, (okP_rs q).1] at h; cases h
 ·obtain ⟨q, rfl⟩ := paO_some h
  rw [rd_rs]; rfl
def rdA (s : Bs) : PV := .agg (match rd s with | some q => paR q | none => [.bool false, .str [], .str []])
theorem rparse_T (s : Bs) (hs : s.length < 268435456) : T (k + 6) 96 [.str s] = some (.tup [rdA s, .bool (rd s).isSome], []) := by
 rw [parse_T s hs]
 have h := paO_rd s
 unfold paO paD at h
 rw [h]
 unfold rdA
 cases h2 : rd s with
 | none =>
  rw [h2] at h
  rw [paX_no h]
 | some q =>
  rw [h2] at h
  rw [paX_yes h]
  have h3 := rs_rd h2
  subst h3
  obtain ⟨h4, h5, h6, h7⟩ := okP_rs q
  unfold paD at h7
  rw [h5, h6, h7]
  rfl
theorem rvalid_T (a : Bs) (h : a.length < 268435456) : T (k + 7) 73 [.str a] = some (.bool (rd a).isSome, []) := by
 have hr := rparse_T (k := k) a h
 unfold rdA at hr
 refine enter rfl func73 rfl (by decide) (by kernel_rfl) rfl rfl ?_
 refine zs0 ?_
 generalize rd a = o at *
 rcases o with _ | q
 ·refine zs2 hr ?_
  rfl
 ·refine zs2 hr ?_
  rfl
theorem rden1 (q : Rat) : (dec q.den = [49]) ↔ q.den = 1 := by
 rw [show ([49] : Bs) = dec 1 by rw [dec_small (by omega)]; rfl]
 exact ⟨dec_inj, fun h => by rw [h]⟩
theorem risInt_T (a : Bs) (h : a.length < 268435456) : T (k + 7) 52 [.str a] = some (.bool (match rd a with | some q => decide (q.den = 1) | none => false), []) := by
 have hr := rparse_T (k := k) a h
 unfold rdA at hr
 refine enter rfl func52 rfl (by decide) (by kernel_rfl) rfl rfl ?_
 refine zs0 ?_
 generalize rd a = o at *
 rcases o with _ | q
 ·refine zs2 hr ?_
  rfl
 ·refine zs2 hr ?_
  show some (PV.bool (decide (dec q.den = [49])), []) = some (PV.bool (decide (q.den = 1)), [])
  rw [decide_eq_decide.2 (rden1 q)]
theorem rsign_T (a : Bs) (h : a.length < 268435456) : T (k + 7) 76 [.str a] = some (.int .i64 (match rd a with | some q => sgn q | none => 0), []) := by
 have hr := rparse_T (k := k) a h
 unfold rdA at hr
 refine enter rfl func76 rfl (by decide) (by kernel_rfl) rfl rfl ?_
 refine zs0 ?_
 generalize rd a = o at *
 rcases o with _ | q
 ·refine zs2 hr ?_
  rfl
 ·refine zs2 hr ?_
  refine W.cond rfl (fun b1 => ?_) (fun b1 => ?_)
  ·have b1 : dec q.num.natAbs = [48] := by simpa using b1
   have hz : q.num = 0 := by rw [← dec_zero] at b1; have := dec_inj b1; omega
   refine zs0 ?_
   show some (PV.int .i64 0, []) = some (PV.int .i64 (sgn q), [])
   unfold sgn; rw [hz]; rfl
  ·have b1 : dec q.num.natAbs ≠ [48] := by simpa using b1
   have hz : q.num ≠ 0 := by intro e; apply b1; rw [e]; exact dec_zero
   refine zs0 ?_
   refine W.cond rfl (fun b2 => ?_) (fun b2 => ?_)
   ·have b2 : q.num < 0 := of_decide_eq_true b2
    refine zs0 ?_
    show some (PV.int .i64 (-1), []) = some (PV.int .i64 (sgn q), [])
    unfold sgn; rw [if_pos b2]
   ·have b2 : ¬ q.num < 0 := of_decide_eq_false b2
    refine zs0 ?_
    show some (PV.int .i64 1, []) = some (PV.int .i64 (sgn q), [])
    unfold sgn; rw [if_neg b2, if_neg hz]
end Go.PE
namespace Go.PE
open Go.RowKit Go.Proofs.Tryz
set_option maxRecDepth 100000
variable {k : Nat}
def lt1 (c : Int) : Bool := ((((decide (97 ≤ c) && decide (c ≤ 122)) || (decide (65 ≤ c) && decide (c ≤ 90))) || decide (c = 95)) || decide (c = 36)) || decide (c = 33)
def lt0 (c : Int) : Bool := (decide (97 ≤ c) && decide (c ≤ 122)) || (decide (65 ≤ c) && decide (c ≤ 90))
theorem ltr_T (c : Int) : T (k + 1) 165 [.int .u8 c] = some (.bool (lt1 c), []) := by
 refine enter rfl func165 rfl (by decide) (by kernel_rfl) rfl rfl ?_
 repeat' (first | refine wS te rfl rfl trivial ?_ | refine wS te rfl rfl (by decide) ?_ | refine wN ?_ | refine wq ?_ | refine wr ?_ | refine wb ?_ | refine wk ?_ | refine we ?_ | refine wt ?_ | refine wT rfl ?_ | refine wF rfl ?_ | refine wK rfl ?_ | refine WX.boolM rfl rfl (fun _ => ?_) (fun _ => ?_) | refine W.cond rfl (fun _ => ?_) (fun _ => ?_))
 all_goals (refine (congrArg (fun b => some (PV.bool b, [])) ?_ : some (PV.bool _, []) = some (PV.bool _, [])); (simp_all [lt1] <;> omega))
theorem rltr_T (c : Int) : T (k + 1) 169 [.int .u8 c] = some (.bool (lt0 c), []) := by
 refine enter rfl func169 rfl (by decide) (by kernel_rfl) rfl rfl ?_
 repeat' (first | refine wS te rfl rfl trivial ?_ | refine wS te rfl rfl (by decide) ?_ | refine wN ?_ | refine wq ?_ | refine wr ?_ | refine wb ?_ | refine wk ?_ | refine we ?_ | refine wt ?_ | refine wT rfl ?_ | refine wF rfl ?_ | refine wK rfl ?_ | refine WX.boolM rfl rfl (fun _ => ?_) (fun _ => ?_) | refine W.cond rfl (fun _ => ?_) (fun _ => ?_))
 all_goals (refine (congrArg (fun b => some (PV.bool b, [])) ?_ : some (PV.bool _, []) = some (PV.bool _, [])); (simp_all [lt0] <;> omega))
def words : List Bs := [[97, 110, 100], [111, 114], [110, 111, 116], [105, 116, 101], [116, 114, 117, 101], [102, 97, 108, 115, 101], [108, 101, 116], [102, 111, 114, 97, 108, 108], [101, 120, 105, 115, 116, 115],
 [100, 105, 115, 116, 105, 110, 99, 116], [100, 105, 118], [109, 111, 100], [115, 101, 108, 101, 99, 116], [115, 116, 111, 114, 101], [99, 111, 110, 115, 116], [66, 111, 111, 108], [73, 110, 116], [82, 101, 97, 108], [65, 114, 114, 97, 121]]
theorem word_T (s : Bs) : T (k + 1) 166 [.str s] = some (.bool (words.contains s), []) := by
 refine enter rfl func166 rfl (by decide) (by kernel_rfl) rfl rfl ?_
 repeat' (first | refine wS te rfl rfl trivial ?_ | refine wS te rfl rfl (by decide) ?_ | refine wN ?_ | refine wq ?_ | refine wr ?_ | refine wb ?_ | refine wk ?_ | refine we ?_ | refine wt ?_ | refine wT rfl ?_ | refine wF rfl ?_ | refine wK rfl ?_ | refine WX.boolM rfl rfl (fun _ => ?_) (fun _ => ?_) | refine W.cond rfl (fun _ => ?_) (fun _ => ?_))
 all_goals (refine (congrArg (fun b => some (PV.bool b, [])) ?_ : some (PV.bool _, []) = some (PV.bool _, [])); simp_all [words])
theorem reserved_T : T (k + 1) 168 [] = some (.own (0, 0) 1 (words.map fun w => [.str w]), []) := by
 refine enter rfl func168 rfl (by decide) (by kernel_rfl) rfl rfl ?_
 refine zs0 ?_
 rfl
theorem in_T (ws : List Bs) (s : Bs) (hl : ws.length < 4611686018427387904) : T (k + 1) 167 [.imm 1 (ws.map fun w => [.str w]), .str s] = some (.bool (ws.contains s), []) := by
 refine enter rfl func167 rfl (by decide) (by kernel_rfl) rfl rfl ?_
 refine zs0 ?_
 refine W.loop (fun e m => ∃ (i : Nat), e = [(0, .imm 1 (ws.map fun w => [.str w])), (1, .str s), (5, .int .i64 i)] ∧ i ≤ ws.length ∧ (ws.take i).contains s = false ∧ m = ws.length - i) ws.length ?_ ?_ ?_
 ·exact ⟨0, rfl, by omega, by simp, by omega⟩
 ·show _ < 4611686018427387904; omega
 ·rintro e m ⟨i, rfl, hi, hc, rfl⟩
  refine zs0 ?_
  rw [List.length_map]
  refine W.cond rfl (fun hlt => ?_) (fun hlt => ?_)
  ·have hlt := of_decide_eq_true hlt
   have hg : (ws.map fun w => [PV.str w])[((i : Int)).toNat]? = some [.str (ws[i]'(by omega))] := by
    rw [Int.toNat_natCast, List.getElem?_map, List.getElem?_eq_getElem (by omega)]; rfl
   have ht : ws.take (i + 1) = ws.take i ++ [ws[i]'(by omega)] := List.take_succ_eq_append_getElem (by omega)
   refine zs0 ?_
   refine wI te rfl rfl rfl rfl rfl rfl (by omega) (hg) ?_
   refine zs0 ?_
   refine W.cond rfl (fun b1 => ?_) (fun b1 => ?_)
   ·have b1 : ws[i]'(by omega) = s := of_decide_eq_true b1
    refine zs0 ?_
    (refine (congrArg (fun b => some (PV.bool b, [])) ?_ : some (PV.bool _, []) = some (PV.bool _, [])); (symm; rw [List.contains_iff_mem, ← b1]; exact List.getElem_mem _))
   ·have b1 : ws[i]'(by omega) ≠ s := of_decide_eq_false b1
    refine zs0 ?_
    rw [wrap_i64 (x := (i : Int) + 1) (by omega) (by omega)]
    show ∃ m', _
    refine ⟨ws.length - (i + 1), by omega, i + 1, rfl, by omega, ?_, rfl⟩
    rw [ht, List.contains_append, hc]
    simp [Ne.symm b1]
  ·have hlt := of_decide_eq_false hlt
   rw [List.take_of_length_le (by omega)] at hc
   refine zs0 ?_
   (refine (congrArg (fun b => some (PV.bool b, [])) ?_ : some (PV.bool _, []) = some (PV.bool _, [])); exact hc.symm)
end Go.PE
