/-
  A part of the proof that the law's function returns true and leaves its arguments as they were, for every input (no condition): own lemmas of the proof, in the order of their use.
-/
import Derived.Test.YtggpmnlmbfogeaaGreatDoorX16
set_option linter.all false
namespace Go.PE
open Go.RowKit Go.Proofs.Tryz
set_option maxRecDepth 100000
variable {k : Nat}
theorem lval_set : ∀ (l : List Nat) (i x : Nat), i < l.length → lval (l.set i x) + 1000000000 ^ i * l.getD i 0 = lval l + 1000000000 ^ i * x
 | [], i, x, h => by simp at h
 | a :: l, 0, x, h => by simp [lval]; omega
 | a :: l, i + 1, x, h => by
  have := lval_set l i x (by simpa using h)
  rw [List.set_cons_succ, lval, lval, List.getD_cons_succ, Nat.pow_succ]
  rw [Nat.mul_comm (1000000000 ^ i) 1000000000, Nat.mul_assoc, Nat.mul_assoc]
  omega
theorem getD_set_ne {l : List Nat} {i j x : Nat} (h : i ≠ j) : (l.set i x).getD j 0 = l.getD j 0 := by
 simp only [List.getD, List.getElem?_set, if_neg h]
theorem getD_rep (n j : Nat) : (List.replicate n 0).getD j 0 = 0 := by
 simp only [List.getD, List.getElem?_replicate]
 split <;> rfl
theorem mul_T (a b : Nat) (ha : ln a < 274877906944) (hb : ln b < 274877906944) : T (k + 2) 189 [.imm 1 (row (limbs a)), .imm 1 (row (limbs b))] = some (.own (0, 0) 1 (row (limbs (a * b))), []) := by
 unfold ln at ha hb
 generalize hla : limbs a = la at ha
 generalize hlb : limbs b = lb at hb
 have oa : okL la = true := hla ▸ okL_limbs a
 have ob : okL lb = true := hlb ▸ okL_limbs b
 have va : lval la = a := hla ▸ lval_limbs a
 have vb : lval lb = b := hlb ▸ lval_limbs b
 refine enter rfl func189 rfl (by decide) (by kernel_rfl) rfl rfl ?_
 refine zs0 ?_
 rw [row_len, row_len, wrap_i64 (x := (la.length : Int) + lb.length) (by omega) (by omega), show (la.length : Int) + lb.length = ((la.length + lb.length : Nat) : Int) by omega]
 refine wS te rfl rfl (by refine ⟨by omega, by omega, by omega, by omega⟩) ?_
 refine zs0 ?_
 rw [Int.toNat_natCast]
 refine W.loop (fun e m => ∃ (i : Nat) (out : List Nat), e = [(0, .imm 1 (row la)), (1, .imm 1 (row lb)), (5, .own (0, 0) 1 (row out)), (18, .imm 1 (row la)), (19, .int .i64 la.length), (20, .int .i64 i)] ∧
  i ≤ la.length ∧ out.length = la.length + lb.length ∧ okL out = true ∧ lval out = lval (la.take i) * lval lb ∧ (∀ j, i + lb.length ≤ j → out.getD j 0 = 0) ∧ m = la.length - i) la.length ?_ ?_ ?_
 ·refine ⟨0, List.replicate (la.length + lb.length) 0, ?_, by omega, by simp, okL_rep _, by rw [lval_rep]; simp [lval], fun j _ => getD_rep _ _, by omega⟩
  rw [← row_len la, ← row_rep]
  rfl
 ·show _ < 4611686018427387904; omega
 ·rintro e m ⟨i, out, rfl, hi, hlen, ho, hv, hz, rfl⟩
  refine zs0 ?_
  refine W.cond rfl (fun hlt => ?_) (fun hlt => ?_)
  ·have hlt := of_decide_eq_true hlt
   have hg := row_get (l := la) (i := i) (by omega)
   have gx := okL_getD oa i
   refine zs0 ?_
   refine wI te rfl rfl rfl rfl rfl rfl (by omega) (hg) ?_
   refine zs0 ?_
   generalize hx : la.getD i 0 = x at *
   rw [row_len]
   refine W.loop (fun e m => ∃ (t c : Nat) (o2 : List Nat), e = [(0, .imm 1 (row la)), (1, .imm 1 (row lb)), (5, .own (0, 0) 1 (row o2)), (6, .int .i64 i), (7, .int .u32 x), (8, .int .u64 c), (18, .imm 1 (row la)), (19, .int .i64 la.length), (20, .int .i64 i), (25, .imm 1 (row lb)), (26, .int .i64 lb.length), (27, .int .i64 t)] ∧
    t ≤ lb.length ∧ o2.length = la.length + lb.length ∧ okL o2 = true ∧ c < 1000000000 ∧ lval o2 + c * 1000000000 ^ (i + t) = lval (la.take i) * lval lb + 1000000000 ^ i * (x * lval (lb.take t)) ∧ (∀ j, i + lb.length ≤ j → o2.getD j 0 = 0) ∧ m = lb.length - t) lb.length ?_ ?_ ?_
   ·exact ⟨0, 0, out, rfl, by omega, hlen, ho, by omega, by simp [lval, hv], hz, by omega⟩
   ·show _ < 4611686018427387904; omega
   ·rintro e m ⟨t, c, o2, rfl, ht, hlen2, ho2, hc, hv2, hz2, rfl⟩
    refine zs0 ?_
    refine W.cond rfl (fun hlt2 => ?_) (fun hlt2 => ?_)
    ·have hlt2 := of_decide_eq_true hlt2
     have hg2 := row_get (l := lb) (i := t) (by omega)
     have gy := okL_getD ob t
     have gz := okL_getD ho2 (i + t)
     refine zs0 ?_
     refine wI te rfl rfl rfl rfl rfl rfl (by omega) (hg2) ?_
     refine zs0 ?_
     generalize hy : lb.getD t 0 = y at *
     have hidx : IntKind.i64.wrap ((i : Int) + t) = ((i + t : Nat) : Int) := by rw [wrap_i64 (by omega) (by omega)]; omega
     have hidx2 : 0 + ((i + t : Nat) : Int).toNat = i + t := by omega
     rw [hidx]
     refine wS te rfl rfl (by rw [row_len, hlen2]; omega) ?_
     rw [hidx2]
     have hg3 := row_get (l := o2) (i := i + t) (by omega)
     refine WX.ldElem tab_eq rfl rfl rfl (hg3) rfl rfl rfl rfl ?_
     refine zs0 ?_
     generalize hzz : o2.getD (i + t) 0 = z at *
     have hxy : x * y ≤ 999999999 * 999999999 := Nat.mul_le_mul (by omega) (by omega)
     rw [wrap_u64 (x := (z : Int)) (by omega) (by omega), wrap_u64 (x := (x : Int)) (by omega) (by omega), wrap_u64 (x := (y : Int)) (by omega) (by omega)]
     rw [show (x : Int) * (y : Int) = ((x * y : Nat) : Int) from (Int.natCast_mul x y).symm, wrap_u64 (x := ((x * y : Nat) : Int)) (by omega) (by omega)]
     rw [wrap_u64 (x := (z : Int) + ((x * y : Nat) : Int)) (by omega) (by omega), wrap_u64 (x := (z : Int) + ((x * y : Nat) : Int) + c) (by omega) (by omega), show (z : Int) + ((x * y : Nat) : Int) + c = ((z + x * y + c : Nat) : Int) by omega]
     rw [hidx, tmodB, tdivB, wrap_u32 (x := ((z + x * y + c) % 1000000000 : Nat)) (by omega) (by omega), wrap_u64 (x := ((z + x * y + c) / 1000000000 : Nat)) (by omega) (by omega)]
     refine wS te rfl rfl (by rw [row_len, hlen2]; omega) ?_
     rw [hidx2]
     refine WX.stElem tab_eq rfl rfl rfl (hg3) rfl rfl rfl ?_
     refine zs0 ?_
     rw [row_set]
     rw [wrap_i64 (x := (t : Int) + 1) (by omega) (by omega)]
     show ∃ m', _
     have hdm := Nat.mod_add_div (z + x * y + c) 1000000000
     refine ⟨lb.length - (t + 1), by omega, t + 1, (z + x * y + c) / 1000000000, o2.set (i + t) ((z + x * y + c) % 1000000000), rfl, by omega, by simp [hlen2], okL_set ho2 _ (by omega), by omega, ?_, ?_, rfl⟩
     ·have hs := lval_set o2 (i + t) ((z + x * y + c) % 1000000000) (by omega)
      rw [hzz] at hs
      rw [lval_step, hy, show i + (t + 1) = i + t + 1 by omega, Nat.pow_succ]
      have e1 : 1000000000 ^ i * (x * (lval (lb.take t) + 1000000000 ^ t * y)) = 1000000000 ^ i * (x * lval (lb.take t)) + 1000000000 ^ (i + t) * (x * y) := by
       rw [Nat.pow_add, Nat.mul_add, Nat.mul_add]
       congr 1
       rw [Nat.mul_assoc, Nat.mul_left_comm x]
      rw [e1]
      generalize 1000000000 ^ (i + t) = p at *
      generalize (z + x * y + c) / 1000000000 = q at *
      generalize (z + x * y + c) % 1000000000 = r at *
      have e2 : q * (p * 1000000000) = p * (1000000000 * q) := by rw [Nat.mul_comm q, Nat.mul_assoc]
      rw [e2]
      have e3 : p * r + p * (1000000000 * q) = p * z + p * (x * y) + p * c := by
       rw [← Nat.mul_add, ← Nat.mul_add, ← Nat.mul_add, hdm]
      rw [Nat.mul_comm c p] at hv2
      omega
     ·intro j hj
      rw [getD_set_ne (by omega)]
      exact hz2 j hj
    ·have hlt2 := of_decide_eq_false hlt2
     have hte : t = lb.length := by omega
     subst hte
     refine zs0 ?_
     have hidx : IntKind.i64.wrap ((i : Int) + lb.length) = ((i + lb.length : Nat) : Int) := by rw [wrap_i64 (by omega) (by omega)]; omega
     have hidx2 : 0 + ((i + lb.length : Nat) : Int).toNat = i + lb.length := by omega
     rw [row_len, hidx, wrap_u32 (x := (c : Int)) (by omega) (by omega)]
     refine wS te rfl rfl (by rw [row_len, hlen2]; omega) ?_
     rw [hidx2]
     have hg3 := row_get (l := o2) (i := i + lb.length) (by omega)
     refine WX.stElem tab_eq rfl rfl rfl (hg3) rfl rfl rfl ?_
     refine zs0 ?_
     rw [row_set]
     rw [wrap_i64 (x := (i : Int) + 1) (by omega) (by omega)]
     show ∃ m', _
     refine ⟨la.length - (i + 1), by omega, i + 1, o2.set (i + lb.length) c, rfl, by omega, by simp [hlen2], okL_set ho2 _ hc, ?_, ?_, rfl⟩
     ·have hs := lval_set o2 (i + lb.length) c (by omega)
      rw [hz2 _ (Nat.le_refl _), Nat.mul_zero, Nat.add_zero] at hs
      rw [hs, lval_step, hx, Nat.mul_comm _ c, hv2, lval_take_ge (Nat.le_refl _), Nat.add_mul, Nat.mul_assoc]
     ·intro j hj
      rw [getD_set_ne (by omega)]
      exact hz2 j (by omega)
  ·have hlt := of_decide_eq_false hlt
   have hie : i = la.length := by omega
   subst hie
   refine zs0 ?_
   refine WX.callP rfl rfl rfl rfl rfl rfl rfl (row_sc _) (by have := trimL_le (out) (out).length; rw [row_len]; omega) (viaA (trim_X (l := out) (by first | omega | (simp <;> omega))) (by simp only [List.drop_zero, List.take_length])) ?_
   refine zs0 ?_
   rw [Int.toNat_natCast, row_take, trim_limbs ho, hv, lval_take_ge (Nat.le_refl _), va, vb]
   rfl
end Go.PE
namespace Go.PE
open Go.RowKit Go.Proofs.Tryz
set_option maxRecDepth 100000
variable {k : Nat}
theorem drop_set_lt {l : List Nat} {i j x : Nat} (h : i < j) : (l.set i x).drop j = l.drop j := by
 rw [List.drop_set, if_pos h]
theorem getD_set_eq {l : List Nat} {i x : Nat} (h : i < l.length) : (l.set i x).getD i 0 = x := by
 simp [List.getD, List.getElem?_set, h]
theorem tdivN (a b : Nat) : ((a : Int)).tdiv (b : Int) = ((a / b : Nat) : Int) := rfl
theorem tmodN (a b : Nat) : ((a : Int)).tmod (b : Int) = ((a % b : Nat) : Int) := rfl
theorem quoLimb_T (a b : Nat) (ha : ln a < 274877906944) (hb0 : 0 < b) (hb : b < 1000000000) : T (k + 2) 278 [.imm 1 (row (limbs a)), .int .u32 b] = some (.tup [.imm 1 (row (limbs (a / b))), .imm 1 (row (limbs (a % b)))], []) := by
 unfold ln at ha
 generalize hla : limbs a = la at ha
 have oa : okL la = true := hla ▸ okL_limbs a
 have va : lval la = a := hla ▸ lval_limbs a
 refine enter rfl func278 rfl (by decide) (by kernel_rfl) rfl rfl ?_
 refine zs0 ?_
 rw [row_len]
 refine wS te rfl rfl (by refine ⟨by omega, by omega, by omega, by omega⟩) ?_
 refine zs0 ?_
 rw [row_len, Int.toNat_natCast, wrap_i64 (x := (la.length : Int) - 1) (by omega) (by omega)]
 refine W.loop (fun e m => ∃ (j c : Nat) (q : List Nat), e = [(0, .imm 1 (row la)), (1, .int .u32 b), (6, .own (0, 0) 1 (row q)), (7, .int .u64 c), (8, .int .i64 ((j : Int) - 1))] ∧
  j ≤ la.length ∧ q.length = la.length ∧ okL q = true ∧ c < b ∧ lval (la.drop j) = lval (q.drop j) * b + c ∧ m = j) la.length ?_ ?_ ?_
 ·refine ⟨la.length, 0, List.replicate la.length 0, ?_, by omega, by simp, okL_rep _, hb0, ?_, rfl⟩
  ·rw [← row_rep]; rfl
  ·rw [List.drop_of_length_le (Nat.le_refl _), List.drop_of_length_le (by simp)]; simp [lval]
 ·show _ < 4611686018427387904; omega
 ·rintro e m ⟨j, c, q, rfl, hj, hlen, ho, hc, hv, rfl⟩
  refine zs0 ?_
  refine W.cond rfl (fun hge => ?_) (fun hge => ?_)
  ·have hge := of_decide_eq_true hge
   obtain ⟨i, rfl⟩ : ∃ i, m = i + 1 := ⟨m - 1, by omega⟩
   rw [show ((i + 1 : Nat) : Int) - 1 = (i : Int) by omega]
   have g1 := row_get (l := la) (i := i) (by omega)
   have b1 := okL_getD oa i
   refine zs0 ?_
   refine wI te rfl rfl rfl rfl rfl rfl (by omega) (g1) ?_
   refine zs0 ?_
   generalize hx : la.getD i 0 = x at *
   have hcB : c * 1000000000 + x < b * 1000000000 := by
    have := Nat.mul_le_mul_right 1000000000 (show c + 1 ≤ b by omega)
    omega
   rw [show (c : Int) * 1000000000 = ((c * 1000000000 : Nat) : Int) by omega, wrap_u64 (x := ((c * 1000000000 : Nat) : Int)) (by omega) (by omega), wrap_u64 (x := (x : Int)) (by omega) (by omega),
    wrap_u64 (x := ((c * 1000000000 : Nat) : Int) + x) (by omega) (by omega), show ((c * 1000000000 : Nat) : Int) + x = ((c * 1000000000 + x : Nat) : Int) by omega]
   have hq : (c * 1000000000 + x) / b < 1000000000 := by rw [Nat.div_lt_iff_lt_mul hb0]; omega
   have hr : (c * 1000000000 + x) % b < b := Nat.mod_lt _ hb0
   have hdm := Nat.div_add_mod (c * 1000000000 + x) b
   refine zd0 ?_
   rw [wrap_u64 (x := (b : Int)) (by omega) (by omega)]
   refine wD te rfl rfl (by omega) ?_
   rw [tdivN]
   generalize (c * 1000000000 + x) / b = dd at *
   rw [wrap_u64 (x := (dd : Int)) (by omega) (by omega)]
   refine zd0 ?_
   rw [wrap_u64 (x := (b : Int)) (by omega) (by omega), wrap_u32 (x := (dd : Int)) (by omega) (by omega)]
   refine wD te rfl rfl (by omega) ?_
   rw [tmodN]
   generalize (c * 1000000000 + x) % b = rr at *
   refine wD te rfl rfl (by rw [row_len]; omega) ?_
   have g2 := row_get (l := q) (i := 0 + (i : Int).toNat) (by omega)
   refine WX.stElemD tab_eq rfl rfl rfl (g2) rfl rfl rfl ?_
   refine zd7 ?_
   rw [wrap_i64 (x := (i : Int) - 1) (by omega) (by omega), row_set, show 0 + (i : Int).toNat = i by omega]
   show ∃ m', _
   refine ⟨i, by omega, i, rr, q.set i dd, rfl, by omega, by simp [hlen], okL_set ho _ hq, hr, ?_, rfl⟩
   rw [drop_getD (l := la) (i := i) (by omega), drop_getD (l := q.set i dd) (i := i) (by simp; omega), drop_set_lt (by omega), getD_set_eq (by omega), hx, lval, lval, hv]
   have e1 : (dd + 1000000000 * lval (q.drop (i + 1))) * b = b * dd + 1000000000 * (lval (q.drop (i + 1)) * b) := by rw [Nat.add_mul, Nat.mul_comm dd, Nat.mul_assoc]
   rw [e1]
   omega
  ·have hge := of_decide_eq_false hge
   have : m = 0 := by omega
   subst this
   simp only [List.drop_zero] at hv
   rw [va] at hv
   have h1 : a / b = lval q := by
    rw [hv, Nat.mul_comm, Nat.mul_add_div hb0, Nat.div_eq_of_lt hc]; rfl
   have h2 : a % b = c := by
    rw [hv, Nat.mul_comm, Nat.mul_add_mod, Nat.mod_eq_of_lt hc]
   refine zs0 ?_
   refine WX.callP rfl rfl rfl rfl rfl rfl rfl (row_sc _) (by have := trimL_le (q) (q).length; rw [row_len]; omega) (viaA (trim_X (l := q) (by first | omega | (simp <;> omega))) (by simp only [List.drop_zero, List.take_length])) ?_
   refine zs0 ?_
   rw [wrap_u32 (x := (c : Int)) (by omega) (by omega)]
   rw [show [[PV.int .u32 (c : Int)]] = row [c] from rfl]
   refine WX.callO rfl rfl rfl rfl rfl (row_sc _) (by have := trimL_le ([c]) ([c]).length; rw [row_len]; omega) (trim_X (l := [c]) (by first | omega | (simp <;> omega))) ?_
   refine zs0 ?_
   rw [Int.toNat_natCast, Int.toNat_natCast, row_take, row_take, trim_limbs ho, trim_limbs (l := [c]) (okL_cons.2 ⟨by omega, rfl⟩), h1, h2]
   rfl
end Go.PE
namespace Go.PE
open Go.RowKit Go.Proofs.Tryz
set_option maxRecDepth 100000
variable {k : Nat}
theorem bytes_get {s : Bs} {i : Nat} (h : i < s.length) : (bytesPV s)[i]? = some [.int .u8 ((s.getD i 0).toNat : Nat)] := by
 unfold bytesPV
 rw [List.getElem?_map, List.getElem?_eq_getElem h]
 simp [List.getD, List.getElem?_eq_getElem h]
theorem bytes_len (s : Bs) : (bytesPV s).length = s.length := by simp [bytesPV]
theorem val_take_succ {s : Bs} {i : Nat} (h : i < s.length) : val (s.take (i + 1)) = val (s.take i) * 10 + dv (s.getD i 0) := by
 rw [List.take_succ_eq_append_getElem h, val_snoc]
 simp [List.getD, List.getElem?_eq_getElem h]
theorem all_getD {s : Bs} (h : s.all isDg = true) {i : Nat} (hi : i < s.length) : isDg (s.getD i 0) = true := by
 rw [List.all_eq_true] at h
 simp only [List.getD, List.getElem?_eq_getElem hi]
 exact h _ (List.getElem_mem hi)
theorem all_take {s : Bs} (h : s.all isDg = true) (n : Nat) : (s.take n).all isDg = true := by
 rw [List.all_eq_true] at h ⊢; exact fun a ha => h a (List.mem_of_mem_take ha)
theorem all_drop {s : Bs} (h : s.all isDg = true) (n : Nat) : (s.drop n).all isDg = true := by
 rw [List.all_eq_true] at h ⊢; exact fun a ha => h a (List.mem_of_mem_drop ha)
theorem isDg_nat {c : UInt8} (h : isDg c = true) : 48 ≤ c.toNat ∧ c.toNat ≤ 57 := by
 unfold isDg at h
 rwa [Bool.and_eq_true, decide_eq_true_eq, decide_eq_true_eq] at h
theorem nat_chunk {s : Bs} {n : Nat} (hn : n ≤ s.length) : val (s.take n) = 1000000000 * val (s.take (n - 9)) + val ((s.drop (n - 9)).take (n - (n - 9))) := by
 rcases Nat.lt_or_ge n 9 with h | h
 ·have : n - 9 = 0 := by omega
  rw [this]
  simp [val_nil]
 ·obtain ⟨m, rfl⟩ : ∃ m, n = m + 9 := ⟨n - 9, by omega⟩
  have e1 : m + 9 - 9 = m := by omega
  have e2 : m + 9 - m = 9 := by omega
  rw [e1, e2, List.take_add, val_append]
  have hl : ((s.drop m).take 9).length = 9 := by simp; omega
  rw [hl, Nat.mul_comm]
theorem natOf_arith (a p x v : Nat) : a + p * v + p * 1000000000 * x = a + p * (1000000000 * x + v) := by
 rw [Nat.mul_add, Nat.mul_assoc]; omega
theorem natOf_T (s : Bs) (hs : s.all isDg = true) (hl : s.length < 274877906944) : T (k + 2) 231 [.str s] = some (.own (0, 0) 1 (row (limbs (val s))), []) := by
 refine enter rfl func231 rfl (by decide) (by kernel_rfl) rfl rfl ?_
 refine zs0 ?_
 refine W.loop (fun e m => ∃ (j : Int) (out : List Nat), e = [(0, .str s), (3, .own (0, 0) 1 (row out)), (4, .int .i64 j)] ∧ -9 < j ∧ j ≤ s.length ∧ okL out = true ∧ (out.length : Int) * 9 + j ≤ s.length + 9 ∧
  lval out + 1000000000 ^ out.length * val (s.take j.toNat) = val s ∧ m = (j + 9).toNat) (s.length + 9) ?_ ?_ ?_
 ·exact ⟨s.length, [], rfl, by omega, by omega, rfl, (by simp; omega), by simp [lval], by omega⟩
 ·show _ < 4611686018427387904; omega
 ·rintro e m ⟨j, out, rfl, hj0, hj, ho, hlen, hv, rfl⟩
  refine zs0 ?_
  refine W.cond rfl (fun hpos => ?_) (fun hpos => ?_)
  ·have hpos := of_decide_eq_true hpos
   obtain ⟨n, rfl⟩ : ∃ n : Nat, j = n := ⟨j.toNat, by omega⟩
   rw [Int.toNat_natCast] at hv
   refine zs0 ?_
   have hw : IntKind.i64.wrap ((n : Int) - 9) = (n : Int) - 9 := wrap_i64 (by omega) (by omega)
   rw [hw, show max ((n : Int) - 9) 0 = ((n - 9 : Nat) : Int) by omega]
   refine wS te rfl rfl (by omega) ?_
   rw [show (((n - 9 : Nat) : Int)).toNat = n - 9 by omega, show ((n : Int)).toNat = n by omega]
   obtain ⟨ch, hch⟩ : ∃ ch, (s.drop (n - 9)).take (n - (n - 9)) = ch := ⟨_, rfl⟩
   rw [hch]
   have hcl : ch.length = n - (n - 9) := by rw [← hch]; simp; omega
   have hcd : ch.all isDg = true := hch ▸ all_take (all_drop hs _) _
   refine wS te rfl rfl (by omega) ?_
   refine zs0 ?_
   rw [bytes_len]
   refine W.loop (fun e m => ∃ (i v : Nat), e = [(0, .str s), (3, .own (0, 0) 1 (row out)), (4, .int .i64 n), (5, .int .u32 v), (20, .imm 1 (bytesPV ch)), (21, .int .i64 ch.length), (22, .int .i64 i)] ∧
    i ≤ ch.length ∧ v = val (ch.take i) ∧ m = ch.length - i) ch.length ?_ ?_ ?_
   ·exact ⟨0, 0, rfl, by omega, rfl, by omega⟩
   ·show _ < 4611686018427387904; omega
   ·rintro e m ⟨i, v, rfl, hi, hvv, rfl⟩
    have hvl : v < 10 ^ i := by
     have := val_lt (all_take hcd i)
     rw [List.length_take, Nat.min_eq_left hi] at this
     rw [hvv]; exact this
    refine zs0 ?_
    refine W.cond rfl (fun hlt => ?_) (fun hlt => ?_)
    ·have hlt := of_decide_eq_true hlt
     have hg := bytes_get (s := ch) (i := i) (by omega)
     have hd := isDg_nat (all_getD hcd (i := i) (by omega))
     have hvl2 : v < 100000000 := Nat.lt_of_lt_of_le hvl (Nat.pow_le_pow_right (n := 10) (by omega) (show i ≤ 8 by omega))
     refine zs0 ?_
     refine wI te rfl rfl rfl rfl rfl rfl (by omega) (hg) ?_
     refine zs0 ?_
     have hdv : dv (ch.getD i 0) = (ch.getD i 0).toNat - 48 := rfl
     have hts := val_take_succ (s := ch) (i := i) (by omega)
     generalize (ch.getD i 0).toNat = c at *
     rw [wrap_u32 (x := (v : Int) * 10) (by omega) (by omega), wrap_u8 (x := (c : Int) - 48) (by omega) (by omega), wrap_u32 (x := (c : Int) - 48) (by omega) (by omega), wrap_u32 (x := (v : Int) * 10 + (c - 48)) (by omega) (by omega),
      wrap_i64 (x := (i : Int) + 1) (by omega) (by omega), show (v : Int) * 10 + (c - 48) = ((v * 10 + (c - 48) : Nat) : Int) by omega]
     show ∃ m', _
     refine ⟨ch.length - (i + 1), by omega, i + 1, v * 10 + (c - 48), rfl, by omega, ?_, rfl⟩
     rw [hts, ← hvv, hdv]
    ·have hlt := of_decide_eq_false hlt
     have hie : i = ch.length := by omega
     subst hie
     rw [List.take_length] at hvv
     have hvb : v < 1000000000 := Nat.lt_of_lt_of_le hvl (Nat.pow_le_pow_right (n := 10) (by omega) (show ch.length ≤ 9 by omega))
     refine zs0 ?_
     refine wS te rfl rfl (by simp only [List.length_take, row_len, List.length_cons, List.length_nil]; omega) ?_
     rw [List.take_length, row_snoc]
     refine zs0 ?_
     rw [hw]
     show ∃ m', _
     refine ⟨((n : Int) - 9 + 9).toNat, by omega, (n : Int) - 9, out ++ [v], rfl, by omega, by omega, okL_append.2 ⟨ho, okL_cons.2 ⟨hvb, rfl⟩⟩, by simp; omega, ?_, rfl⟩
     have hnc := nat_chunk (s := s) (n := n) (by omega)
     rw [hch, ← hvv] at hnc
     rw [lval_append, List.length_append, List.length_singleton, Nat.pow_succ, ← hv, hnc, show ((n : Int) - 9).toNat = n - 9 by omega]
     simp only [lval, Nat.mul_zero, Nat.add_zero]
     exact natOf_arith _ _ _ _
  ·have hpos := of_decide_eq_false hpos
   have : j.toNat = 0 := by omega
   rw [this] at hv
   simp only [List.take_zero, val_nil, Nat.mul_zero, Nat.add_zero] at hv
   refine zs0 ?_
   refine WX.callP rfl rfl rfl rfl rfl rfl rfl (row_sc _) (by have := trimL_le (out) (out).length; rw [row_len]; omega) (viaA (trim_X (l := out) (by first | omega | (simp <;> omega))) (by simp only [List.drop_zero, List.take_length])) ?_
   refine zs0 ?_
   rw [Int.toNat_natCast, row_take, trim_limbs ho, hv]
   rfl
end Go.PE
namespace Go.PE
open Go.RowKit Go.Proofs.Tryz
set_option maxRecDepth 100000
variable {k : Nat}
theorem reduce_X {u v : List Nat} (h1 : okL u = true) (h2 : okL v = true) (h3 : u.length = v.length + 1) (h4 : 2 ≤ v.length) (h5 : v.length ≤ 16777216) (h6 : 1000000000 ≤ 2 * v.getD (v.length - 1) 0) (h7 : lval u < 1000000000 * lval v) :
  T k 279 [.own (0, 0) 1 (row u), .imm 1 (row v)] = some (.int .u32 (lval u / lval v : Nat), row (limbsN u.length (lval u % lval v))) := by
 refine byX ?_
 show reduceF [.own (0, 0) 1 (row u), .imm 1 (row v)] = _
 simp only [reduceF, unrow_row]
 rw [if_pos ⟨h1, h2, h3, h4, h5, h6, h7⟩]
theorem row_flat (l : List Nat) : (row l).all (fun c => c.length == 1 && c.all scalar1) = true := by
 rw [List.all_eq_true]
 intro c hc
 obtain ⟨n, _, rfl⟩ := List.mem_map.1 hc
 rfl
theorem quoRem_lt (a b : Nat) (ha : ln a < 16777216) (hb : ln b < 16777216) (hlt : a < b) : T (k + 3) 238 [.imm 1 (row (limbs a)), .imm 1 (row (limbs b))] = some (.tup [.imm 1 (row (limbs (a / b))), .imm 1 (row (limbs (a % b)))], []) := by
 obtain ⟨r, hr, hr1, hr2⟩ := cmp_T (k := k + 1) a b (by omega) (by omega)
 rw [Nat.mod_eq_of_lt hlt, Nat.div_eq_of_lt hlt, limbs_zero]
 refine enter rfl func238 rfl (by decide) (by kernel_rfl) rfl rfl ?_
 refine zs1 hr ?_
 refine W.cond rfl (fun hc => ?_) (fun hc => ?_)
 ·refine zs0 ?_
  rfl
 ·have hc := of_decide_eq_false hc
  exact absurd (hr1.2 hlt) hc
theorem quoRem_one (a b : Nat) (ha : ln a < 16777216) (hb : b < 1000000000) (hb0 : 0 < b) (hlt : b ≤ a) : T (k + 3) 238 [.imm 1 (row (limbs a)), .imm 1 (row (limbs b))] = some (.tup [.imm 1 (row (limbs (a / b))), .imm 1 (row (limbs (a % b)))], []) := by
 obtain ⟨r, hr, hr1, hr2⟩ := cmp_T (k := k + 1) a b (by omega) (by have := ln_small hb; omega)
 have hl : limbs b = [b] := limbs_small (by omega) hb
 refine enter rfl func238 rfl (by decide) (by kernel_rfl) rfl rfl ?_
 refine zs1 hr ?_
 refine W.cond rfl (fun hc => ?_) (fun hc => ?_)
 ·have hc := of_decide_eq_true hc
  have := hr1.1 hc
  omega
 ·clear hc
  refine zs0 ?_
  have hlen : ((row (limbs b)).length : Int) = 1 := by rw [row_len, hl]; rfl
  refine W.cond rfl (fun hc => ?_) (fun hc => ?_)
  ·clear hc
   have hg := row_get (l := limbs b) (i := 0) (by rw [hl]; simp)
   have hgd : (limbs b).getD 0 0 = b := by rw [hl]; rfl
   rw [hgd] at hg
   refine zs0 ?_
   refine wI te rfl rfl rfl rfl rfl rfl (by omega) (hg) ?_
   refine zs0 ?_
   refine wC te rfl rfl rfl rfl rfl (quoLimb_T a b (by omega) hb0 hb) rfl rfl ?_
   refine zs0 ?_
   rfl
  ·have hc := of_decide_eq_false hc
   exact absurd hlen hc
theorem quoRem_long (a b : Nat) (ha : ln a < 16777216) (hb : 2 ≤ ln b) (hlt : b ≤ a) : T (k + 3) 238 [.imm 1 (row (limbs a)), .imm 1 (row (limbs b))] = some (.tup [.imm 1 (row (limbs (a / b))), .imm 1 (row (limbs (a % b)))], []) := by
 have hlb := ln_mono hlt
 obtain ⟨r, hr, hr1, hr2⟩ := cmp_T (k := k + 1) a b (by omega) (by omega)
 obtain ⟨n, hn⟩ : ∃ n, ln b = n + 1 := ⟨ln b - 1, by omega⟩
 obtain ⟨w, hw⟩ : ∃ w, w = (limbs b).getD n 0 := ⟨_, rfl⟩
 obtain ⟨d, hd⟩ : ∃ d, d = 1000000000 / (w + 1) := ⟨_, rfl⟩
 obtain ⟨hw0, hw1, hd0, hd1, hvl, hnorm⟩ := scaled hn hw hd
 have hld : limbs d = [d] := limbs_small (by omega) hd1
 have hlnd : ln d ≤ 1 := ln_small hd1
 have hlen : ((row (limbs b)).length : Int) = (n + 1 : Nat) := by rw [row_len]; unfold ln at hn; rw [hn]
 have hg := row_get (l := limbs b) (i := n) (by unfold ln at hn; omega)
 rw [← hw] at hg
 refine enter rfl func238 rfl (by decide) (by kernel_rfl) rfl rfl ?_
 refine zs1 hr ?_
 refine W.cond rfl (fun hc => ?_) (fun hc => ?_)
 ·have hc := of_decide_eq_true hc
  have := hr1.1 hc
  omega
 ·clear hc
  refine zs0 ?_
  refine W.cond rfl (fun hc => ?_) (fun hc => ?_)
  ·have hc := of_decide_eq_true hc
   rw [hlen] at hc
   omega
  ·clear hc
   refine zs0 ?_
   rw [hlen, wrap_i64 (x := ((n + 1 : Nat) : Int) - 1) (by omega) (by omega), show ((n + 1 : Nat) : Int) - 1 = (n : Int) by omega]
   refine wI te rfl rfl rfl rfl rfl rfl (by omega) (hg) ?_
   refine zs0 ?_
   rw [wrap_u64 (x := (w : Int)) (by omega) (by omega), wrap_u64 (x := (w : Int) + 1) (by omega) (by omega), show (w : Int) + 1 = ((w + 1 : Nat) : Int) by omega]
   refine wS te rfl rfl (by omega) ?_
   rw [show (1000000000 : Int).tdiv ((w + 1 : Nat) : Int) = ((1000000000 / (w + 1) : Nat) : Int) from rfl, ← hd, wrap_u64 (x := (d : Int)) (by omega) (by omega)]
   refine zs0 ?_
   rw [wrap_u32 (x := (d : Int)) (by omega) (by omega)]
   refine zs0 ?_
   refine wC te rfl rfl rfl rfl rfl (viaA (mul_T a d (by omega) (by omega)) (by rw [hld]; rfl)) rfl rfl ?_
   refine zs0 ?_
   refine wC te rfl rfl rfl rfl rfl (viaA (mul_T b d (by omega) (by omega)) (by rw [hld]; rfl)) rfl rfl ?_
   refine zs0 ?_
   obtain ⟨v, hv⟩ : ∃ v, v = limbs (b * d) := ⟨_, rfl⟩
   have ov : okL v = true := hv ▸ okL_limbs _
   have vv : lval v = b * d := by rw [hv]; exact lval_limbs _
   have lv : v.length = n + 1 := by rw [hv]; exact hvl
   rw [← hv] at hnorm
   rw [← hv]
   have hla : (limbs a).length = ln a := rfl
   have hwa : ln (a * d) ≤ ln a + 1 := by have := ln_mul a d; omega
   refine W.loop (fun e m => ∃ u : List Nat, e = [(0, .imm 1 (row (limbs a))), (6, .imm 1 (row [d])), (7, .own (0, 0) 1 (row u)), (8, .own (0, 0) 1 (row v))] ∧
    okL u = true ∧ lval u = a * d ∧ u.length ≤ ln a + 1 ∧ m = ln a + 1 - u.length) (ln a + 1 - ln (a * d)) ?_ ?_ ?_
   ·exact ⟨limbs (a * d), rfl, okL_limbs _, lval_limbs _, hwa, rfl⟩
   ·show _ < 4611686018427387904; omega
   ·rintro e m ⟨u, rfl, ou, vu, lu, rfl⟩
    refine zs0 ?_
    refine W.cond rfl (fun hc => ?_) (fun hc => ?_)
    ·have hc := of_decide_eq_true hc
     rw [row_len, row_len, hla] at hc
     refine zs0 ?_
     refine wS te rfl rfl (by simp only [List.length_take, row_len, List.length_cons, List.length_nil]; omega) ?_
     rw [List.take_length, show row u ++ [[PV.int .u32 0]] = row (u ++ [0]) by simp [row]]
     refine zs0 ?_
     show ∃ m', _
     refine ⟨ln a + 1 - (u ++ [0]).length, by simp; omega, u ++ [0], rfl, okL_append.2 ⟨ou, rfl⟩, ?_, by simp; omega, rfl⟩
     rw [lval_append, vu]; simp [lval]
    ·have hc := of_decide_eq_false hc
     rw [row_len, row_len, hla] at hc
     have lu : u.length = ln a + 1 := by omega
     clear hc
     refine zs0 ?_
     obtain ⟨m, hm⟩ : ∃ m, m = ln a + 1 - (n + 1) := ⟨_, rfl⟩
     rw [row_len, row_len, lu, lv, wrap_i64 (x := ((ln a + 1 : Nat) : Int) - ((n + 1 : Nat) : Int)) (by omega) (by omega), show ((ln a + 1 : Nat) : Int) - ((n + 1 : Nat) : Int) = (m : Int) by omega]
     refine wS te rfl rfl (by refine ⟨by omega, by omega, by omega, by omega⟩) ?_
     refine zs0 ?_
     rw [row_len, Int.toNat_natCast, show (List.replicate m (List.map frzC [PV.int IntKind.u32 0])).length = m by simp, wrap_i64 (x := (m : Int) - 1) (by omega) (by omega)]
     have hmn : m + n = ln a := by omega
     have hstart : a * d < b * d * 1000000000 ^ m := by
      have h1 : 1000000000 ^ n ≤ b := by
       have := pow_le_of_ln (n := b) (by rintro rfl; rw [ln_zero] at hn; omega)
       rw [hn] at this; exact this
      have h2 : a < b * 1000000000 ^ m := by
       refine Nat.lt_of_lt_of_le (lt_ln a) ?_
       rw [← hmn, Nat.add_comm, Nat.pow_add]
       exact Nat.mul_le_mul_right _ h1
      have := Nat.mul_lt_mul_of_pos_right h2 hd0
      rw [Nat.mul_right_comm] at this
      exact this
     refine W.loop (fun e jj => ∃ (u q : List Nat), e = [(6, .imm 1 (row [d])), (7, .own (0, 0) 1 (row u)), (8, .own (0, 0) 1 (row v)), (9, .own (0, 0) 1 (row q)), (10, .int .i64 ((jj : Int) - 1))] ∧
      okL u = true ∧ u.length = ln a + 1 ∧ okL q = true ∧ q.length = m ∧ jj ≤ m ∧ lval u + lval (q.drop jj) * 1000000000 ^ jj * (b * d) = a * d ∧ lval u < b * d * 1000000000 ^ jj) m ?_ ?_ ?_
     ·refine ⟨u, List.replicate m 0, ?_, ou, lu, okL_rep _, by simp, Nat.le_refl _, ?_, by rw [vu]; exact hstart⟩
      ·rw [← row_rep]; rfl
      ·rw [List.drop_of_length_le (by simp), vu]; simp [lval]
     ·show _ < 4611686018427387904; omega
     ·clear hstart ou vu lu
      rintro e jj ⟨u, q, rfl, ou, lu, oq, lq, hjj, hval, hlt2⟩
      refine zs0 ?_
      refine W.cond rfl (fun hge => ?_) (fun hge => ?_)
      ·have hge := of_decide_eq_true hge
       obtain ⟨j, rfl⟩ : ∃ j, jj = j + 1 := ⟨jj - 1, by omega⟩
       rw [show ((j + 1 : Nat) : Int) - 1 = (j : Int) by omega]
       obtain ⟨r1, r2, r3⟩ := div_round (n := n + 1) ou ov lv (j := j) (by omega) (by rw [vv]; exact hlt2)
       rw [vv] at r2 r3
       refine zs0 ?_
       rw [row_len, lv, wrap_i64 (x := (j : Int) + ((n + 1 : Nat) : Int)) (by omega) (by omega), wrap_i64 (by omega) (by omega)]
       refine wS te rfl rfl (by rw [row_len]; omega) ?_
       refine zs0 ?_
       rw [show 0 + ((j : Int)).toNat = j by omega, show ((j : Int) + ((n + 1 : Nat) : Int) + 1).toNat - ((j : Int)).toNat = n + 1 + 1 by omega]
       obtain ⟨x, hx⟩ : ∃ x, x = (u.drop j).take (n + 1 + 1) := ⟨_, rfl⟩
       have ox : okL x = true := hx ▸ okL_take (okL_drop ou _) _
       have lx : x.length = n + 1 + 1 := by rw [hx]; simp; omega
       rw [← hx, vv] at r1
       rw [← hx, ← vv] at r2 r3
       have hred := reduce_X (k := k + 2) ox ov (by omega) (by omega) (by omega) (by rw [lv, Nat.add_sub_cancel]; exact hnorm) (by rw [vv]; exact r1)
       have hqB : lval x / lval v < 1000000000 := by
        have : 0 < lval v := by
         rcases Nat.eq_zero_or_pos (lval v) with h | h
         ·rw [← vv, h] at r1; omega
         ·exact h
        rw [Nat.div_lt_iff_lt_mul this, vv]; exact r1
       rw [lx] at hred
       refine WX.callW tab_eq rfl rfl rfl rfl rfl rfl rfl rfl rfl (viaA hred (by rw [row_drop, row_take, List.drop_zero, List.take_length, hx])) rfl rfl (row_sc _) (by rw [row_len, row_len, limbsN_len]; omega) (row_flat _) ?_
       rw [row_take, row_drop, row_append, row_append]
       refine wS te rfl rfl (by rw [row_len]; omega) ?_
       have hg2 := row_get (l := q) (i := 0 + (j : Int).toNat) (by omega)
       refine WX.stElem tab_eq rfl rfl rfl (hg2) rfl rfl rfl ?_
       refine zs0 ?_
       rw [show 0 + (j : Int).toNat = j by omega, row_set, wrap_i64 (x := (j : Int) - 1) (by omega) (by omega)]
       show ∃ m', _
       generalize hqq : lval x / lval v = qq at *
       refine ⟨j, by omega, u.take j ++ limbsN (n + 1 + 1) (lval x % lval v) ++ u.drop (j + (n + 1 + 1)), q.set j qq, rfl, ?_, ?_, okL_set oq _ hqB, by simp [lq], by omega, ?_, by rw [← vv]; exact r3⟩
       ·rw [okL_append, okL_append]; exact ⟨⟨okL_take ou _, okL_limbsN _ _⟩, okL_drop ou _⟩
       ·simp only [List.length_append, List.length_take, limbsN_len, List.length_drop]; omega
       ·rw [drop_getD (l := q.set j qq) (i := j) (by simp; omega), drop_set_lt (by omega), getD_set_eq (by omega), lval, ← hval, ← r2, ← vv]
        rw [Nat.pow_succ]
        generalize lval (q.drop (j + 1)) = y
        generalize lval (u.take j ++ limbsN (n + 1 + 1) (lval x % lval v) ++ u.drop (j + (n + 1 + 1))) = z
        generalize 1000000000 ^ j = p
        rw [Nat.add_mul, Nat.add_mul, ← Nat.add_assoc]
        congr 1
        rw [Nat.mul_comm p, ← Nat.mul_assoc, Nat.mul_comm y]
      ·have hge := of_decide_eq_false hge
       have : jj = 0 := by omega
       subst this
       simp only [List.drop_zero, Nat.pow_zero, Nat.mul_one] at hval hlt2
       have hb0 : 0 < b := by
        rcases Nat.eq_zero_or_pos b with h | h
        ·subst h; omega
        ·exact h
       obtain ⟨hq, hr3⟩ : a / b = lval q ∧ lval u = a % b * d := by
        have h1 : lval q * b ≤ a := by
         have : lval q * b * d ≤ a * d := by rw [Nat.mul_assoc]; omega
         exact Nat.le_of_mul_le_mul_right this hd0
        have h2 : lval u = (a - lval q * b) * d := by
         rw [Nat.sub_mul, Nat.mul_assoc]; omega
        have h3 : a - lval q * b < b := by
         rw [h2] at hlt2
         exact Nat.lt_of_mul_lt_mul_right hlt2
        have h4 : a = b * lval q + (a - lval q * b) := by rw [Nat.mul_comm b]; omega
        have h5 : a / b = lval q := by
         rw [h4, Nat.mul_add_div hb0, Nat.div_eq_of_lt h3, Nat.add_zero]
        refine ⟨h5, ?_⟩
        rw [h2]
        congr 1
        conv => rhs; rw [h4, Nat.mul_add_mod, Nat.mod_eq_of_lt h3]
       refine zd8 ?_
       refine WX.callPD rfl rfl rfl rfl rfl rfl rfl (row_sc _) (by have := trimL_le (u) (u).length; rw [row_len]; omega) (viaA (trim_X (l := u) (by first | omega | (simp <;> omega))) (by simp only [List.drop_zero, List.take_length])) ?_
       refine zd0 ?_
       refine WX.idxImmD tab_eq rfl rfl rfl rfl rfl rfl (by omega) (row_get (l := [d]) (i := 0) (by simp)) ?_
       refine zd0 ?_
       refine wG te rfl rfl rfl rfl rfl (viaA (quoLimb_T (lval u) d (by rw [hr3]; have := ln_mul (a % b) d; have := ln_mono (Nat.mod_le a b); omega) hd0 hd1) (by rw [List.drop_zero, Int.toNat_natCast, row_take, trim_limbs ou]; rfl)) rfl rfl ?_
       refine zd7 ?_
       refine WX.callP rfl rfl rfl rfl rfl rfl rfl (row_sc _) (by have := trimL_le (q) (q).length; rw [row_len]; omega) (viaA (trim_X (l := q) (by first | omega | (simp <;> omega))) (by simp only [List.drop_zero, List.take_length])) ?_
       refine zs0 ?_
       rw [Int.toNat_natCast, row_take, trim_limbs oq, ← hq, hr3, Nat.mul_div_cancel _ hd0]
       rfl
theorem quoRem_T (a b : Nat) (ha : ln a < 16777216) (hb : ln b < 16777216) (hb0 : b ≠ 0) : T (k + 3) 238 [.imm 1 (row (limbs a)), .imm 1 (row (limbs b))] = some (.tup [.imm 1 (row (limbs (a / b))), .imm 1 (row (limbs (a % b)))], []) := by
 by_cases hlt : a < b
 ·exact quoRem_lt a b ha hb hlt
 ·by_cases h1 : ln b < 2
  ·refine quoRem_one a b ha ?_ (by omega) (by omega)
   have := lt_ln b
   have hle : 1000000000 ^ ln b ≤ 1000000000 ^ 1 := Nat.pow_le_pow_right (by omega) (by omega)
   omega
  ·exact quoRem_long a b ha (by omega) (by omega)
end Go.PE
namespace Go.PE
open Go.RowKit Go.Proofs.Tryz
set_option maxRecDepth 100000
def X1 (g : FuncId) : List PV → Option (PV × List (List PV)) := bif Nat.beq g 313 then subF else bif Nat.beq g 314 then restF else fun _ => none
theorem X1_meets (g : FuncId) : Meets prog g (X1 g) := by
 unfold X1
 cases h1 : Nat.beq g 313 with
 | true =>
  obtain rfl := Nat.eq_of_beq_eq_true h1
  exact sub_meets
 | false =>
  cases h2 : Nat.beq g 314 with
  | true =>
   obtain rfl := Nat.eq_of_beq_eq_true h2
   exact rest_meets
  | false => exact none_meets g
theorem viaX {f : FuncId} {avs avs' : List PV} {r : Option (PV × List (List PV))} (h : X1 f avs' = r) (e : avs = avs') : X1 f avs = r := e ▸ h
theorem sub_X {u v : List Nat} {t : Nat} (h1 : okL u = true) (h2 : okL v = true) (h3 : u.length = v.length + 1) (h4 : v.length ≤ 16777216) (h5 : t < 1000000000) :
  X1 313 [.own (0, 0) 1 (row u), .imm 1 (row v), .int .u64 (t : Nat)] = some (.bool (decide (lval u < t * lval v)), row (limbsN u.length (lval u + (if lval u < t * lval v then 1000000000 ^ u.length else 0) - t * lval v))) := by
 show subF [.own (0, 0) 1 (row u), .imm 1 (row v), .int .u64 (t : Nat)] = _
 simp only [subF, unrow_row]
 rw [if_pos ⟨h1, h2, h3, h4, by omega, by omega⟩, Int.toNat_natCast]
theorem rest_X {u v : List Nat} (h1 : okL u = true) (h2 : okL v = true) (h3 : v.length ≤ u.length) (h4 : u.length ≤ 16777217) :
  X1 314 [.own (0, 0) 1 (row u), .imm 1 (row v)] = some (.tup [], row (limbsN u.length ((lval u + lval v) % 1000000000 ^ u.length))) := by
 show restF [.own (0, 0) 1 (row u), .imm 1 (row v)] = _
 simp only [restF, unrow_row]
 rw [if_pos ⟨h1, h2, h3, h4⟩]
theorem mid_win (pre post : List (List PV)) (u : List Nat) : ((pre ++ row u ++ post).drop pre.length).take u.length = row u := by
 rw [List.append_assoc, List.drop_left, ← row_len u, List.take_left]
theorem mid_new (pre post new : List (List PV)) (u : List Nat) : (pre ++ row u ++ post).take pre.length ++ new ++ (pre ++ row u ++ post).drop (pre.length + u.length) = pre ++ new ++ post := by
 have e : pre ++ row u ++ post = pre ++ (row u ++ post) := List.append_assoc ..
 rw [e, List.take_left, ← List.drop_drop, List.drop_left, ← row_len u, List.drop_left]
theorem flat_mid {pre post : List (List PV)} {u : List Nat} (h : flat1 (pre ++ row u ++ post) = true) (x : List Nat) : flat1 (pre ++ row x ++ post) = true := by
 unfold flat1 at h ⊢
 rw [List.all_append, List.all_append, Bool.and_eq_true, Bool.and_eq_true] at h ⊢
 exact ⟨⟨h.1.1, row_sc x⟩, h.2⟩
theorem guess_init {q v1 v2 top u1 : Nat} (h : q * (v1 * 1000000000 + v2) ≤ top * 1000000000 + u1) (hu : u1 < 1000000000) : q * v1 ≤ top := by
 rw [Nat.mul_add, ← Nat.mul_assoc] at h
 generalize q * v1 = x at *
 omega
theorem red_over {U V P g : Nat} (hq : U / V ≤ g) (hg : g ≤ U / V + 1) (hs : U < g * V) (hU : U < P) (hV : V ≤ P) : g = U / V + 1 ∧ U + P - g * V < P ∧ (U + P - g * V + V) % P = U % V := by
 have hmd := Nat.div_add_mod U V
 have hV0 : 0 < V := by
  rcases Nat.eq_zero_or_pos V with h | h
  ·rw [h, Nat.mul_zero] at hs; omega
  ·exact h
 have hml := Nat.mod_lt U hV0
 have hgq : g = U / V + 1 := by
  rcases Nat.lt_or_ge (U / V) g with h | h
  ·exact Nat.le_antisymm hg h
  ·have : g * V ≤ U / V * V := Nat.mul_le_mul_right _ h
   rw [Nat.mul_comm (U / V)] at this
   omega
 refine ⟨hgq, by omega, ?_⟩
 rw [hgq, Nat.add_mul, Nat.one_mul, Nat.mul_comm (U / V)]
 have h1 : U + P - (V * (U / V) + V) + V = U % V + P := by omega
 rw [h1, Nat.add_mod_right, Nat.mod_eq_of_lt (by omega)]
theorem red_fit {U V g : Nat} (hq : U / V ≤ g) (hg : g ≤ U / V + 1) (hs : ¬ U < g * V) (h0 : 0 < V) : g = U / V ∧ U + 0 - g * V = U % V := by
 have hmd := Nat.div_add_mod U V
 have hgq : g = U / V := by
  rcases Nat.lt_or_ge (U / V) g with h | h
  ·exfalso
   have hge : g = U / V + 1 := Nat.le_antisymm hg h
   have hml := Nat.mod_lt U h0
   rw [hge, Nat.add_mul, Nat.one_mul, Nat.mul_comm (U / V)] at hs
   omega
  ·exact Nat.le_antisymm h hq
 refine ⟨hgq, ?_⟩
 rw [hgq, Nat.mul_comm (U / V)]
 omega
theorem mid_le (pre post : List (List PV)) (u : List Nat) : pre.length + u.length ≤ (pre ++ row u ++ post).length := by
 simp only [List.length_append, row_len]; omega
theorem dec1 {q : Nat} (h : q + 1 < 1000000000) : IntKind.u64.wrap (((q + 1 : Nat) : Int) - 1) = (q : Int) := by
 rw [show ((q + 1 : Nat) : Int) - 1 = (q : Int) by omega, wrap_u64 (Int.natCast_nonneg _) (by omega)]
theorem wrap_lt {q : Nat} (h : q < 1000000000) : IntKind.u32.wrap (q : Int) = (q : Int) := wrap_u32 (Int.natCast_nonneg _) (by omega)
def cqa : Code → Code | .seq a _ => a | c => c
def cqb : Code → Code | .seq _ b => b | c => c
def blOf : Code → Code | .block _ c => c | c => c
def lpOf : Code → Code | .loop c => c | c => c
def bdOf (f : Func) : Code := f.body.getD .skip
def lvR (b : Nat) : List Nat := VS :: lvF 279 b
noncomputable def cR : Code := cqb (cqb (cqb (cqb (bdOf f279))))
def redE (pre post : List (List PV)) (u v : List Nat) : Ex → St → Prop := endV tab f279.results.toList 1 (.int .u32 (lval u / lval v : Nat)) (pre ++ row (limbsN u.length (lval u % lval v)) ++ post)
abbrev redEnv (pre post : List (List PV)) (u v : List Nat) (m v1 g r : Nat) : List (Nat × PV) :=
 [(VS, .own (0, 0) 1 (pre ++ row u ++ post)), (0, .snap VS none (0, 0) pre.length u.length), (1, .imm 1 (row v)), (5, .int .i64 (m + 2 : Nat)), (7, .int .u64 v1), (8, .int .u64 (g : Nat)), (9, .int .u64 (r : Nat))]
abbrev redI (pre post : List (List PV)) (u v : List Nat) (m v1 u2 u3 : Nat) (e : List (Nat × PV)) (g : Nat) : Prop :=
 ∃ r : Nat, e = redEnv pre post u v m v1 g r ∧ g * v1 + r = u3 * 1000000000 + u2 ∧ lval u / lval v ≤ g ∧ r < 1000000000
structure RedH (pre post : List (List PV)) (u v : List Nat) (m u1 u2 u3 v1 v2 : Nat) : Prop where
 ou : okL u = true
 ov : okL v = true
 luv : u.length = v.length + 1
 lvm : v.length ≤ 16777216
 hfl : flat1 (pre ++ row u ++ post) = true
 hpos : 0 < u.length
 hm : v.length = m + 2
 lu : u.length = m + 3
 hVp : 0 < lval v
 hqB : lval u / lval v < 1000000000
 g3 : (pre ++ row u ++ post)[pre.length + m]? = some [PV.int IntKind.u32 (u1 : Nat)]
 g5 : (row v)[m]? = some [PV.int IntKind.u32 (v2 : Nat)]
 b1 : u3 < 1000000000
 b2 : u2 < 1000000000
 b3 : u1 < 1000000000
 b4 : v1 < 1000000000
 b5 : v2 < 1000000000
 hnorm : 1000000000 ≤ 2 * v1
 htop : u3 ≤ v1
 hgt : ∀ g, (u3 * 1000000000 + u2) * 1000000000 + u1 + 1 ≤ g * (v1 * 1000000000 + v2) → lval u / lval v < g
 hle : ∀ g, 1000000000 ≤ v1 * 1000000000 + v2 → g < 1000000000 → g * (v1 * 1000000000 + v2) ≤ (u3 * 1000000000 + u2) * 1000000000 + u1 → g ≤ lval u / lval v + 1
variable {pre post : List (List PV)} {u v : List Nat} {m u1 u2 u3 v1 v2 : Nat}
abbrev redGoal (pre post : List (List PV)) (u v : List Nat) (m v1 u2 u3 g r : Nat) : Prop :=
 W prog X1 [4] lvR NN 0 (lpOf (blOf (cqa cR))) (0, redEnv pre post u v m v1 g r) (thenW (fun s' => ∃ m', m' < g ∧ redI pre post u v m v1 u2 u3 (canon (lvR 0) (lookup s'.2)) m')
  (outW 0 (thenW (fun s' => W prog X1 [4] lvR NN 0 (cqb cR) s' (redE pre post u v)) (redE pre post u v))))
theorem redA (H : RedH pre post u v m u1 u2 u3 v1 v2) {g r : Nat} (htop2 : g * v1 + r = u3 * 1000000000 + u2) (hq : lval u / lval v ≤ g) (hr : r < 1000000000) (hb : 1000000000 ≤ g) : redGoal pre post u v m v1 u2 u3 g r := by
 obtain ⟨ou, ov, luv, lvm, hfl, hpos, hm, lu, hVp, hqB, g3, g5, b1, b2, b3, b4, b5, hnorm, htop, hgt, hle⟩ := H
 have hgle : g ≤ u3 * 1000000000 + u2 := by
  have := Nat.le_mul_of_pos_right g (show 0 < v1 by omega)
  omega
 unfold redGoal
 refine zd8 ?_
 refine WX.boolMD rfl rfl (fun hb0 => ?_) (fun hb0 => absurd hb (by have := of_decide_eq_false hb0; omega))
 clear hb0
 have hqlt := guess_step htop2 (v2 := v2) (u1 := u1) (.inl (by omega)) hqB hgt
 refine zd7 ?_
 obtain ⟨g', rfl⟩ : ∃ g', g = g' + 1 := ⟨g - 1, by omega⟩
 have htop3 : g' * v1 + (r + v1) = u3 * 1000000000 + u2 := by rw [Nat.add_mul, Nat.one_mul] at htop2; omega
 refine zs0 ?_
 rw [wrap_u64 (x := ((g' + 1 : Nat) : Int) - 1) (by omega) (by omega), show ((g' + 1 : Nat) : Int) - 1 = (g' : Int) by omega, wrap_u64 (x := (r : Int) + v1) (by omega) (by omega), show (r : Int) + v1 = ((r + v1 : Nat) : Int) by omega]
 refine W.cond rfl (fun hr2 => ?_) (fun hr2 => ?_)
 ·have hr2 := of_decide_eq_true hr2
  obtain ⟨hgB, k2⟩ := guess_break htop3 htop b2 b5 (u1 := u1) (by omega)
  have hqg : lval u / lval v ≤ g' := by omega
  have hg1 := hle g' (by omega) hgB (guess_final htop3 k2)
  clear hgt hle htop2 htop3 hq hr hqlt k2 g3 g5
  have hUlt := lval_lt ou
  have hVle := Nat.le_trans (Nat.le_of_lt (lval_lt ov)) (Nat.pow_le_pow_right (n := 1000000000) (by omega) (show v.length ≤ u.length by omega))
  refine zs0 ?_
  refine WX.callW tab_eq rfl rfl rfl rfl rfl rfl rfl rfl rfl (viaX (sub_X ou ov luv lvm hgB) (by rw [mid_win]; rfl)) rfl rfl hfl (by rw [row_len, limbsN_len]; exact ⟨mid_le _ _ _, hpos, rfl⟩) (row_flat _) ?_
  rw [mid_new]
  refine zs0 ?_
  refine W.cond rfl (fun hs => ?_) (fun hs => ?_)
  ·have hs : lval u < g' * lval v := of_decide_eq_true hs
   obtain ⟨rfl, k1, k2⟩ := red_over hqg hg1 hs hUlt hVle
   rw [if_pos hs]
   obtain ⟨x, hx⟩ : ∃ x, x = limbsN u.length (lval u + 1000000000 ^ u.length - (lval u / lval v + 1) * lval v) := ⟨_, rfl⟩
   have lx : x.length = u.length := by rw [hx, limbsN_len]
   have ox : okL x = true := by rw [hx]; exact okL_limbsN _ _
   have e : (lval x + lval v) % 1000000000 ^ x.length = lval u % lval v := by rw [lx, hx, lval_limbsN _ _ k1]; exact k2
   rw [← hx]
   clear hUlt hVle k1 k2 hx hs hqg hg1
   refine zs0 ?_
   rw [dec1 hgB]
   refine WX.callW tab_eq rfl rfl rfl rfl rfl rfl rfl rfl rfl (viaX (rest_X ox ov (by omega) (by omega)) (by rw [← lx, mid_win]; rfl)) rfl rfl (flat_mid hfl x) (by rw [row_len, limbsN_len, ← lx]; exact ⟨mid_le _ _ _, lx ▸ hpos, rfl⟩) (row_flat _) ?_
   rw [← lx, mid_new, e]
   refine zs0 ?_
   rw [wrap_lt (Nat.lt_of_succ_lt hgB)]
   refine zs0 ?_
   show (∃ st, _) ∧ _
   exact ⟨⟨(0, 0), by rw [← lx]; rfl⟩, rfl⟩
  ·have hs : ¬ lval u < g' * lval v := of_decide_eq_false hs
   obtain ⟨rfl, e⟩ := red_fit hqg hg1 hs hVp
   rw [if_neg hs, e]
   clear hUlt hVle hs hqg hg1 e
   refine zs0 ?_
   rw [wrap_lt hgB]
   refine zs0 ?_
   show (∃ st, _) ∧ _
   exact ⟨⟨(0, 0), rfl⟩, rfl⟩
 ·have hr2 := of_decide_eq_false hr2
  refine zs0 ?_
  show ∃ m', _
  exact ⟨g', by omega, r + v1, rfl, htop3, by omega, by omega⟩
end Go.PE
namespace Go.PE
open Go.RowKit Go.Proofs.Tryz
set_option maxRecDepth 100000
variable {pre post : List (List PV)} {u v : List Nat} {m u1 u2 u3 v1 v2 : Nat}
theorem redB (H : RedH pre post u v m u1 u2 u3 v1 v2) {g r : Nat} (htop2 : g * v1 + r = u3 * 1000000000 + u2) (hq : lval u / lval v ≤ g) (hr : r < 1000000000) (hb : ¬ 1000000000 ≤ g) (hgr : r * 1000000000 + u1 < g * v2) : redGoal pre post u v m v1 u2 u3 g r := by
 obtain ⟨ou, ov, luv, lvm, hfl, hpos, hm, lu, hVp, hqB, g3, g5, b1, b2, b3, b4, b5, hnorm, htop, hgt, hle⟩ := H
 have hgle : g ≤ u3 * 1000000000 + u2 := by
  have := Nat.le_mul_of_pos_right g (show 0 < v1 by omega)
  omega
 unfold redGoal
 refine zd8 ?_
 refine WX.boolMD rfl rfl (fun hb0 => absurd (of_decide_eq_true hb0) (by omega)) (fun hb0 => ?_)
 clear hb0
 have hgb : g < 1000000000 := by omega
 obtain ⟨z, hz⟩ : ∃ z, z = g * v2 := ⟨_, rfl⟩
 have hzI : (g : Int) * ((v2 : Nat) : Int) = (z : Int) := by rw [hz]; exact (Int.natCast_mul _ _).symm
 have hzB : z ≤ g * 999999999 := by rw [hz]; exact Nat.mul_le_mul_left g (by omega)
 have hidx : IntKind.i64.wrap (((m + 2 : Nat) : Int) - 2) = (m : Int) := by rw [wrap_i64 (by omega) (by omega)]; omega
 refine zd0 ?_
 refine WX.idxImmD tab_eq rfl rfl rfl rfl rfl rfl (by rw [hidx]; omega) (by rw [hidx]; exact g5) ?_
 refine zd0 ?_
 refine wD te rfl rfl (by rw [hidx]; omega) ?_
 refine WX.ldElemD tab_eq rfl rfl rfl (by rw [hidx, Int.toNat_natCast]; exact g3) rfl rfl rfl rfl ?_
 refine zd0 ?_
 refine WX.nilD (by kernel_rfl) ?_
 rw [wrap_u64 (x := (v2 : Int)) (by omega) (by omega), hzI, wrap_u64 (x := (z : Int)) (by omega) (by omega), wrap_u64 (x := (r : Int) * 1000000000) (by omega) (by omega), wrap_u64 (x := (u1 : Int)) (by omega) (by omega), wrap_u64 (x := (r : Int) * 1000000000 + u1) (by omega) (by omega)]
 refine zs0 ?_
 rw [cond_false]
 refine W.cond rfl (fun hgr0 => ?_) (fun hgr0 => absurd hgr (by have := of_decide_eq_false hgr0; omega))
 clear hgr0
 have hqlt := guess_step htop2 (v2 := v2) (u1 := u1) (.inr (by omega)) hqB hgt
 refine zs0 ?_
 obtain ⟨g', rfl⟩ : ∃ g', g = g' + 1 := ⟨g - 1, by omega⟩
 have htop3 : g' * v1 + (r + v1) = u3 * 1000000000 + u2 := by rw [Nat.add_mul, Nat.one_mul] at htop2; omega
 refine zs0 ?_
 rw [wrap_u64 (x := ((g' + 1 : Nat) : Int) - 1) (by omega) (by omega), show ((g' + 1 : Nat) : Int) - 1 = (g' : Int) by omega, wrap_u64 (x := (r : Int) + v1) (by omega) (by omega), show (r : Int) + v1 = ((r + v1 : Nat) : Int) by omega]
 refine W.cond rfl (fun hr2 => ?_) (fun hr2 => ?_)
 ·have hr2 := of_decide_eq_true hr2
  obtain ⟨hgB, k2⟩ := guess_break htop3 htop b2 b5 (u1 := u1) (by omega)
  have hqg : lval u / lval v ≤ g' := by omega
  have hg1 := hle g' (by omega) hgB (guess_final htop3 k2)
  clear hgt hle htop2 htop3 hq hr hqlt k2 g3 g5
  have hUlt := lval_lt ou
  have hVle := Nat.le_trans (Nat.le_of_lt (lval_lt ov)) (Nat.pow_le_pow_right (n := 1000000000) (by omega) (show v.length ≤ u.length by omega))
  refine zs0 ?_
  refine WX.callW tab_eq rfl rfl rfl rfl rfl rfl rfl rfl rfl (viaX (sub_X ou ov luv lvm hgB) (by rw [mid_win]; rfl)) rfl rfl hfl (by rw [row_len, limbsN_len]; exact ⟨mid_le _ _ _, hpos, rfl⟩) (row_flat _) ?_
  rw [mid_new]
  refine zs0 ?_
  refine W.cond rfl (fun hs => ?_) (fun hs => ?_)
  ·have hs : lval u < g' * lval v := of_decide_eq_true hs
   obtain ⟨rfl, k1, k2⟩ := red_over hqg hg1 hs hUlt hVle
   rw [if_pos hs]
   obtain ⟨x, hx⟩ : ∃ x, x = limbsN u.length (lval u + 1000000000 ^ u.length - (lval u / lval v + 1) * lval v) := ⟨_, rfl⟩
   have lx : x.length = u.length := by rw [hx, limbsN_len]
   have ox : okL x = true := by rw [hx]; exact okL_limbsN _ _
   have e : (lval x + lval v) % 1000000000 ^ x.length = lval u % lval v := by rw [lx, hx, lval_limbsN _ _ k1]; exact k2
   rw [← hx]
   clear hUlt hVle k1 k2 hx hs hqg hg1
   refine zs0 ?_
   rw [dec1 hgB]
   refine WX.callW tab_eq rfl rfl rfl rfl rfl rfl rfl rfl rfl (viaX (rest_X ox ov (by omega) (by omega)) (by rw [← lx, mid_win]; rfl)) rfl rfl (flat_mid hfl x) (by rw [row_len, limbsN_len, ← lx]; exact ⟨mid_le _ _ _, lx ▸ hpos, rfl⟩) (row_flat _) ?_
   rw [← lx, mid_new, e]
   refine zs0 ?_
   rw [wrap_lt (Nat.lt_of_succ_lt hgB)]
   refine zs0 ?_
   show (∃ st, _) ∧ _
   exact ⟨⟨(0, 0), by rw [← lx]; rfl⟩, rfl⟩
  ·have hs : ¬ lval u < g' * lval v := of_decide_eq_false hs
   obtain ⟨rfl, e⟩ := red_fit hqg hg1 hs hVp
   rw [if_neg hs, e]
   clear hUlt hVle hs hqg hg1 e
   refine zs0 ?_
   rw [wrap_lt hgB]
   refine zs0 ?_
   show (∃ st, _) ∧ _
   exact ⟨⟨(0, 0), rfl⟩, rfl⟩
 ·have hr2 := of_decide_eq_false hr2
  refine zs0 ?_
  show ∃ m', _
  exact ⟨g', by omega, r + v1, rfl, htop3, by omega, by omega⟩
end Go.PE
namespace Go.PE
open Go.RowKit Go.Proofs.Tryz
set_option maxRecDepth 100000
variable {pre post : List (List PV)} {u v : List Nat} {m u1 u2 u3 v1 v2 : Nat}
theorem redC (H : RedH pre post u v m u1 u2 u3 v1 v2) {g r : Nat} (htop2 : g * v1 + r = u3 * 1000000000 + u2) (hq : lval u / lval v ≤ g) (hr : r < 1000000000) (hb : ¬ 1000000000 ≤ g) (hgr : ¬ r * 1000000000 + u1 < g * v2) : redGoal pre post u v m v1 u2 u3 g r := by
 obtain ⟨ou, ov, luv, lvm, hfl, hpos, hm, lu, hVp, hqB, g3, g5, b1, b2, b3, b4, b5, hnorm, htop, hgt, hle⟩ := H
 have hgle : g ≤ u3 * 1000000000 + u2 := by
  have := Nat.le_mul_of_pos_right g (show 0 < v1 by omega)
  omega
 unfold redGoal
 refine zd8 ?_
 refine WX.boolMD rfl rfl (fun hb0 => absurd (of_decide_eq_true hb0) (by omega)) (fun hb0 => ?_)
 clear hb0
 have hgb : g < 1000000000 := by omega
 obtain ⟨z, hz⟩ : ∃ z, z = g * v2 := ⟨_, rfl⟩
 have hzI : (g : Int) * ((v2 : Nat) : Int) = (z : Int) := by rw [hz]; exact (Int.natCast_mul _ _).symm
 have hzB : z ≤ g * 999999999 := by rw [hz]; exact Nat.mul_le_mul_left g (by omega)
 have hidx : IntKind.i64.wrap (((m + 2 : Nat) : Int) - 2) = (m : Int) := by rw [wrap_i64 (by omega) (by omega)]; omega
 refine zd0 ?_
 refine WX.idxImmD tab_eq rfl rfl rfl rfl rfl rfl (by rw [hidx]; omega) (by rw [hidx]; exact g5) ?_
 refine zd0 ?_
 refine wD te rfl rfl (by rw [hidx]; omega) ?_
 refine WX.ldElemD tab_eq rfl rfl rfl (by rw [hidx, Int.toNat_natCast]; exact g3) rfl rfl rfl rfl ?_
 refine zd0 ?_
 refine WX.nilD (by kernel_rfl) ?_
 rw [wrap_u64 (x := (v2 : Int)) (by omega) (by omega), hzI, wrap_u64 (x := (z : Int)) (by omega) (by omega), wrap_u64 (x := (r : Int) * 1000000000) (by omega) (by omega), wrap_u64 (x := (u1 : Int)) (by omega) (by omega), wrap_u64 (x := (r : Int) * 1000000000 + u1) (by omega) (by omega)]
 refine zs0 ?_
 rw [cond_false]
 refine W.cond rfl (fun hgr0 => absurd (of_decide_eq_true hgr0) (by omega)) (fun hgr0 => ?_)
 clear hgr0
 have hgB : g < 1000000000 := hgb
 have hqg : lval u / lval v ≤ g := hq
 have hg1 := hle g (by omega) hgB (guess_final htop2 (by omega))
 clear hgt hle htop2 hr g3 g5
 have hUlt := lval_lt ou
 have hVle := Nat.le_trans (Nat.le_of_lt (lval_lt ov)) (Nat.pow_le_pow_right (n := 1000000000) (by omega) (show v.length ≤ u.length by omega))
 refine zs0 ?_
 refine WX.callW tab_eq rfl rfl rfl rfl rfl rfl rfl rfl rfl (viaX (sub_X ou ov luv lvm hgB) (by rw [mid_win]; rfl)) rfl rfl hfl (by rw [row_len, limbsN_len]; exact ⟨mid_le _ _ _, hpos, rfl⟩) (row_flat _) ?_
 rw [mid_new]
 refine zs0 ?_
 refine W.cond rfl (fun hs => ?_) (fun hs => ?_)
 ·have hs : lval u < g * lval v := of_decide_eq_true hs
  obtain ⟨rfl, k1, k2⟩ := red_over hqg hg1 hs hUlt hVle
  rw [if_pos hs]
  obtain ⟨x, hx⟩ : ∃ x, x = limbsN u.length (lval u + 1000000000 ^ u.length - (lval u / lval v + 1) * lval v) := ⟨_, rfl⟩
  have lx : x.length = u.length := by rw [hx, limbsN_len]
  have ox : okL x = true := by rw [hx]; exact okL_limbsN _ _
  have e : (lval x + lval v) % 1000000000 ^ x.length = lval u % lval v := by rw [lx, hx, lval_limbsN _ _ k1]; exact k2
  rw [← hx]
  clear hUlt hVle k1 k2 hx hs hqg hg1
  refine zs0 ?_
  rw [dec1 hgB]
  refine WX.callW tab_eq rfl rfl rfl rfl rfl rfl rfl rfl rfl (viaX (rest_X ox ov (by omega) (by omega)) (by rw [← lx, mid_win]; rfl)) rfl rfl (flat_mid hfl x) (by rw [row_len, limbsN_len, ← lx]; exact ⟨mid_le _ _ _, lx ▸ hpos, rfl⟩) (row_flat _) ?_
  rw [← lx, mid_new, e]
  refine zs0 ?_
  rw [wrap_lt (Nat.lt_of_succ_lt hgB)]
  refine zs0 ?_
  show (∃ st, _) ∧ _
  exact ⟨⟨(0, 0), by rw [← lx]; rfl⟩, rfl⟩
 ·have hs : ¬ lval u < g * lval v := of_decide_eq_false hs
  obtain ⟨rfl, e⟩ := red_fit hqg hg1 hs hVp
  rw [if_neg hs, e]
  clear hUlt hVle hs hqg hg1 e
  refine zs0 ?_
  rw [wrap_lt hgB]
  refine zs0 ?_
  show (∃ st, _) ∧ _
  exact ⟨⟨(0, 0), rfl⟩, rfl⟩
end Go.PE
