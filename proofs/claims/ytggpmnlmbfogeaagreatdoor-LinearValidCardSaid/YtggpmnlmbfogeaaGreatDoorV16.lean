/-
  A part of the proof that the law's function returns true and leaves its arguments as they were, for every input (no condition): own lemmas of the proof, in the order of their use.
-/
import Derived.Test.YtggpmnlmbfogeaaGreatDoorV15
import Derived.Test.YtggpmnlmbfogeaaGreatDoorV14
set_option linter.all false
namespace Go.PE
open Go.RowKit Go.Proofs.Tryz
set_option maxRecDepth 100000
variable {k : Nat}
theorem bytes_get {s : Bs} {i : Nat} (h : i < s.length) : (bytesPV s)[i]? = some [.int .u8 ((s.getD i 0).toNat : Nat)] := by
  unfold bytesPV
  rw [List.getElem?_map, List.getElem?_eq_getElem h]
  simp [List.getD, List.getElem?_eq_getElem h]
theorem bytes_len (s : Bs) : (bytesPV s).length = s.length := by simp [bytesPV]
theorem val_take_succ {s : Bs} {i : Nat} (h : i < s.length) : val (s.take (i + 1)) = val (s.take i) * 10 + dv (s.getD i 0) := by
  rw [List.take_succ_eq_append_getElem h, val_snoc]
  simp [List.getD, List.getElem?_eq_getElem h]
theorem all_getD {s : Bs} (h : s.all isDg = true) {i : Nat} (hi : i < s.length) : isDg (s.getD i 0) = true := by
  rw [List.all_eq_true] at h
  simp only [List.getD, List.getElem?_eq_getElem hi]
  exact h _ (List.getElem_mem hi)
theorem all_take {s : Bs} (h : s.all isDg = true) (n : Nat) : (s.take n).all isDg = true := by
  rw [List.all_eq_true] at h ⊢; exact fun a ha => h a (List.mem_of_mem_take ha)
theorem all_drop {s : Bs} (h : s.all isDg = true) (n : Nat) : (s.drop n).all isDg = true := by
  rw [List.all_eq_true] at h ⊢; exact fun a ha => h a (List.mem_of_mem_drop ha)
theorem isDg_nat {c : UInt8} (h : isDg c = true) : 48 ≤ c.toNat ∧ c.toNat ≤ 57 := by
  unfold isDg at h
  rwa [Bool.and_eq_true, decide_eq_true_eq, decide_eq_true_eq] at h
theorem nat_chunk {s : Bs} {n : Nat} (hn : n ≤ s.length) : val (s.take n) = 1000000000 * val (s.take (n - 9)) + val ((s.drop (n - 9)).take (n - (n - 9))) := by
  rcases Nat.lt_or_ge n 9 with h | h
  · have : n - 9 = 0 := by omega
    rw [this]
    simp [val_nil]
  · obtain ⟨m, rfl⟩ : ∃ m, n = m + 9 := ⟨n - 9, by omega⟩
    have e1 : m + 9 - 9 = m := by omega
    have e2 : m + 9 - m = 9 := by omega
    rw [e1, e2, List.take_add, val_append]
    have hl : ((s.drop m).take 9).length = 9 := by simp; omega
    rw [hl, Nat.mul_comm]
theorem natOf_arith (a p x v : Nat) : a + p * v + p * 1000000000 * x = a + p * (1000000000 * x + v) := by
  rw [Nat.mul_add, Nat.mul_assoc]; omega
theorem natOf_T (s : Bs) (hs : s.all isDg = true) (hl : s.length < 274877906944) : T (k + 2) 231 [.str s] = some (.own (0, 0) 1 (row (limbs (val s))), []) := by
  refine enter rfl func231 rfl (by decide) (by kernel_rfl) rfl rfl ?_
  repeat (first | refine WX.step tab_eq rfl rfl trivial ?_ | refine WX.step tab_eq rfl rfl (by decide) ?_ | refine WX.nil ?_ | refine W.seq ?_ | refine W.region ?_ | refine W.regionD ?_ | refine W.block ?_ | refine W.skip ?_ | refine W.exit ?_ | refine W.ret ?_ | refine W.condT rfl ?_ | refine W.condF rfl ?_ | refine WX.skip rfl ?_)
  refine W.loop (fun e m => ∃ (j : Int) (out : List Nat), e = [(0, .str s), (3, .own (0, 0) 1 (row out)), (4, .int .i64 j)] ∧ -9 < j ∧ j ≤ s.length ∧ okL out = true ∧ (out.length : Int) * 9 + j ≤ s.length + 9 ∧
    lval out + 1000000000 ^ out.length * val (s.take j.toNat) = val s ∧ m = (j + 9).toNat) (s.length + 9) ?_ ?_ ?_
  · exact ⟨s.length, [], rfl, by omega, by omega, rfl, (by simp; omega), by simp [lval], by omega⟩
  · show _ < 4611686018427387904; omega
  · rintro e m ⟨j, out, rfl, hj0, hj, ho, hlen, hv, rfl⟩
    repeat (first | refine WX.step tab_eq rfl rfl trivial ?_ | refine WX.step tab_eq rfl rfl (by decide) ?_ | refine WX.nil ?_ | refine W.seq ?_ | refine W.region ?_ | refine W.regionD ?_ | refine W.block ?_ | refine W.skip ?_ | refine W.exit ?_ | refine W.ret ?_ | refine W.condT rfl ?_ | refine W.condF rfl ?_ | refine WX.skip rfl ?_)
    refine W.cond rfl (fun hpos => ?_) (fun hpos => ?_)
    · have hpos := of_decide_eq_true hpos
      obtain ⟨n, rfl⟩ : ∃ n : Nat, j = n := ⟨j.toNat, by omega⟩
      rw [Int.toNat_natCast] at hv
      repeat (first | refine WX.step tab_eq rfl rfl trivial ?_ | refine WX.step tab_eq rfl rfl (by decide) ?_ | refine WX.nil ?_ | refine W.seq ?_ | refine W.region ?_ | refine W.regionD ?_ | refine W.block ?_ | refine W.skip ?_ | refine W.exit ?_ | refine W.ret ?_ | refine W.condT rfl ?_ | refine W.condF rfl ?_ | refine WX.skip rfl ?_)
      have hw : IntKind.i64.wrap ((n : Int) - 9) = (n : Int) - 9 := wrap_i64 (by omega) (by omega)
      rw [hw, show max ((n : Int) - 9) 0 = ((n - 9 : Nat) : Int) by omega]
      refine WX.step tab_eq rfl rfl (by omega) ?_
      rw [show (((n - 9 : Nat) : Int)).toNat = n - 9 by omega, show ((n : Int)).toNat = n by omega]
      obtain ⟨ch, hch⟩ : ∃ ch, (s.drop (n - 9)).take (n - (n - 9)) = ch := ⟨_, rfl⟩
      rw [hch]
      have hcl : ch.length = n - (n - 9) := by rw [← hch]; simp; omega
      have hcd : ch.all isDg = true := hch ▸ all_take (all_drop hs _) _
      refine WX.step tab_eq rfl rfl (by omega) ?_
      repeat (first | refine WX.step tab_eq rfl rfl trivial ?_ | refine WX.step tab_eq rfl rfl (by decide) ?_ | refine WX.nil ?_ | refine W.seq ?_ | refine W.region ?_ | refine W.regionD ?_ | refine W.block ?_ | refine W.skip ?_ | refine W.exit ?_ | refine W.ret ?_ | refine W.condT rfl ?_ | refine W.condF rfl ?_ | refine WX.skip rfl ?_)
      rw [bytes_len]
      refine W.loop (fun e m => ∃ (i v : Nat), e = [(0, .str s), (3, .own (0, 0) 1 (row out)), (4, .int .i64 n), (5, .int .u32 v), (20, .imm 1 (bytesPV ch)), (21, .int .i64 ch.length), (22, .int .i64 i)] ∧
        i ≤ ch.length ∧ v = val (ch.take i) ∧ m = ch.length - i) ch.length ?_ ?_ ?_
      · exact ⟨0, 0, rfl, by omega, rfl, by omega⟩
      · show _ < 4611686018427387904; omega
      · rintro e m ⟨i, v, rfl, hi, hvv, rfl⟩
        have hvl : v < 10 ^ i := by
          have := val_lt (all_take hcd i)
          rw [List.length_take, Nat.min_eq_left hi] at this
          rw [hvv]; exact this
        repeat (first | refine WX.step tab_eq rfl rfl trivial ?_ | refine WX.step tab_eq rfl rfl (by decide) ?_ | refine WX.nil ?_ | refine W.seq ?_ | refine W.region ?_ | refine W.regionD ?_ | refine W.block ?_ | refine W.skip ?_ | refine W.exit ?_ | refine W.ret ?_ | refine W.condT rfl ?_ | refine W.condF rfl ?_ | refine WX.skip rfl ?_)
        refine W.cond rfl (fun hlt => ?_) (fun hlt => ?_)
        · have hlt := of_decide_eq_true hlt
          have hg := bytes_get (s := ch) (i := i) (by omega)
          have hd := isDg_nat (all_getD hcd (i := i) (by omega))
          have hvl2 : v < 100000000 := Nat.lt_of_lt_of_le hvl (Nat.pow_le_pow_right (n := 10) (by omega) (show i ≤ 8 by omega))
          repeat (first | refine WX.step tab_eq rfl rfl trivial ?_ | refine WX.step tab_eq rfl rfl (by decide) ?_ | refine WX.nil ?_ | refine W.seq ?_ | refine W.region ?_ | refine W.regionD ?_ | refine W.block ?_ | refine W.skip ?_ | refine W.exit ?_ | refine W.ret ?_ | refine W.condT rfl ?_ | refine W.condF rfl ?_ | refine WX.skip rfl ?_)
          refine WX.idxImm tab_eq rfl rfl rfl rfl rfl rfl (by omega) (hg) ?_
          repeat (first | refine WX.step tab_eq rfl rfl trivial ?_ | refine WX.step tab_eq rfl rfl (by decide) ?_ | refine WX.nil ?_ | refine W.seq ?_ | refine W.region ?_ | refine W.regionD ?_ | refine W.block ?_ | refine W.skip ?_ | refine W.exit ?_ | refine W.ret ?_ | refine W.condT rfl ?_ | refine W.condF rfl ?_ | refine WX.skip rfl ?_)
          have hdv : dv (ch.getD i 0) = (ch.getD i 0).toNat - 48 := rfl
          have hts := val_take_succ (s := ch) (i := i) (by omega)
          generalize (ch.getD i 0).toNat = c at *
          rw [wrap_u32 (x := (v : Int) * 10) (by omega) (by omega), wrap_u8 (x := (c : Int) - 48) (by omega) (by omega), wrap_u32 (x := (c : Int) - 48) (by omega) (by omega), wrap_u32 (x := (v : Int) * 10 + (c - 48)) (by omega) (by omega),
            wrap_i64 (x := (i : Int) + 1) (by omega) (by omega), show (v : Int) * 10 + (c - 48) = ((v * 10 + (c - 48) : Nat) : Int) by omega]
          show ∃ m', _
          refine ⟨ch.length - (i + 1), by omega, i + 1, v * 10 + (c - 48), rfl, by omega, ?_, rfl⟩
          rw [hts, ← hvv, hdv]
        · have hlt := of_decide_eq_false hlt
          have hie : i = ch.length := by omega
          subst hie
          rw [List.take_length] at hvv
          have hvb : v < 1000000000 := Nat.lt_of_lt_of_le hvl (Nat.pow_le_pow_right (n := 10) (by omega) (show ch.length ≤ 9 by omega))
          repeat (first | refine WX.step tab_eq rfl rfl trivial ?_ | refine WX.step tab_eq rfl rfl (by decide) ?_ | refine WX.nil ?_ | refine W.seq ?_ | refine W.region ?_ | refine W.regionD ?_ | refine W.block ?_ | refine W.skip ?_ | refine W.exit ?_ | refine W.ret ?_ | refine W.condT rfl ?_ | refine W.condF rfl ?_ | refine WX.skip rfl ?_)
          refine WX.step tab_eq rfl rfl (by simp only [List.length_take, row_len, List.length_cons, List.length_nil]; omega) ?_
          rw [List.take_length, row_snoc]
          repeat (first | refine WX.step tab_eq rfl rfl trivial ?_ | refine WX.step tab_eq rfl rfl (by decide) ?_ | refine WX.nil ?_ | refine W.seq ?_ | refine W.region ?_ | refine W.regionD ?_ | refine W.block ?_ | refine W.skip ?_ | refine W.exit ?_ | refine W.ret ?_ | refine W.condT rfl ?_ | refine W.condF rfl ?_ | refine WX.skip rfl ?_)
          rw [hw]
          show ∃ m', _
          refine ⟨((n : Int) - 9 + 9).toNat, by omega, (n : Int) - 9, out ++ [v], rfl, by omega, by omega, okL_append.2 ⟨ho, okL_cons.2 ⟨hvb, rfl⟩⟩, by simp; omega, ?_, rfl⟩
          have hnc := nat_chunk (s := s) (n := n) (by omega)
          rw [hch, ← hvv] at hnc
          rw [lval_append, List.length_append, List.length_singleton, Nat.pow_succ, ← hv, hnc, show ((n : Int) - 9).toNat = n - 9 by omega]
          simp only [lval, Nat.mul_zero, Nat.add_zero]
          exact natOf_arith _ _ _ _
    · have hpos := of_decide_eq_false hpos
      have : j.toNat = 0 := by omega
      rw [this] at hv
      simp only [List.take_zero, val_nil, Nat.mul_zero, Nat.add_zero] at hv
      repeat (first | refine WX.step tab_eq rfl rfl trivial ?_ | refine WX.step tab_eq rfl rfl (by decide) ?_ | refine WX.nil ?_ | refine W.seq ?_ | refine W.region ?_ | refine W.regionD ?_ | refine W.block ?_ | refine W.skip ?_ | refine W.exit ?_ | refine W.ret ?_ | refine W.condT rfl ?_ | refine W.condF rfl ?_ | refine WX.skip rfl ?_)
      refine WX.callP rfl rfl rfl rfl rfl rfl rfl (row_sc _) (by have := trimL_le (out) (out).length; rw [row_len]; omega) (viaA (trim_X (l := out) (by first | omega | (simp <;> omega))) (by simp only [List.drop_zero, List.take_length])) ?_
      repeat (first | refine WX.step tab_eq rfl rfl trivial ?_ | refine WX.step tab_eq rfl rfl (by decide) ?_ | refine WX.nil ?_ | refine W.seq ?_ | refine W.region ?_ | refine W.regionD ?_ | refine W.block ?_ | refine W.skip ?_ | refine W.exit ?_ | refine W.ret ?_ | refine W.condT rfl ?_ | refine W.condF rfl ?_ | refine WX.skip rfl ?_)
      rw [Int.toNat_natCast, row_take, trim_limbs ho, hv]
      rfl
end Go.PE
namespace Go.PE
open Go.RowKit Go.Proofs.Tryz
set_option maxRecDepth 100000
variable {k : Nat}
theorem reduce_X {u v : List Nat} (h1 : okL u = true) (h2 : okL v = true) (h3 : u.length = v.length + 1) (h4 : 2 ≤ v.length) (h5 : v.length ≤ 16777216) (h6 : 1000000000 ≤ 2 * v.getD (v.length - 1) 0) (h7 : lval u < 1000000000 * lval v) :
    T k 279 [.own (0, 0) 1 (row u), .imm 1 (row v)] = some (.int .u32 (lval u / lval v : Nat), row (limbsN u.length (lval u % lval v))) := by
  refine byX ?_
  show reduceF [.own (0, 0) 1 (row u), .imm 1 (row v)] = _
  simp only [reduceF, unrow_row]
  rw [if_pos ⟨h1, h2, h3, h4, h5, h6, h7⟩]
theorem row_flat (l : List Nat) : (row l).all (fun c => c.length == 1 && c.all scalar1) = true := by
  rw [List.all_eq_true]
  intro c hc
  obtain ⟨n, _, rfl⟩ := List.mem_map.1 hc
  rfl
theorem quoRem_lt (a b : Nat) (ha : ln a < 16777216) (hb : ln b < 16777216) (hlt : a < b) : T (k + 3) 238 [.imm 1 (row (limbs a)), .imm 1 (row (limbs b))] = some (.tup [.imm 1 (row (limbs (a / b))), .imm 1 (row (limbs (a % b)))], []) := by
  obtain ⟨r, hr, hr1, hr2⟩ := cmp_T (k := k + 1) a b (by omega) (by omega)
  rw [Nat.mod_eq_of_lt hlt, Nat.div_eq_of_lt hlt, limbs_zero]
  refine enter rfl func238 rfl (by decide) (by kernel_rfl) rfl rfl ?_
  repeat (first | refine WX.step tab_eq rfl rfl trivial ?_ | refine WX.step tab_eq rfl rfl (by decide) ?_ | refine WX.nil ?_ | refine W.seq ?_ | refine W.region ?_ | refine W.regionD ?_ | refine W.block ?_ | refine W.skip ?_ | refine W.exit ?_ | refine W.ret ?_ | refine W.condT rfl ?_ | refine W.condF rfl ?_ | refine WX.skip rfl ?_)
  refine WX.call tab_eq rfl rfl rfl rfl rfl (hr) rfl rfl ?_
  repeat (first | refine WX.step tab_eq rfl rfl trivial ?_ | refine WX.step tab_eq rfl rfl (by decide) ?_ | refine WX.nil ?_ | refine W.seq ?_ | refine W.region ?_ | refine W.regionD ?_ | refine W.block ?_ | refine W.skip ?_ | refine W.exit ?_ | refine W.ret ?_ | refine W.condT rfl ?_ | refine W.condF rfl ?_ | refine WX.skip rfl ?_)
  refine W.cond rfl (fun hc => ?_) (fun hc => ?_)
  · repeat (first | refine WX.step tab_eq rfl rfl trivial ?_ | refine WX.step tab_eq rfl rfl (by decide) ?_ | refine WX.nil ?_ | refine W.seq ?_ | refine W.region ?_ | refine W.regionD ?_ | refine W.block ?_ | refine W.skip ?_ | refine W.exit ?_ | refine W.ret ?_ | refine W.condT rfl ?_ | refine W.condF rfl ?_ | refine WX.skip rfl ?_)
    rfl
  · have hc := of_decide_eq_false hc
    exact absurd (hr1.2 hlt) hc
theorem quoRem_one (a b : Nat) (ha : ln a < 16777216) (hb : b < 1000000000) (hb0 : 0 < b) (hlt : b ≤ a) : T (k + 3) 238 [.imm 1 (row (limbs a)), .imm 1 (row (limbs b))] = some (.tup [.imm 1 (row (limbs (a / b))), .imm 1 (row (limbs (a % b)))], []) := by
  obtain ⟨r, hr, hr1, hr2⟩ := cmp_T (k := k + 1) a b (by omega) (by have := ln_small hb; omega)
  have hl : limbs b = [b] := limbs_small (by omega) hb
  refine enter rfl func238 rfl (by decide) (by kernel_rfl) rfl rfl ?_
  repeat (first | refine WX.step tab_eq rfl rfl trivial ?_ | refine WX.step tab_eq rfl rfl (by decide) ?_ | refine WX.nil ?_ | refine W.seq ?_ | refine W.region ?_ | refine W.regionD ?_ | refine W.block ?_ | refine W.skip ?_ | refine W.exit ?_ | refine W.ret ?_ | refine W.condT rfl ?_ | refine W.condF rfl ?_ | refine WX.skip rfl ?_)
  refine WX.call tab_eq rfl rfl rfl rfl rfl (hr) rfl rfl ?_
  repeat (first | refine WX.step tab_eq rfl rfl trivial ?_ | refine WX.step tab_eq rfl rfl (by decide) ?_ | refine WX.nil ?_ | refine W.seq ?_ | refine W.region ?_ | refine W.regionD ?_ | refine W.block ?_ | refine W.skip ?_ | refine W.exit ?_ | refine W.ret ?_ | refine W.condT rfl ?_ | refine W.condF rfl ?_ | refine WX.skip rfl ?_)
  refine W.cond rfl (fun hc => ?_) (fun hc => ?_)
  · have hc := of_decide_eq_true hc
    have := hr1.1 hc
    omega
  · clear hc
    repeat (first | refine WX.step tab_eq rfl rfl trivial ?_ | refine WX.step tab_eq rfl rfl (by decide) ?_ | refine WX.nil ?_ | refine W.seq ?_ | refine W.region ?_ | refine W.regionD ?_ | refine W.block ?_ | refine W.skip ?_ | refine W.exit ?_ | refine W.ret ?_ | refine W.condT rfl ?_ | refine W.condF rfl ?_ | refine WX.skip rfl ?_)
    have hlen : ((row (limbs b)).length : Int) = 1 := by rw [row_len, hl]; rfl
    refine W.cond rfl (fun hc => ?_) (fun hc => ?_)
    · clear hc
      have hg := row_get (l := limbs b) (i := 0) (by rw [hl]; simp)
      have hgd : (limbs b).getD 0 0 = b := by rw [hl]; rfl
      rw [hgd] at hg
      repeat (first | refine WX.step tab_eq rfl rfl trivial ?_ | refine WX.step tab_eq rfl rfl (by decide) ?_ | refine WX.nil ?_ | refine W.seq ?_ | refine W.region ?_ | refine W.regionD ?_ | refine W.block ?_ | refine W.skip ?_ | refine W.exit ?_ | refine W.ret ?_ | refine W.condT rfl ?_ | refine W.condF rfl ?_ | refine WX.skip rfl ?_)
      refine WX.idxImm tab_eq rfl rfl rfl rfl rfl rfl (by omega) (hg) ?_
      repeat (first | refine WX.step tab_eq rfl rfl trivial ?_ | refine WX.step tab_eq rfl rfl (by decide) ?_ | refine WX.nil ?_ | refine W.seq ?_ | refine W.region ?_ | refine W.regionD ?_ | refine W.block ?_ | refine W.skip ?_ | refine W.exit ?_ | refine W.ret ?_ | refine W.condT rfl ?_ | refine W.condF rfl ?_ | refine WX.skip rfl ?_)
      refine WX.call tab_eq rfl rfl rfl rfl rfl (quoLimb_T a b (by omega) hb0 hb) rfl rfl ?_
      repeat (first | refine WX.step tab_eq rfl rfl trivial ?_ | refine WX.step tab_eq rfl rfl (by decide) ?_ | refine WX.nil ?_ | refine W.seq ?_ | refine W.region ?_ | refine W.regionD ?_ | refine W.block ?_ | refine W.skip ?_ | refine W.exit ?_ | refine W.ret ?_ | refine W.condT rfl ?_ | refine W.condF rfl ?_ | refine WX.skip rfl ?_)
      rfl
    · have hc := of_decide_eq_false hc
      exact absurd hlen hc
theorem quoRem_long (a b : Nat) (ha : ln a < 16777216) (hb : 2 ≤ ln b) (hlt : b ≤ a) : T (k + 3) 238 [.imm 1 (row (limbs a)), .imm 1 (row (limbs b))] = some (.tup [.imm 1 (row (limbs (a / b))), .imm 1 (row (limbs (a % b)))], []) := by
  have hlb := ln_mono hlt
  obtain ⟨r, hr, hr1, hr2⟩ := cmp_T (k := k + 1) a b (by omega) (by omega)
  obtain ⟨n, hn⟩ : ∃ n, ln b = n + 1 := ⟨ln b - 1, by omega⟩
  obtain ⟨w, hw⟩ : ∃ w, w = (limbs b).getD n 0 := ⟨_, rfl⟩
  obtain ⟨d, hd⟩ : ∃ d, d = 1000000000 / (w + 1) := ⟨_, rfl⟩
  obtain ⟨hw0, hw1, hd0, hd1, hvl, hnorm⟩ := scaled hn hw hd
  have hld : limbs d = [d] := limbs_small (by omega) hd1
  have hlnd : ln d ≤ 1 := ln_small hd1
  have hlen : ((row (limbs b)).length : Int) = (n + 1 : Nat) := by rw [row_len]; unfold ln at hn; rw [hn]
  have hg := row_get (l := limbs b) (i := n) (by unfold ln at hn; omega)
  rw [← hw] at hg
  refine enter rfl func238 rfl (by decide) (by kernel_rfl) rfl rfl ?_
  repeat (first | refine WX.step tab_eq rfl rfl trivial ?_ | refine WX.step tab_eq rfl rfl (by decide) ?_ | refine WX.nil ?_ | refine W.seq ?_ | refine W.region ?_ | refine W.regionD ?_ | refine W.block ?_ | refine W.skip ?_ | refine W.exit ?_ | refine W.ret ?_ | refine W.condT rfl ?_ | refine W.condF rfl ?_ | refine WX.skip rfl ?_)
  refine WX.call tab_eq rfl rfl rfl rfl rfl (hr) rfl rfl ?_
  repeat (first | refine WX.step tab_eq rfl rfl trivial ?_ | refine WX.step tab_eq rfl rfl (by decide) ?_ | refine WX.nil ?_ | refine W.seq ?_ | refine W.region ?_ | refine W.regionD ?_ | refine W.block ?_ | refine W.skip ?_ | refine W.exit ?_ | refine W.ret ?_ | refine W.condT rfl ?_ | refine W.condF rfl ?_ | refine WX.skip rfl ?_)
  refine W.cond rfl (fun hc => ?_) (fun hc => ?_)
  · have hc := of_decide_eq_true hc
    have := hr1.1 hc
    omega
  · clear hc
    repeat (first | refine WX.step tab_eq rfl rfl trivial ?_ | refine WX.step tab_eq rfl rfl (by decide) ?_ | refine WX.nil ?_ | refine W.seq ?_ | refine W.region ?_ | refine W.regionD ?_ | refine W.block ?_ | refine W.skip ?_ | refine W.exit ?_ | refine W.ret ?_ | refine W.condT rfl ?_ | refine W.condF rfl ?_ | refine WX.skip rfl ?_)
    refine W.cond rfl (fun hc => ?_) (fun hc => ?_)
    · have hc := of_decide_eq_true hc
      rw [hlen] at hc
      omega
    · clear hc
      repeat (first | refine WX.step tab_eq rfl rfl trivial ?_ | refine WX.step tab_eq rfl rfl (by decide) ?_ | refine WX.nil ?_ | refine W.seq ?_ | refine W.region ?_ | refine W.regionD ?_ | refine W.block ?_ | refine W.skip ?_ | refine W.exit ?_ | refine W.ret ?_ | refine W.condT rfl ?_ | refine W.condF rfl ?_ | refine WX.skip rfl ?_)
      rw [hlen, wrap_i64 (x := ((n + 1 : Nat) : Int) - 1) (by omega) (by omega), show ((n + 1 : Nat) : Int) - 1 = (n : Int) by omega]
      refine WX.idxImm tab_eq rfl rfl rfl rfl rfl rfl (by omega) (hg) ?_
      repeat (first | refine WX.step tab_eq rfl rfl trivial ?_ | refine WX.step tab_eq rfl rfl (by decide) ?_ | refine WX.nil ?_ | refine W.seq ?_ | refine W.region ?_ | refine W.regionD ?_ | refine W.block ?_ | refine W.skip ?_ | refine W.exit ?_ | refine W.ret ?_ | refine W.condT rfl ?_ | refine W.condF rfl ?_ | refine WX.skip rfl ?_)
      rw [wrap_u64 (x := (w : Int)) (by omega) (by omega), wrap_u64 (x := (w : Int) + 1) (by omega) (by omega), show (w : Int) + 1 = ((w + 1 : Nat) : Int) by omega]
      refine WX.step tab_eq rfl rfl (by omega) ?_
      rw [show (1000000000 : Int).tdiv ((w + 1 : Nat) : Int) = ((1000000000 / (w + 1) : Nat) : Int) from rfl, ← hd, wrap_u64 (x := (d : Int)) (by omega) (by omega)]
      repeat (first | refine WX.step tab_eq rfl rfl trivial ?_ | refine WX.step tab_eq rfl rfl (by decide) ?_ | refine WX.nil ?_ | refine W.seq ?_ | refine W.region ?_ | refine W.regionD ?_ | refine W.block ?_ | refine W.skip ?_ | refine W.exit ?_ | refine W.ret ?_ | refine W.condT rfl ?_ | refine W.condF rfl ?_ | refine WX.skip rfl ?_)
      rw [wrap_u32 (x := (d : Int)) (by omega) (by omega)]
      repeat (first | refine WX.step tab_eq rfl rfl trivial ?_ | refine WX.step tab_eq rfl rfl (by decide) ?_ | refine WX.nil ?_ | refine W.seq ?_ | refine W.region ?_ | refine W.regionD ?_ | refine W.block ?_ | refine W.skip ?_ | refine W.exit ?_ | refine W.ret ?_ | refine W.condT rfl ?_ | refine W.condF rfl ?_ | refine WX.skip rfl ?_)
      refine WX.call tab_eq rfl rfl rfl rfl rfl (viaA (mul_T a d (by omega) (by omega)) (by rw [hld]; rfl)) rfl rfl ?_
      repeat (first | refine WX.step tab_eq rfl rfl trivial ?_ | refine WX.step tab_eq rfl rfl (by decide) ?_ | refine WX.nil ?_ | refine W.seq ?_ | refine W.region ?_ | refine W.regionD ?_ | refine W.block ?_ | refine W.skip ?_ | refine W.exit ?_ | refine W.ret ?_ | refine W.condT rfl ?_ | refine W.condF rfl ?_ | refine WX.skip rfl ?_)
      refine WX.call tab_eq rfl rfl rfl rfl rfl (viaA (mul_T b d (by omega) (by omega)) (by rw [hld]; rfl)) rfl rfl ?_
      repeat (first | refine WX.step tab_eq rfl rfl trivial ?_ | refine WX.step tab_eq rfl rfl (by decide) ?_ | refine WX.nil ?_ | refine W.seq ?_ | refine W.region ?_ | refine W.regionD ?_ | refine W.block ?_ | refine W.skip ?_ | refine W.exit ?_ | refine W.ret ?_ | refine W.condT rfl ?_ | refine W.condF rfl ?_ | refine WX.skip rfl ?_)
      obtain ⟨v, hv⟩ : ∃ v, v = limbs (b * d) := ⟨_, rfl⟩
      have ov : okL v = true := hv ▸ okL_limbs _
      have vv : lval v = b * d := by rw [hv]; exact lval_limbs _
      have lv : v.length = n + 1 := by rw [hv]; exact hvl
      rw [← hv] at hnorm
      rw [← hv]
      have hla : (limbs a).length = ln a := rfl
      have hwa : ln (a * d) ≤ ln a + 1 := by have := ln_mul a d; omega
      refine W.loop (fun e m => ∃ u : List Nat, e = [(0, .imm 1 (row (limbs a))), (6, .imm 1 (row [d])), (7, .own (0, 0) 1 (row u)), (8, .own (0, 0) 1 (row v))] ∧
        okL u = true ∧ lval u = a * d ∧ u.length ≤ ln a + 1 ∧ m = ln a + 1 - u.length) (ln a + 1 - ln (a * d)) ?_ ?_ ?_
      · exact ⟨limbs (a * d), rfl, okL_limbs _, lval_limbs _, hwa, rfl⟩
      · show _ < 4611686018427387904; omega
      · rintro e m ⟨u, rfl, ou, vu, lu, rfl⟩
        repeat (first | refine WX.step tab_eq rfl rfl trivial ?_ | refine WX.step tab_eq rfl rfl (by decide) ?_ | refine WX.nil ?_ | refine W.seq ?_ | refine W.region ?_ | refine W.regionD ?_ | refine W.block ?_ | refine W.skip ?_ | refine W.exit ?_ | refine W.ret ?_ | refine W.condT rfl ?_ | refine W.condF rfl ?_ | refine WX.skip rfl ?_)
        refine W.cond rfl (fun hc => ?_) (fun hc => ?_)
        · have hc := of_decide_eq_true hc
          rw [row_len, row_len, hla] at hc
          repeat (first | refine WX.step tab_eq rfl rfl trivial ?_ | refine WX.step tab_eq rfl rfl (by decide) ?_ | refine WX.nil ?_ | refine W.seq ?_ | refine W.region ?_ | refine W.regionD ?_ | refine W.block ?_ | refine W.skip ?_ | refine W.exit ?_ | refine W.ret ?_ | refine W.condT rfl ?_ | refine W.condF rfl ?_ | refine WX.skip rfl ?_)
          refine WX.step tab_eq rfl rfl (by simp only [List.length_take, row_len, List.length_cons, List.length_nil]; omega) ?_
          rw [List.take_length, show row u ++ [[PV.int .u32 0]] = row (u ++ [0]) by simp [row]]
          repeat (first | refine WX.step tab_eq rfl rfl trivial ?_ | refine WX.step tab_eq rfl rfl (by decide) ?_ | refine WX.nil ?_ | refine W.seq ?_ | refine W.region ?_ | refine W.regionD ?_ | refine W.block ?_ | refine W.skip ?_ | refine W.exit ?_ | refine W.ret ?_ | refine W.condT rfl ?_ | refine W.condF rfl ?_ | refine WX.skip rfl ?_)
          show ∃ m', _
          refine ⟨ln a + 1 - (u ++ [0]).length, by simp; omega, u ++ [0], rfl, okL_append.2 ⟨ou, rfl⟩, ?_, by simp; omega, rfl⟩
          rw [lval_append, vu]; simp [lval]
        · have hc := of_decide_eq_false hc
          rw [row_len, row_len, hla] at hc
          have lu : u.length = ln a + 1 := by omega
          clear hc
          repeat (first | refine WX.step tab_eq rfl rfl trivial ?_ | refine WX.step tab_eq rfl rfl (by decide) ?_ | refine WX.nil ?_ | refine W.seq ?_ | refine W.region ?_ | refine W.regionD ?_ | refine W.block ?_ | refine W.skip ?_ | refine W.exit ?_ | refine W.ret ?_ | refine W.condT rfl ?_ | refine W.condF rfl ?_ | refine WX.skip rfl ?_)
          obtain ⟨m, hm⟩ : ∃ m, m = ln a + 1 - (n + 1) := ⟨_, rfl⟩
          rw [row_len, row_len, lu, lv, wrap_i64 (x := ((ln a + 1 : Nat) : Int) - ((n + 1 : Nat) : Int)) (by omega) (by omega), show ((ln a + 1 : Nat) : Int) - ((n + 1 : Nat) : Int) = (m : Int) by omega]
          refine WX.step tab_eq rfl rfl (by refine ⟨by omega, by omega, by omega, by omega⟩) ?_
          repeat (first | refine WX.step tab_eq rfl rfl trivial ?_ | refine WX.step tab_eq rfl rfl (by decide) ?_ | refine WX.nil ?_ | refine W.seq ?_ | refine W.region ?_ | refine W.regionD ?_ | refine W.block ?_ | refine W.skip ?_ | refine W.exit ?_ | refine W.ret ?_ | refine W.condT rfl ?_ | refine W.condF rfl ?_ | refine WX.skip rfl ?_)
          rw [row_len, Int.toNat_natCast, show (List.replicate m (List.map frzC [PV.int IntKind.u32 0])).length = m by simp, wrap_i64 (x := (m : Int) - 1) (by omega) (by omega)]
          have hmn : m + n = ln a := by omega
          have hstart : a * d < b * d * 1000000000 ^ m := by
            have h1 : 1000000000 ^ n ≤ b := by
              have := pow_le_of_ln (n := b) (by rintro rfl; rw [ln_zero] at hn; omega)
              rw [hn] at this; exact this
            have h2 : a < b * 1000000000 ^ m := by
              refine Nat.lt_of_lt_of_le (lt_ln a) ?_
              rw [← hmn, Nat.add_comm, Nat.pow_add]
              exact Nat.mul_le_mul_right _ h1
            have := Nat.mul_lt_mul_of_pos_right h2 hd0
            rw [Nat.mul_right_comm] at this
            exact this
          refine W.loop (fun e jj => ∃ (u q : List Nat), e = [(6, .imm 1 (row [d])), (7, .own (0, 0) 1 (row u)), (8, .own (0, 0) 1 (row v)), (9, .own (0, 0) 1 (row q)), (10, .int .i64 ((jj : Int) - 1))] ∧
            okL u = true ∧ u.length = ln a + 1 ∧ okL q = true ∧ q.length = m ∧ jj ≤ m ∧ lval u + lval (q.drop jj) * 1000000000 ^ jj * (b * d) = a * d ∧ lval u < b * d * 1000000000 ^ jj) m ?_ ?_ ?_
          · refine ⟨u, List.replicate m 0, ?_, ou, lu, okL_rep _, by simp, Nat.le_refl _, ?_, by rw [vu]; exact hstart⟩
            · rw [← row_rep]; rfl
            · rw [List.drop_of_length_le (by simp), vu]; simp [lval]
          · show _ < 4611686018427387904; omega
          · clear hstart ou vu lu
            rintro e jj ⟨u, q, rfl, ou, lu, oq, lq, hjj, hval, hlt2⟩
            repeat (first | refine WX.step tab_eq rfl rfl trivial ?_ | refine WX.step tab_eq rfl rfl (by decide) ?_ | refine WX.nil ?_ | refine W.seq ?_ | refine W.region ?_ | refine W.regionD ?_ | refine W.block ?_ | refine W.skip ?_ | refine W.exit ?_ | refine W.ret ?_ | refine W.condT rfl ?_ | refine W.condF rfl ?_ | refine WX.skip rfl ?_)
            refine W.cond rfl (fun hge => ?_) (fun hge => ?_)
            · have hge := of_decide_eq_true hge
              obtain ⟨j, rfl⟩ : ∃ j, jj = j + 1 := ⟨jj - 1, by omega⟩
              rw [show ((j + 1 : Nat) : Int) - 1 = (j : Int) by omega]
              obtain ⟨r1, r2, r3⟩ := div_round (n := n + 1) ou ov lv (j := j) (by omega) (by rw [vv]; exact hlt2)
              rw [vv] at r2 r3
              repeat (first | refine WX.step tab_eq rfl rfl trivial ?_ | refine WX.step tab_eq rfl rfl (by decide) ?_ | refine WX.nil ?_ | refine W.seq ?_ | refine W.region ?_ | refine W.regionD ?_ | refine W.block ?_ | refine W.skip ?_ | refine W.exit ?_ | refine W.ret ?_ | refine W.condT rfl ?_ | refine W.condF rfl ?_ | refine WX.skip rfl ?_)
              rw [row_len, lv, wrap_i64 (x := (j : Int) + ((n + 1 : Nat) : Int)) (by omega) (by omega), wrap_i64 (by omega) (by omega)]
              refine WX.step tab_eq rfl rfl (by rw [row_len]; omega) ?_
              repeat (first | refine WX.step tab_eq rfl rfl trivial ?_ | refine WX.step tab_eq rfl rfl (by decide) ?_ | refine WX.nil ?_ | refine W.seq ?_ | refine W.region ?_ | refine W.regionD ?_ | refine W.block ?_ | refine W.skip ?_ | refine W.exit ?_ | refine W.ret ?_ | refine W.condT rfl ?_ | refine W.condF rfl ?_ | refine WX.skip rfl ?_)
              rw [show 0 + ((j : Int)).toNat = j by omega, show ((j : Int) + ((n + 1 : Nat) : Int) + 1).toNat - ((j : Int)).toNat = n + 1 + 1 by omega]
              obtain ⟨x, hx⟩ : ∃ x, x = (u.drop j).take (n + 1 + 1) := ⟨_, rfl⟩
              have ox : okL x = true := hx ▸ okL_take (okL_drop ou _) _
              have lx : x.length = n + 1 + 1 := by rw [hx]; simp; omega
              rw [← hx, vv] at r1
              rw [← hx, ← vv] at r2 r3
              have hred := reduce_X (k := k + 2) ox ov (by omega) (by omega) (by omega) (by rw [lv, Nat.add_sub_cancel]; exact hnorm) (by rw [vv]; exact r1)
              have hqB : lval x / lval v < 1000000000 := by
                have : 0 < lval v := by
                  rcases Nat.eq_zero_or_pos (lval v) with h | h
                  · rw [← vv, h] at r1; omega
                  · exact h
                rw [Nat.div_lt_iff_lt_mul this, vv]; exact r1
              rw [lx] at hred
              refine WX.callW tab_eq rfl rfl rfl rfl rfl rfl rfl rfl rfl (viaA hred (by rw [row_drop, row_take, List.drop_zero, List.take_length, hx])) rfl rfl (row_sc _) (by rw [row_len, row_len, limbsN_len]; omega) (row_flat _) ?_
              rw [row_take, row_drop, row_append, row_append]
              refine WX.step tab_eq rfl rfl (by rw [row_len]; omega) ?_
              have hg2 := row_get (l := q) (i := 0 + (j : Int).toNat) (by omega)
              refine WX.stElem tab_eq rfl rfl rfl (hg2) rfl rfl rfl ?_
              repeat (first | refine WX.step tab_eq rfl rfl trivial ?_ | refine WX.step tab_eq rfl rfl (by decide) ?_ | refine WX.nil ?_ | refine W.seq ?_ | refine W.region ?_ | refine W.regionD ?_ | refine W.block ?_ | refine W.skip ?_ | refine W.exit ?_ | refine W.ret ?_ | refine W.condT rfl ?_ | refine W.condF rfl ?_ | refine WX.skip rfl ?_)
              rw [show 0 + (j : Int).toNat = j by omega, row_set, wrap_i64 (x := (j : Int) - 1) (by omega) (by omega)]
              show ∃ m', _
              generalize hqq : lval x / lval v = qq at *
              refine ⟨j, by omega, u.take j ++ limbsN (n + 1 + 1) (lval x % lval v) ++ u.drop (j + (n + 1 + 1)), q.set j qq, rfl, ?_, ?_, okL_set oq _ hqB, by simp [lq], by omega, ?_, by rw [← vv]; exact r3⟩
              · rw [okL_append, okL_append]; exact ⟨⟨okL_take ou _, okL_limbsN _ _⟩, okL_drop ou _⟩
              · simp only [List.length_append, List.length_take, limbsN_len, List.length_drop]; omega
              · rw [drop_getD (l := q.set j qq) (i := j) (by simp; omega), drop_set_lt (by omega), getD_set_eq (by omega), lval, ← hval, ← r2, ← vv]
                rw [Nat.pow_succ]
                generalize lval (q.drop (j + 1)) = y
                generalize lval (u.take j ++ limbsN (n + 1 + 1) (lval x % lval v) ++ u.drop (j + (n + 1 + 1))) = z
                generalize 1000000000 ^ j = p
                rw [Nat.add_mul, Nat.add_mul, ← Nat.add_assoc]
                congr 1
                rw [Nat.mul_comm p, ← Nat.mul_assoc, Nat.mul_comm y]
            · have hge := of_decide_eq_false hge
              have : jj = 0 := by omega
              subst this
              simp only [List.drop_zero, Nat.pow_zero, Nat.mul_one] at hval hlt2
              have hb0 : 0 < b := by
                rcases Nat.eq_zero_or_pos b with h | h
                · subst h; omega
                · exact h
              obtain ⟨hq, hr3⟩ : a / b = lval q ∧ lval u = a % b * d := by
                have h1 : lval q * b ≤ a := by
                  have : lval q * b * d ≤ a * d := by rw [Nat.mul_assoc]; omega
                  exact Nat.le_of_mul_le_mul_right this hd0
                have h2 : lval u = (a - lval q * b) * d := by
                  rw [Nat.sub_mul, Nat.mul_assoc]; omega
                have h3 : a - lval q * b < b := by
                  rw [h2] at hlt2
                  exact Nat.lt_of_mul_lt_mul_right hlt2
                have h4 : a = b * lval q + (a - lval q * b) := by rw [Nat.mul_comm b]; omega
                have h5 : a / b = lval q := by
                  rw [h4, Nat.mul_add_div hb0, Nat.div_eq_of_lt h3, Nat.add_zero]
                refine ⟨h5, ?_⟩
                rw [h2]
                congr 1
                conv => rhs; rw [h4, Nat.mul_add_mod, Nat.mod_eq_of_lt h3]
              repeat (first | refine WX.step tab_eq rfl rfl trivial ?_ | refine WX.step tab_eq rfl rfl (by decide) ?_ | refine WX.nil ?_ | refine W.seq ?_ | refine W.region ?_ | refine W.regionD ?_ | refine W.block ?_ | refine W.skip ?_ | refine W.exit ?_ | refine W.ret ?_ | refine W.condT rfl ?_ | refine W.condF rfl ?_ | refine WX.skip rfl ?_)
              repeat (first | refine WX.stepD tab_eq rfl rfl trivial ?_ | refine WX.stepD tab_eq rfl rfl (by decide) ?_ | refine WX.skipD rfl ?_)
              refine WX.callPD rfl rfl rfl rfl rfl rfl rfl (row_sc _) (by have := trimL_le (u) (u).length; rw [row_len]; omega) (viaA (trim_X (l := u) (by first | omega | (simp <;> omega))) (by simp only [List.drop_zero, List.take_length])) ?_
              repeat (first | refine WX.stepD tab_eq rfl rfl trivial ?_ | refine WX.stepD tab_eq rfl rfl (by decide) ?_ | refine WX.skipD rfl ?_)
              refine WX.idxImmD tab_eq rfl rfl rfl rfl rfl rfl (by omega) (row_get (l := [d]) (i := 0) (by simp)) ?_
              repeat (first | refine WX.stepD tab_eq rfl rfl trivial ?_ | refine WX.stepD tab_eq rfl rfl (by decide) ?_ | refine WX.skipD rfl ?_)
              refine WX.callD tab_eq rfl rfl rfl rfl rfl (viaA (quoLimb_T (lval u) d (by rw [hr3]; have := ln_mul (a % b) d; have := ln_mono (Nat.mod_le a b); omega) hd0 hd1) (by rw [List.drop_zero, Int.toNat_natCast, row_take, trim_limbs ou]; rfl)) rfl rfl ?_
              repeat (first | refine WX.stepD tab_eq rfl rfl trivial ?_ | refine WX.stepD tab_eq rfl rfl (by decide) ?_ | refine WX.skipD rfl ?_)
              refine WX.nilD (by kernel_rfl) ?_
              repeat (first | refine WX.step tab_eq rfl rfl trivial ?_ | refine WX.step tab_eq rfl rfl (by decide) ?_ | refine WX.nil ?_ | refine W.seq ?_ | refine W.region ?_ | refine W.regionD ?_ | refine W.block ?_ | refine W.skip ?_ | refine W.exit ?_ | refine W.ret ?_ | refine W.condT rfl ?_ | refine W.condF rfl ?_ | refine WX.skip rfl ?_)
              refine WX.callP rfl rfl rfl rfl rfl rfl rfl (row_sc _) (by have := trimL_le (q) (q).length; rw [row_len]; omega) (viaA (trim_X (l := q) (by first | omega | (simp <;> omega))) (by simp only [List.drop_zero, List.take_length])) ?_
              repeat (first | refine WX.step tab_eq rfl rfl trivial ?_ | refine WX.step tab_eq rfl rfl (by decide) ?_ | refine WX.nil ?_ | refine W.seq ?_ | refine W.region ?_ | refine W.regionD ?_ | refine W.block ?_ | refine W.skip ?_ | refine W.exit ?_ | refine W.ret ?_ | refine W.condT rfl ?_ | refine W.condF rfl ?_ | refine WX.skip rfl ?_)
              rw [Int.toNat_natCast, row_take, trim_limbs oq, ← hq, hr3, Nat.mul_div_cancel _ hd0]
              rfl
theorem quoRem_T (a b : Nat) (ha : ln a < 16777216) (hb : ln b < 16777216) (hb0 : b ≠ 0) : T (k + 3) 238 [.imm 1 (row (limbs a)), .imm 1 (row (limbs b))] = some (.tup [.imm 1 (row (limbs (a / b))), .imm 1 (row (limbs (a % b)))], []) := by
  by_cases hlt : a < b
  · exact quoRem_lt a b ha hb hlt
  · by_cases h1 : ln b < 2
    · refine quoRem_one a b ha ?_ (by omega) (by omega)
      have := lt_ln b
      have hle : 1000000000 ^ ln b ≤ 1000000000 ^ 1 := Nat.pow_le_pow_right (by omega) (by omega)
      omega
    · exact quoRem_long a b ha (by omega) (by omega)
end Go.PE
namespace Go.PE
open Go.RowKit Go.Proofs.Tryz
set_option maxRecDepth 100000
variable {k : Nat}
/-- A measure for Euclid's algorithm. -/
def eu (a b : Nat) : Nat := if b = 0 then 0 else 1 + 2 * Nat.log2 (a * b) + (if a < b then 1 else 0)
theorem log2_half {x y : Nat} (hx : x ≠ 0) (h : 2 * x ≤ y) : Nat.log2 x < Nat.log2 y := by
  have h1 : 2 ^ Nat.log2 x ≤ x := Nat.log2_self_le hx
  have h2 : 2 ^ (Nat.log2 x + 1) ≤ y := by rw [Nat.pow_succ]; omega
  exact (Nat.le_log2 (by omega)).2 h2
theorem eu_step {a b : Nat} (hb : b ≠ 0) : eu b (a % b) < eu a b := by
  have hlt := Nat.mod_lt a (show 0 < b by omega)
  unfold eu
  rw [if_neg hb]
  by_cases hr : a % b = 0
  · rw [if_pos hr]; omega
  · rw [if_neg hr]
    rw [if_neg (show ¬ b < a % b by omega)]
    by_cases hab : a < b
    · rw [if_pos hab, Nat.mod_eq_of_lt hab, Nat.mul_comm b a]; omega
    · rw [if_neg hab]
      have h1 : 2 * (a % b) ≤ a := by
        have := Nat.div_add_mod a b
        have h2 : 1 ≤ a / b := Nat.div_pos (by omega) (by omega)
        have := Nat.mul_le_mul_left b h2
        omega
      have : Nat.log2 (b * (a % b)) < Nat.log2 (a * b) := log2_half (Nat.mul_ne_zero hb hr) (by
        have := Nat.mul_le_mul_left b h1
        rw [Nat.mul_comm a b]
        have e : 2 * (b * (a % b)) = b * (2 * (a % b)) := by rw [Nat.mul_left_comm]
        omega)
      omega
theorem log2_lt_ln (a : Nat) : Nat.log2 a ≤ 30 * ln a := by
  by_cases h : a = 0
  · subst h; simp
  · have h1 : a < 2 ^ (30 * ln a + 1) := by
      refine Nat.lt_of_lt_of_le (lt_ln a) ?_
      have h2 : (1000000000 : Nat) ^ ln a ≤ (2 ^ 30) ^ ln a := Nat.pow_le_pow_left (by omega) _
      rw [← Nat.pow_mul] at h2
      rw [Nat.pow_succ]
      omega
    have := (Nat.log2_lt h).2 h1
    omega
theorem gcd_T (a b : Nat) (ha : ln a < 16777216) (hb : ln b < 16777216) : T (k + 4) 232 [.imm 1 (row (limbs a)), .imm 1 (row (limbs b))] = some (.imm 1 (row (limbs (Nat.gcd a b))), []) := by
  refine enter rfl func232 rfl (by decide) (by kernel_rfl) rfl rfl ?_
  repeat (first | refine WX.step tab_eq rfl rfl trivial ?_ | refine WX.step tab_eq rfl rfl (by decide) ?_ | refine WX.nil ?_ | refine W.seq ?_ | refine W.region ?_ | refine W.regionD ?_ | refine W.block ?_ | refine W.skip ?_ | refine W.exit ?_ | refine W.ret ?_ | refine W.condT rfl ?_ | refine W.condF rfl ?_ | refine WX.skip rfl ?_)
  refine W.loop (fun e m => ∃ (x y : Nat), e = [(0, .imm 1 (row (limbs x))), (1, .imm 1 (row (limbs y)))] ∧ ln x < 16777216 ∧ ln y < 16777216 ∧ Nat.gcd x y = Nat.gcd a b ∧ m = eu x y) (eu a b) ?_ ?_ ?_
  · exact ⟨a, b, rfl, ha, hb, rfl, rfl⟩
  · have h1 := log2_lt_ln (a * b)
    have h2 := ln_mul a b
    have h3 : eu a b ≤ 2 + 2 * Nat.log2 (a * b) := by
      unfold eu; split
      · omega
      · split <;> omega
    show _ < 4611686018427387904; omega
  · rintro e m ⟨x, y, rfl, hx, hy, hg, rfl⟩
    repeat (first | refine WX.step tab_eq rfl rfl trivial ?_ | refine WX.step tab_eq rfl rfl (by decide) ?_ | refine WX.nil ?_ | refine W.seq ?_ | refine W.region ?_ | refine W.regionD ?_ | refine W.block ?_ | refine W.skip ?_ | refine W.exit ?_ | refine W.ret ?_ | refine W.condT rfl ?_ | refine W.condF rfl ?_ | refine WX.skip rfl ?_)
    refine W.cond rfl (fun hc => ?_) (fun hc => ?_)
    · have hc := of_decide_eq_true hc
      rw [row_len] at hc
      have hy0 : y ≠ 0 := by
        rintro rfl
        rw [limbs_zero] at hc
        simp at hc
      repeat (first | refine WX.step tab_eq rfl rfl trivial ?_ | refine WX.step tab_eq rfl rfl (by decide) ?_ | refine WX.nil ?_ | refine W.seq ?_ | refine W.region ?_ | refine W.regionD ?_ | refine W.block ?_ | refine W.skip ?_ | refine W.exit ?_ | refine W.ret ?_ | refine W.condT rfl ?_ | refine W.condF rfl ?_ | refine WX.skip rfl ?_)
      refine WX.call tab_eq rfl rfl rfl rfl rfl (quoRem_T x y hx hy hy0) rfl rfl ?_
      repeat (first | refine WX.step tab_eq rfl rfl trivial ?_ | refine WX.step tab_eq rfl rfl (by decide) ?_ | refine WX.nil ?_ | refine W.seq ?_ | refine W.region ?_ | refine W.regionD ?_ | refine W.block ?_ | refine W.skip ?_ | refine W.exit ?_ | refine W.ret ?_ | refine W.condT rfl ?_ | refine W.condF rfl ?_ | refine WX.skip rfl ?_)
      show ∃ m', _
      refine ⟨eu y (x % y), eu_step hy0, y, x % y, rfl, hy, ?_, ?_, rfl⟩
      · have := ln_mono (Nat.mod_le x y); omega
      · rw [Nat.gcd_comm, ← Nat.gcd_rec, Nat.gcd_comm]; exact hg
    · have hc := of_decide_eq_false hc
      rw [row_len] at hc
      have hy0 : y = 0 := by
        have : (limbs y).length = 0 := by omega
        exact limbs_eq_nil.1 (List.length_eq_zero_iff.1 this)
      subst hy0
      repeat (first | refine WX.step tab_eq rfl rfl trivial ?_ | refine WX.step tab_eq rfl rfl (by decide) ?_ | refine WX.nil ?_ | refine W.seq ?_ | refine W.region ?_ | refine W.regionD ?_ | refine W.block ?_ | refine W.skip ?_ | refine W.exit ?_ | refine W.ret ?_ | refine W.condT rfl ?_ | refine W.condF rfl ?_ | refine WX.skip rfl ?_)
      rw [← hg, Nat.gcd_zero_right]
      rfl
theorem divisor_T (a b : Nat) (ha : a < 4611686018427387904) (hb : b < 4611686018427387904) : T (k + 1) 186 [.int .i64 a, .int .i64 b] = some (.int .i64 (Nat.gcd a b : Nat), []) := by
  refine enter rfl func186 rfl (by decide) (by kernel_rfl) rfl rfl ?_
  repeat (first | refine WX.step tab_eq rfl rfl trivial ?_ | refine WX.step tab_eq rfl rfl (by decide) ?_ | refine WX.nil ?_ | refine W.seq ?_ | refine W.region ?_ | refine W.regionD ?_ | refine W.block ?_ | refine W.skip ?_ | refine W.exit ?_ | refine W.ret ?_ | refine W.condT rfl ?_ | refine W.condF rfl ?_ | refine WX.skip rfl ?_)
  refine W.loop (fun e m => ∃ (x y : Nat), e = [(0, .int .i64 x), (1, .int .i64 y)] ∧ Nat.gcd x y = Nat.gcd a b ∧ m = y) b ?_ ?_ ?_
  · exact ⟨a, b, rfl, rfl, rfl⟩
  · show _ < 4611686018427387904; omega
  · rintro e m ⟨x, y, rfl, hg, rfl⟩
    repeat (first | refine WX.step tab_eq rfl rfl trivial ?_ | refine WX.step tab_eq rfl rfl (by decide) ?_ | refine WX.nil ?_ | refine W.seq ?_ | refine W.region ?_ | refine W.regionD ?_ | refine W.block ?_ | refine W.skip ?_ | refine W.exit ?_ | refine W.ret ?_ | refine W.condT rfl ?_ | refine W.condF rfl ?_ | refine WX.skip rfl ?_)
    refine W.cond rfl (fun hc => ?_) (fun hc => ?_)
    · have hc := of_decide_eq_true hc
      have hy0 : m ≠ 0 := by
        have : (m : Int) ≠ 0 := hc
        omega
      repeat (first | refine WX.step tab_eq rfl rfl trivial ?_ | refine WX.step tab_eq rfl rfl (by decide) ?_ | refine WX.nil ?_ | refine W.seq ?_ | refine W.region ?_ | refine W.regionD ?_ | refine W.block ?_ | refine W.skip ?_ | refine W.exit ?_ | refine W.ret ?_ | refine W.condT rfl ?_ | refine W.condF rfl ?_ | refine WX.skip rfl ?_)
      repeat (first | refine WX.stepD tab_eq rfl rfl trivial ?_ | refine WX.stepD tab_eq rfl rfl (by decide) ?_ | refine WX.skipD rfl ?_)
      refine WX.stepD tab_eq rfl rfl (by omega) ?_
      rw [tmodN]
      repeat (first | refine WX.stepD tab_eq rfl rfl trivial ?_ | refine WX.stepD tab_eq rfl rfl (by decide) ?_ | refine WX.skipD rfl ?_)
      refine WX.nilD (by kernel_rfl) ?_
      repeat (first | refine WX.step tab_eq rfl rfl trivial ?_ | refine WX.step tab_eq rfl rfl (by decide) ?_ | refine WX.nil ?_ | refine W.seq ?_ | refine W.region ?_ | refine W.regionD ?_ | refine W.block ?_ | refine W.skip ?_ | refine W.exit ?_ | refine W.ret ?_ | refine W.condT rfl ?_ | refine W.condF rfl ?_ | refine WX.skip rfl ?_)
      show ∃ m', _
      refine ⟨x % m, Nat.mod_lt _ (by omega), m, x % m, rfl, ?_, rfl⟩
      rw [Nat.gcd_comm, ← Nat.gcd_rec, Nat.gcd_comm]; exact hg
    · have hc := of_decide_eq_false hc
      have hy0 : m = 0 := by
        have : ¬ (m : Int) ≠ 0 := hc
        omega
      subst hy0
      repeat (first | refine WX.step tab_eq rfl rfl trivial ?_ | refine WX.step tab_eq rfl rfl (by decide) ?_ | refine WX.nil ?_ | refine W.seq ?_ | refine W.region ?_ | refine W.regionD ?_ | refine W.block ?_ | refine W.skip ?_ | refine W.exit ?_ | refine W.ret ?_ | refine W.condT rfl ?_ | refine W.condF rfl ?_ | refine WX.skip rfl ?_)
      rw [← hg, Nat.gcd_zero_right]
      rfl
end Go.PE
