/-
  A part of the proof that the law's function returns true and leaves its arguments as they were, for every input (no condition): own lemmas of the proof, in the order of their use.
-/
import Derived.Test.YtggpmnlmbfogeaaGreatDoorV18
set_option linter.all false
namespace Go.PE
open Go.RowKit Go.Proofs.Tryz
set_option maxRecDepth 100000
variable {k : Nat}
theorem bytes_set (s : Bs) (i : Nat) (c : UInt8) : (bytesPV s).set i [.int .u8 (c.toNat : Nat)] = bytesPV (s.set i c) := by simp [bytesPV, List.map_set]
theorem bytes_rep (n : Nat) : List.replicate n [PV.int .u8 0] = bytesPV (List.replicate n 0) := by simp [bytesPV]
theorem bytesOf_PV : ∀ s : Bs, bytesOf? (bytesPV s) = some s
  | [] => rfl
  | c :: s => by
    have ih := bytesOf_PV s
    unfold bytesPV at ih ⊢
    have := UInt8.toNat_lt c
    rw [List.map_cons, bytesOf?, if_pos (by omega), ih]
    simp
theorem ofNat48 {d : Nat} (h : d < 10) : ((48 + d : Nat) : Int) = ((UInt8.ofNat (48 + d)).toNat : Nat) := by rw [dg_nat h]
theorem dgAt : ∀ {s : Bs} {i : Nat}, s.all isDg = true → i < s.length → dv (s.getD (s.length - 1 - i) 0) = val s / 10 ^ i % 10
  | c :: t, i, h, hi => by
    rw [List.all_cons, Bool.and_eq_true] at h
    have hv := val_lt h.2
    have hc := dv_lt h.1
    rw [val_cons]
    by_cases e : i = t.length
    · subst e
      simp only [List.length_cons, Nat.add_sub_cancel, Nat.sub_self, List.getD_cons_zero]
      rw [Nat.mul_comm, Nat.mul_add_div (Nat.pow_pos (by omega)), Nat.div_eq_of_lt hv, Nat.add_zero, Nat.mod_eq_of_lt hc]
    · have hi : i < t.length := by simp only [List.length_cons] at hi; omega
      rw [show (c :: t).length - 1 - i = (t.length - 1 - i) + 1 by simp only [List.length_cons]; omega, List.getD_cons_succ, dgAt h.2 hi]
      obtain ⟨j, hj⟩ : ∃ j, t.length = j + 1 + i := ⟨t.length - 1 - i, by omega⟩
      have : dv c * 10 ^ t.length + val t = val t + 10 ^ i * (10 * (dv c * 10 ^ j)) := by
        rw [hj, Nat.pow_add, Nat.pow_succ]
        have : dv c * (10 ^ j * 10 * 10 ^ i) = 10 ^ i * (10 * (dv c * 10 ^ j)) := by
          rw [Nat.mul_comm (10 ^ i), Nat.mul_comm 10 (dv c * _), Nat.mul_assoc, Nat.mul_assoc, Nat.mul_assoc]
        omega
      rw [this, Nat.add_mul_div_left _ _ (Nat.pow_pos (by omega)), Nat.add_mul_mod_self_left]
theorem dgChar {s : Bs} {i : Nat} (h : s.all isDg = true) (hi : i < s.length) : (s.getD (s.length - 1 - i) 0).toNat = 48 + val s / 10 ^ i % 10 := by
  have h1 := dgAt h hi
  have : isDg (s.getD (s.length - 1 - i) 0) = true := by
    apply List.all_eq_true.1 h
    have : s.length - 1 - i < s.length := by omega
    simp only [List.getD, List.getElem?_eq_getElem this, Option.getD_some]
    exact List.getElem_mem _
  rw [isDg_eq] at this
  simp only [Bool.and_eq_true, decide_eq_true_eq] at this
  unfold dv at h1
  omega
theorem mod_pow_succ (a i : Nat) : a % 10 ^ (i + 1) = a % 10 ^ i + 10 ^ i * (a / 10 ^ i % 10) := by rw [Nat.pow_succ, Nat.mod_mul]
theorem dig_ge {b i m : Nat} (h : b < 10 ^ m) (hi : m ≤ i) : b / 10 ^ i % 10 = 0 := by
  rw [Nat.div_eq_of_lt (Nat.lt_of_lt_of_le h (Nat.pow_le_pow_right (by omega) hi))]
theorem drop_set {s : Bs} {i : Nat} (c : UInt8) (h : i < s.length) : (s.set i c).drop i = c :: s.drop (i + 1) := by
  rw [List.drop_set, if_neg (by omega), Nat.sub_self, List.drop_eq_getElem_cons h]; rfl
theorem subMag_T (a b : Nat) (hab : b ≤ a) (ha : (dec a).length < 1073741824) :
    T (k + 2) 182 [.str (dec a), .str (dec b)] = some (.str (dec (a - b)), []) := by
  have hba := dec_len_mono hab
  have va := val_dec a
  have vb := val_dec b
  have da := dec_all a
  have db := dec_all b
  have la := dec_lt_pow a
  have lb := dec_lt_pow b
  have na := dec_ne a
  generalize hx : dec a = x at *
  generalize hy : dec b = y at *
  refine enter rfl func182 rfl (by decide) (by kernel_rfl) rfl rfl ?_
  repeat (first | refine WX.step tab_eq rfl rfl trivial ?_ | refine WX.step tab_eq rfl rfl (by decide) ?_ | refine WX.nil ?_ | refine W.seq ?_ | refine W.region ?_ | refine W.regionD ?_ | refine W.block ?_ | refine W.skip ?_ | refine W.exit ?_ | refine W.ret ?_ | refine W.condT rfl ?_ | refine W.condF rfl ?_ | refine WX.skip rfl ?_)
  refine WX.step tab_eq rfl rfl (by refine ⟨by omega, by omega, by omega, by omega⟩) ?_
  repeat (first | refine WX.step tab_eq rfl rfl trivial ?_ | refine WX.step tab_eq rfl rfl (by decide) ?_ | refine WX.nil ?_ | refine W.seq ?_ | refine W.region ?_ | refine W.regionD ?_ | refine W.block ?_ | refine W.skip ?_ | refine W.exit ?_ | refine W.ret ?_ | refine W.condT rfl ?_ | refine W.condF rfl ?_ | refine WX.skip rfl ?_)
  rw [Int.toNat_natCast]
  refine W.loop (fun e m => ∃ (c i : Nat) (out : Bs), e = [(0, .str x), (1, .str y), (5, .own (0, 0) 1 (bytesPV out)), (6, .int .i64 c), (7, .int .i64 i)] ∧
    i ≤ x.length ∧ out.length = x.length ∧ c ≤ 1 ∧ (out.drop (x.length - i)).all isDg = true ∧ val (out.drop (x.length - i)) + b % 10 ^ i = a % 10 ^ i + c * 10 ^ i ∧ m = x.length - i) x.length ?_ ?_ ?_
  · refine ⟨0, 0, List.replicate x.length 0, ?_, by omega, by simp, by omega, ?_, ?_, by omega⟩
    · rw [← bytes_rep]; rfl
    · rw [List.drop_of_length_le (by simp)]; rfl
    · rw [List.drop_of_length_le (by simp)]; simp [val_nil, Nat.mod_one]
  · show _ < 4611686018427387904; omega
  · rintro e m ⟨c, i, out, rfl, hi, hlen, hc, hd, hv, rfl⟩
    repeat (first | refine WX.step tab_eq rfl rfl trivial ?_ | refine WX.step tab_eq rfl rfl (by decide) ?_ | refine WX.nil ?_ | refine W.seq ?_ | refine W.region ?_ | refine W.regionD ?_ | refine W.block ?_ | refine W.skip ?_ | refine W.exit ?_ | refine W.ret ?_ | refine W.condT rfl ?_ | refine W.condF rfl ?_ | refine WX.skip rfl ?_)
    refine W.cond rfl (fun hlt => ?_) (fun hlt => ?_)
    · have hlt := of_decide_eq_true hlt
      have c1 := dgChar (i := i) da (by omega)
      have m1 := mod_pow_succ a i
      have m2 := mod_pow_succ b i
      rw [va] at c1
      repeat (first | refine WX.step tab_eq rfl rfl trivial ?_ | refine WX.step tab_eq rfl rfl (by decide) ?_ | refine WX.nil ?_ | refine W.seq ?_ | refine W.region ?_ | refine W.regionD ?_ | refine W.block ?_ | refine W.skip ?_ | refine W.exit ?_ | refine W.ret ?_ | refine W.condT rfl ?_ | refine W.condF rfl ?_ | refine WX.skip rfl ?_)
      rw [wrap_i64 (x := (x.length : Int) - 1) (by omega) (by omega), wrap_i64 (x := (x.length : Int) - 1 - i) (by omega) (by omega)]
      refine WX.step tab_eq rfl rfl (by constructor <;> omega) ?_
      repeat (first | refine WX.step tab_eq rfl rfl trivial ?_ | refine WX.step tab_eq rfl rfl (by decide) ?_ | refine WX.nil ?_ | refine W.seq ?_ | refine W.region ?_ | refine W.regionD ?_ | refine W.block ?_ | refine W.skip ?_ | refine W.exit ?_ | refine W.ret ?_ | refine W.condT rfl ?_ | refine W.condF rfl ?_ | refine WX.skip rfl ?_)
      have e1 : ((x.length : Int) - 1 - i).toNat = x.length - 1 - i := by omega
      rw [e1, c1]
      have hX : a / 10 ^ i % 10 < 10 := Nat.mod_lt _ (by omega)
      have hY : b / 10 ^ i % 10 < 10 := Nat.mod_lt _ (by omega)
      have hge := @dig_ge b i y.length lb
      have c2 := fun h => dgChar (i := i) db h
      rw [vb] at c2
      generalize a / 10 ^ i % 10 = X at *
      generalize b / 10 ^ i % 10 = Y at *
      rw [show ((48 + X : Nat) : Int) - 48 = X by omega, wrap_u8 (x := (X : Int)) (by omega) (by omega), wrap_i64 (x := (X : Int)) (by omega) (by omega), wrap_i64 (x := (X : Int) - c) (by omega) (by omega)]
      have hfin : ∀ (n : Nat) (q : Nat), n < 10 → q ≤ 1 → n + Y + c = X + 10 * q → ((out.set (x.length - 1 - i) (UInt8.ofNat (48 + n))).drop (x.length - (i + 1))).all isDg = true ∧ val ((out.set (x.length - 1 - i) (UInt8.ofNat (48 + n))).drop (x.length - (i + 1))) + b % 10 ^ (i + 1) = a % 10 ^ (i + 1) + q * 10 ^ (i + 1) := by
        intro n q hn hq hs
        have hset := drop_set (s := out) (i := x.length - 1 - i) (UInt8.ofNat (48 + n)) (by omega)
        rw [show x.length - 1 - i + 1 = x.length - i by omega] at hset
        refine ⟨?_, ?_⟩
        · rw [show x.length - (i + 1) = x.length - 1 - i by omega, hset, List.all_cons, hd, dg_isDg hn]; rfl
        · rw [show x.length - (i + 1) = x.length - 1 - i by omega, hset, val_cons, dg_dv hn, List.length_drop, hlen, show x.length - (x.length - i) = i by omega, m1, m2, Nat.pow_succ]
          generalize 10 ^ i = p at *
          have e : p * n + p * Y + p * c = p * X + p * (10 * q) := by rw [← Nat.mul_add, ← Nat.mul_add, ← Nat.mul_add, hs]
          have e2 : q * (p * 10) = p * (10 * q) := by rw [Nat.mul_comm q, Nat.mul_assoc]
          rw [e2, Nat.mul_comm n p]
          rw [Nat.mul_comm c p] at hv
          omega
      repeat (first | refine WX.step tab_eq rfl rfl trivial ?_ | refine WX.step tab_eq rfl rfl (by decide) ?_ | refine WX.nil ?_ | refine W.seq ?_ | refine W.region ?_ | refine W.regionD ?_ | refine W.block ?_ | refine W.skip ?_ | refine W.exit ?_ | refine W.ret ?_ | refine W.condT rfl ?_ | refine W.condF rfl ?_ | refine WX.skip rfl ?_)
      refine W.cond rfl (fun b1 => ?_) (fun b1 => ?_)
      · have b1 := of_decide_eq_true b1
        have c2 := c2 (by omega)
        repeat (first | refine WX.step tab_eq rfl rfl trivial ?_ | refine WX.step tab_eq rfl rfl (by decide) ?_ | refine WX.nil ?_ | refine W.seq ?_ | refine W.region ?_ | refine W.regionD ?_ | refine W.block ?_ | refine W.skip ?_ | refine W.exit ?_ | refine W.ret ?_ | refine W.condT rfl ?_ | refine W.condF rfl ?_ | refine WX.skip rfl ?_)
        rw [wrap_i64 (x := (y.length : Int) - 1) (by omega) (by omega), wrap_i64 (x := (y.length : Int) - 1 - i) (by omega) (by omega)]
        refine WX.step tab_eq rfl rfl (by constructor <;> omega) ?_
        repeat (first | refine WX.step tab_eq rfl rfl trivial ?_ | refine WX.step tab_eq rfl rfl (by decide) ?_ | refine WX.nil ?_ | refine W.seq ?_ | refine W.region ?_ | refine W.regionD ?_ | refine W.block ?_ | refine W.skip ?_ | refine W.exit ?_ | refine W.ret ?_ | refine W.condT rfl ?_ | refine W.condF rfl ?_ | refine WX.skip rfl ?_)
        rw [show ((y.length : Int) - 1 - i).toNat = y.length - 1 - i by omega, c2]
        rw [show ((48 + Y : Nat) : Int) - 48 = Y by omega, wrap_u8 (x := (Y : Int)) (by omega) (by omega), wrap_i64 (x := (Y : Int)) (by omega) (by omega), wrap_i64 (x := (X : Int) - c - Y) (by omega) (by omega)]
        repeat (first | refine WX.step tab_eq rfl rfl trivial ?_ | refine WX.step tab_eq rfl rfl (by decide) ?_ | refine WX.nil ?_ | refine W.seq ?_ | refine W.region ?_ | refine W.regionD ?_ | refine W.block ?_ | refine W.skip ?_ | refine W.exit ?_ | refine W.ret ?_ | refine W.condT rfl ?_ | refine W.condF rfl ?_ | refine WX.skip rfl ?_)
        refine W.cond rfl (fun b2 => ?_) (fun b2 => ?_)
        · have b2 := of_decide_eq_true b2
          have hq := hfin (X + 10 - c - Y) 1 (by omega) (by omega) (by omega)
          repeat (first | refine WX.step tab_eq rfl rfl trivial ?_ | refine WX.step tab_eq rfl rfl (by decide) ?_ | refine WX.nil ?_ | refine W.seq ?_ | refine W.region ?_ | refine W.regionD ?_ | refine W.block ?_ | refine W.skip ?_ | refine W.exit ?_ | refine W.ret ?_ | refine W.condT rfl ?_ | refine W.condF rfl ?_ | refine WX.skip rfl ?_)
          rw [wrap_i64 (x := (X : Int) - c - Y + 10) (by omega) (by omega), show (48 : Int) + ((X : Int) - c - Y + 10) = ((48 + (X + 10 - c - Y) : Nat) : Int) by omega]
          rw [wrap_i64 (x := ((48 + (X + 10 - c - Y) : Nat) : Int)) (by omega) (by omega), wrap_u8 (x := ((48 + (X + 10 - c - Y) : Nat) : Int)) (by omega) (by omega), ofNat48 (show X + 10 - c - Y < 10 by omega)]
          rw [wrap_i64 (x := (x.length : Int) - 1) (by omega) (by omega), wrap_i64 (x := (x.length : Int) - 1 - i) (by omega) (by omega)]
          refine WX.step tab_eq rfl rfl (by rw [bytes_len]; omega) ?_
          rw [show 0 + ((x.length : Int) - 1 - i).toNat = x.length - 1 - i by omega]
          refine WX.stElem tab_eq rfl rfl rfl (bytes_get (s := out) (i := x.length - 1 - i) (by omega)) rfl rfl rfl ?_
          repeat (first | refine WX.step tab_eq rfl rfl trivial ?_ | refine WX.step tab_eq rfl rfl (by decide) ?_ | refine WX.nil ?_ | refine W.seq ?_ | refine W.region ?_ | refine W.regionD ?_ | refine W.block ?_ | refine W.skip ?_ | refine W.exit ?_ | refine W.ret ?_ | refine W.condT rfl ?_ | refine W.condF rfl ?_ | refine WX.skip rfl ?_)
          rw [bytes_set, wrap_i64 (x := (i : Int) + 1) (by omega) (by omega)]
          show ∃ m', _
          exact ⟨x.length - (i + 1), by omega, 1, i + 1, out.set (x.length - 1 - i) (UInt8.ofNat (48 + (X + 10 - c - Y))), rfl, by omega, by simp [hlen], by omega, hq.1, hq.2, rfl⟩
        · have b2 := of_decide_eq_false b2
          have hq := hfin (X - c - Y) 0 (by omega) (by omega) (by omega)
          repeat (first | refine WX.step tab_eq rfl rfl trivial ?_ | refine WX.step tab_eq rfl rfl (by decide) ?_ | refine WX.nil ?_ | refine W.seq ?_ | refine W.region ?_ | refine W.regionD ?_ | refine W.block ?_ | refine W.skip ?_ | refine W.exit ?_ | refine W.ret ?_ | refine W.condT rfl ?_ | refine W.condF rfl ?_ | refine WX.skip rfl ?_)
          rw [show (48 : Int) + ((X : Int) - c - Y) = ((48 + (X - c - Y) : Nat) : Int) by omega]
          rw [wrap_i64 (x := ((48 + (X - c - Y) : Nat) : Int)) (by omega) (by omega), wrap_u8 (x := ((48 + (X - c - Y) : Nat) : Int)) (by omega) (by omega), ofNat48 (show X - c - Y < 10 by omega)]
          rw [wrap_i64 (x := (x.length : Int) - 1) (by omega) (by omega), wrap_i64 (x := (x.length : Int) - 1 - i) (by omega) (by omega)]
          refine WX.step tab_eq rfl rfl (by rw [bytes_len]; omega) ?_
          rw [show 0 + ((x.length : Int) - 1 - i).toNat = x.length - 1 - i by omega]
          refine WX.stElem tab_eq rfl rfl rfl (bytes_get (s := out) (i := x.length - 1 - i) (by omega)) rfl rfl rfl ?_
          repeat (first | refine WX.step tab_eq rfl rfl trivial ?_ | refine WX.step tab_eq rfl rfl (by decide) ?_ | refine WX.nil ?_ | refine W.seq ?_ | refine W.region ?_ | refine W.regionD ?_ | refine W.block ?_ | refine W.skip ?_ | refine W.exit ?_ | refine W.ret ?_ | refine W.condT rfl ?_ | refine W.condF rfl ?_ | refine WX.skip rfl ?_)
          rw [bytes_set, wrap_i64 (x := (i : Int) + 1) (by omega) (by omega)]
          show ∃ m', _
          exact ⟨x.length - (i + 1), by omega, 0, i + 1, out.set (x.length - 1 - i) (UInt8.ofNat (48 + (X - c - Y))), rfl, by omega, by simp [hlen], by omega, hq.1, hq.2, rfl⟩
      · have b1 := of_decide_eq_false b1
        have hY0 : Y = 0 := hge (by omega)
        repeat (first | refine WX.step tab_eq rfl rfl trivial ?_ | refine WX.step tab_eq rfl rfl (by decide) ?_ | refine WX.nil ?_ | refine W.seq ?_ | refine W.region ?_ | refine W.regionD ?_ | refine W.block ?_ | refine W.skip ?_ | refine W.exit ?_ | refine W.ret ?_ | refine W.condT rfl ?_ | refine W.condF rfl ?_ | refine WX.skip rfl ?_)
        refine W.cond rfl (fun b2 => ?_) (fun b2 => ?_)
        · have b2 := of_decide_eq_true b2
          have hq := hfin (X + 10 - c - Y) 1 (by omega) (by omega) (by omega)
          repeat (first | refine WX.step tab_eq rfl rfl trivial ?_ | refine WX.step tab_eq rfl rfl (by decide) ?_ | refine WX.nil ?_ | refine W.seq ?_ | refine W.region ?_ | refine W.regionD ?_ | refine W.block ?_ | refine W.skip ?_ | refine W.exit ?_ | refine W.ret ?_ | refine W.condT rfl ?_ | refine W.condF rfl ?_ | refine WX.skip rfl ?_)
          rw [wrap_i64 (x := (X : Int) - c + 10) (by omega) (by omega), show (48 : Int) + ((X : Int) - c + 10) = ((48 + (X + 10 - c - Y) : Nat) : Int) by omega]
          rw [wrap_i64 (x := ((48 + (X + 10 - c - Y) : Nat) : Int)) (by omega) (by omega), wrap_u8 (x := ((48 + (X + 10 - c - Y) : Nat) : Int)) (by omega) (by omega), ofNat48 (show X + 10 - c - Y < 10 by omega)]
          rw [wrap_i64 (x := (x.length : Int) - 1) (by omega) (by omega), wrap_i64 (x := (x.length : Int) - 1 - i) (by omega) (by omega)]
          refine WX.step tab_eq rfl rfl (by rw [bytes_len]; omega) ?_
          rw [show 0 + ((x.length : Int) - 1 - i).toNat = x.length - 1 - i by omega]
          refine WX.stElem tab_eq rfl rfl rfl (bytes_get (s := out) (i := x.length - 1 - i) (by omega)) rfl rfl rfl ?_
          repeat (first | refine WX.step tab_eq rfl rfl trivial ?_ | refine WX.step tab_eq rfl rfl (by decide) ?_ | refine WX.nil ?_ | refine W.seq ?_ | refine W.region ?_ | refine W.regionD ?_ | refine W.block ?_ | refine W.skip ?_ | refine W.exit ?_ | refine W.ret ?_ | refine W.condT rfl ?_ | refine W.condF rfl ?_ | refine WX.skip rfl ?_)
          rw [bytes_set, wrap_i64 (x := (i : Int) + 1) (by omega) (by omega)]
          show ∃ m', _
          exact ⟨x.length - (i + 1), by omega, 1, i + 1, out.set (x.length - 1 - i) (UInt8.ofNat (48 + (X + 10 - c - Y))), rfl, by omega, by simp [hlen], by omega, hq.1, hq.2, rfl⟩
        · have b2 := of_decide_eq_false b2
          have hq := hfin (X - c - Y) 0 (by omega) (by omega) (by omega)
          repeat (first | refine WX.step tab_eq rfl rfl trivial ?_ | refine WX.step tab_eq rfl rfl (by decide) ?_ | refine WX.nil ?_ | refine W.seq ?_ | refine W.region ?_ | refine W.regionD ?_ | refine W.block ?_ | refine W.skip ?_ | refine W.exit ?_ | refine W.ret ?_ | refine W.condT rfl ?_ | refine W.condF rfl ?_ | refine WX.skip rfl ?_)
          rw [show (48 : Int) + ((X : Int) - c) = ((48 + (X - c - Y) : Nat) : Int) by omega]
          rw [wrap_i64 (x := ((48 + (X - c - Y) : Nat) : Int)) (by omega) (by omega), wrap_u8 (x := ((48 + (X - c - Y) : Nat) : Int)) (by omega) (by omega), ofNat48 (show X - c - Y < 10 by omega)]
          rw [wrap_i64 (x := (x.length : Int) - 1) (by omega) (by omega), wrap_i64 (x := (x.length : Int) - 1 - i) (by omega) (by omega)]
          refine WX.step tab_eq rfl rfl (by rw [bytes_len]; omega) ?_
          rw [show 0 + ((x.length : Int) - 1 - i).toNat = x.length - 1 - i by omega]
          refine WX.stElem tab_eq rfl rfl rfl (bytes_get (s := out) (i := x.length - 1 - i) (by omega)) rfl rfl rfl ?_
          repeat (first | refine WX.step tab_eq rfl rfl trivial ?_ | refine WX.step tab_eq rfl rfl (by decide) ?_ | refine WX.nil ?_ | refine W.seq ?_ | refine W.region ?_ | refine W.regionD ?_ | refine W.block ?_ | refine W.skip ?_ | refine W.exit ?_ | refine W.ret ?_ | refine W.condT rfl ?_ | refine W.condF rfl ?_ | refine WX.skip rfl ?_)
          rw [bytes_set, wrap_i64 (x := (i : Int) + 1) (by omega) (by omega)]
          show ∃ m', _
          exact ⟨x.length - (i + 1), by omega, 0, i + 1, out.set (x.length - 1 - i) (UInt8.ofNat (48 + (X - c - Y))), rfl, by omega, by simp [hlen], by omega, hq.1, hq.2, rfl⟩
    · have hlt := of_decide_eq_false hlt
      have hie : i = x.length := by omega
      subst hie
      rw [Nat.sub_self, List.drop_zero] at hd hv
      have h1 : b % 10 ^ x.length = b := Nat.mod_eq_of_lt (by omega)
      have h2 : a % 10 ^ x.length = a := Nat.mod_eq_of_lt la
      have h3 := val_lt hd
      rw [hlen] at h3
      have h4 : val out = a - b := by
        rw [h1, h2] at hv
        rcases (show c = 0 ∨ c = 1 by omega) with rfl | rfl <;> omega
      repeat (first | refine WX.step tab_eq rfl rfl trivial ?_ | refine WX.step tab_eq rfl rfl (by decide) ?_ | refine WX.nil ?_ | refine W.seq ?_ | refine W.region ?_ | refine W.regionD ?_ | refine W.block ?_ | refine W.skip ?_ | refine W.exit ?_ | refine W.ret ?_ | refine W.condT rfl ?_ | refine W.condF rfl ?_ | refine WX.skip rfl ?_)
      refine WX.convS tab_eq rfl rfl rfl rfl rfl (by rw [List.drop_zero, List.take_length]; exact bytesOf_PV out) ?_
      repeat (first | refine WX.step tab_eq rfl rfl trivial ?_ | refine WX.step tab_eq rfl rfl (by decide) ?_ | refine WX.nil ?_ | refine W.seq ?_ | refine W.region ?_ | refine W.regionD ?_ | refine W.block ?_ | refine W.skip ?_ | refine W.exit ?_ | refine W.ret ?_ | refine W.condT rfl ?_ | refine W.condF rfl ?_ | refine WX.skip rfl ?_)
      refine WX.call tab_eq rfl rfl rfl rfl rfl (rtrim_T (k := k) out hd (by rintro rfl; exact na (List.eq_nil_of_length_eq_zero hlen.symm)) (by omega)) rfl rfl ?_
      repeat (first | refine WX.step tab_eq rfl rfl trivial ?_ | refine WX.step tab_eq rfl rfl (by decide) ?_ | refine WX.nil ?_ | refine W.seq ?_ | refine W.region ?_ | refine W.regionD ?_ | refine W.block ?_ | refine W.skip ?_ | refine W.exit ?_ | refine W.ret ?_ | refine W.condT rfl ?_ | refine W.condF rfl ?_ | refine WX.skip rfl ?_)
      rw [h4]
      rfl
end Go.PE
namespace Go.PE
open Go.RowKit Go.Proofs.Tryz
set_option maxRecDepth 100000
variable {k : Nat}
theorem take_one {s : Bs} {i : Nat} (h : i < s.length) : (s.drop i).take 1 = [s.getD i 0] := by
  rw [List.drop_eq_getElem_cons h, List.take_succ_cons, List.take_zero]
  simp [List.getD, List.getElem?_eq_getElem h]
theorem val_take1 {s : Bs} {i : Nat} (h : i < s.length) : val (s.take (i + 1)) = val (s.take i) * 10 + dv (s.getD i 0) := by
  rw [take_dg h, val_snoc]
theorem getD_dg {s : Bs} {i : Nat} (h : s.all isDg = true) (hi : i < s.length) : isDg (s.getD i 0) = true := by
  apply List.all_eq_true.1 h
  simp only [List.getD, List.getElem?_eq_getElem hi, Option.getD_some]
  exact List.getElem_mem _
theorem take_set {s : Bs} {i : Nat} (c : UInt8) (h : i < s.length) : (s.set i c).take (i + 1) = s.take i ++ [c] := by
  rw [take_dg (by simpa using h), List.take_set_of_le (Nat.le_refl i)]
  simp [List.getD, h]
theorem divMag_T (a b : Nat) (hb0 : 0 < b) (ha : (dec a).length < 536870912) (hbl : (dec b).length < 536870912) :
    T (k + 3) 183 [.str (dec a), .str (dec b)] = some (.tup [.str (dec (a / b)), .str (dec (a % b))], []) := by
  have va := val_dec a
  have da := dec_all a
  have na := dec_ne a
  generalize hx : dec a = x at *
  generalize hy : dec b = y at *
  refine enter rfl func183 rfl (by decide) (by kernel_rfl) rfl rfl ?_
  repeat (first | refine WX.step tab_eq rfl rfl trivial ?_ | refine WX.step tab_eq rfl rfl (by decide) ?_ | refine WX.nil ?_ | refine W.seq ?_ | refine W.region ?_ | refine W.regionD ?_ | refine W.block ?_ | refine W.skip ?_ | refine W.exit ?_ | refine W.ret ?_ | refine W.condT rfl ?_ | refine W.condF rfl ?_ | refine WX.skip rfl ?_)
  refine WX.step tab_eq rfl rfl (by refine ⟨by omega, by omega, by omega, by omega⟩) ?_
  repeat (first | refine WX.step tab_eq rfl rfl trivial ?_ | refine WX.step tab_eq rfl rfl (by decide) ?_ | refine WX.nil ?_ | refine W.seq ?_ | refine W.region ?_ | refine W.regionD ?_ | refine W.block ?_ | refine W.skip ?_ | refine W.exit ?_ | refine W.ret ?_ | refine W.condT rfl ?_ | refine W.condF rfl ?_ | refine WX.skip rfl ?_)
  rw [Int.toNat_natCast]
  refine W.loop (fun e m => ∃ (r i : Nat) (out : Bs), e = [(0, .str x), (1, .str y), (6, .own (0, 0) 1 (bytesPV out)), (7, .str (dec r)), (8, .int .i64 i)] ∧
    i ≤ x.length ∧ out.length = x.length ∧ (out.take i).all isDg = true ∧ val (out.take i) = val (x.take i) / b ∧ r = val (x.take i) % b ∧ m = x.length - i) x.length ?_ ?_ ?_
  · refine ⟨0, 0, List.replicate x.length 0, ?_, by omega, by simp, rfl, ?_, ?_, by omega⟩
    · rw [← bytes_rep, dec_zero]; rfl
    · simp [val_nil]
    · simp [val_nil]
  · show _ < 4611686018427387904; omega
  · rintro e m ⟨r, i, out, rfl, hi, hlen, hd, hv, hr, rfl⟩
    repeat (first | refine WX.step tab_eq rfl rfl trivial ?_ | refine WX.step tab_eq rfl rfl (by decide) ?_ | refine WX.nil ?_ | refine W.seq ?_ | refine W.region ?_ | refine W.regionD ?_ | refine W.block ?_ | refine W.skip ?_ | refine W.exit ?_ | refine W.ret ?_ | refine W.condT rfl ?_ | refine W.condF rfl ?_ | refine WX.skip rfl ?_)
    refine W.cond rfl (fun hlt => ?_) (fun hlt => ?_)
    · have hlt := of_decide_eq_true hlt
      have hrb : r < b := hr ▸ Nat.mod_lt _ hb0
      have hdr := dec_len_mono (Nat.le_of_lt hrb)
      rw [hy] at hdr
      have hc := getD_dg (i := i) da (by omega)
      have hvt := val_take1 (s := x) (i := i) (by omega)
      have ht1 := take_one (s := x) (i := i) (by omega)
      have hcl := dv_lt hc
      repeat (first | refine WX.step tab_eq rfl rfl trivial ?_ | refine WX.step tab_eq rfl rfl (by decide) ?_ | refine WX.nil ?_ | refine W.seq ?_ | refine W.region ?_ | refine W.regionD ?_ | refine W.block ?_ | refine W.skip ?_ | refine W.exit ?_ | refine W.ret ?_ | refine W.condT rfl ?_ | refine W.condF rfl ?_ | refine WX.skip rfl ?_)
      rw [wrap_i64 (x := (i : Int) + 1) (by omega) (by omega)]
      refine WX.step tab_eq rfl rfl (by refine ⟨by omega, by omega, by omega⟩) ?_
      repeat (first | refine WX.step tab_eq rfl rfl trivial ?_ | refine WX.step tab_eq rfl rfl (by decide) ?_ | refine WX.nil ?_ | refine W.seq ?_ | refine W.region ?_ | refine W.regionD ?_ | refine W.block ?_ | refine W.skip ?_ | refine W.exit ?_ | refine W.ret ?_ | refine W.condT rfl ?_ | refine W.condF rfl ?_ | refine WX.skip rfl ?_)
      rw [Int.toNat_natCast, show ((i : Int) + 1).toNat - i = 1 by omega, ht1]
      generalize x.getD i 0 = c at *
      refine WX.step tab_eq rfl rfl (by simp only [List.length_singleton]; omega) ?_
      repeat (first | refine WX.step tab_eq rfl rfl trivial ?_ | refine WX.step tab_eq rfl rfl (by decide) ?_ | refine WX.nil ?_ | refine W.seq ?_ | refine W.region ?_ | refine W.regionD ?_ | refine W.block ?_ | refine W.skip ?_ | refine W.exit ?_ | refine W.ret ?_ | refine W.condT rfl ?_ | refine W.condF rfl ?_ | refine WX.skip rfl ?_)
      refine WX.call tab_eq rfl rfl rfl rfl rfl (rtrim_T (k := k + 1) (dec r ++ [c]) (by rw [List.all_append, dec_all]; simp [hc]) (by simp) (by simp only [List.length_append, List.length_singleton]; omega)) rfl rfl ?_
      repeat (first | refine WX.step tab_eq rfl rfl trivial ?_ | refine WX.step tab_eq rfl rfl (by decide) ?_ | refine WX.nil ?_ | refine W.seq ?_ | refine W.region ?_ | refine W.regionD ?_ | refine W.block ?_ | refine W.skip ?_ | refine W.exit ?_ | refine W.ret ?_ | refine W.condT rfl ?_ | refine W.condF rfl ?_ | refine WX.skip rfl ?_)
      rw [val_snoc, val_dec]
      have hR : r * 10 + dv c < 10 * b := by omega
      generalize hRe : r * 10 + dv c = R at *
      refine W.loop (fun e m => ∃ (r2 q : Nat), e = [(0, .str x), (1, .str y), (6, .own (0, 0) 1 (bytesPV out)), (7, .str (dec r2)), (8, .int .i64 i), (9, .int .u8 (48 + q : Nat))] ∧ r2 + q * b = R ∧ m = 10 - q) 10 ?_ ?_ ?_
      · exact ⟨R, 0, rfl, by omega, rfl⟩
      · show _ < 4611686018427387904; omega
      · rintro e m ⟨r2, q, rfl, hq, rfl⟩
        have hq9 : q ≤ 9 := by
          apply Nat.le_of_not_lt
          intro h
          have : 10 * b ≤ q * b := Nat.mul_le_mul_right _ h
          omega
        repeat (first | refine WX.step tab_eq rfl rfl trivial ?_ | refine WX.step tab_eq rfl rfl (by decide) ?_ | refine WX.nil ?_ | refine W.seq ?_ | refine W.region ?_ | refine W.regionD ?_ | refine W.block ?_ | refine W.skip ?_ | refine W.exit ?_ | refine W.ret ?_ | refine W.condT rfl ?_ | refine W.condF rfl ?_ | refine WX.skip rfl ?_)
        rw [← hy]
        refine WX.call tab_eq rfl rfl rfl rfl rfl (cmpMag_T (k := k + 1) r2 b) rfl rfl ?_
        repeat (first | refine WX.step tab_eq rfl rfl trivial ?_ | refine WX.step tab_eq rfl rfl (by decide) ?_ | refine WX.nil ?_ | refine W.seq ?_ | refine W.region ?_ | refine W.regionD ?_ | refine W.block ?_ | refine W.skip ?_ | refine W.exit ?_ | refine W.ret ?_ | refine W.condT rfl ?_ | refine W.condF rfl ?_ | refine WX.skip rfl ?_)
        refine W.cond rfl (fun hlt2 => ?_) (fun hlt2 => ?_)
        · have hlt2 := of_decide_eq_true hlt2
          have hge : b ≤ r2 := by
            rcases Nat.lt_or_ge r2 b with h | h
            · rw [if_pos h] at hlt2; omega
            · exact h
          have hq9' : q ≤ 8 := by
            apply Nat.le_of_not_lt
            intro h
            have : 9 * b ≤ q * b := Nat.mul_le_mul_right _ h
            omega
          have hlr : (dec r2).length < 1073741824 := by
            have h1 := dec_lt_pow r
            have h2 : R < 10 ^ ((dec r).length + 1) := by rw [Nat.pow_succ]; omega
            have h3 := dec_len_le (n := r2) (k := (dec r).length + 1) (by omega) (by omega)
            omega
          repeat (first | refine WX.step tab_eq rfl rfl trivial ?_ | refine WX.step tab_eq rfl rfl (by decide) ?_ | refine WX.nil ?_ | refine W.seq ?_ | refine W.region ?_ | refine W.regionD ?_ | refine W.block ?_ | refine W.skip ?_ | refine W.exit ?_ | refine W.ret ?_ | refine W.condT rfl ?_ | refine W.condF rfl ?_ | refine WX.skip rfl ?_)
          refine WX.call tab_eq rfl rfl rfl rfl rfl (subMag_T (k := k) r2 b hge hlr) rfl rfl ?_
          repeat (first | refine WX.step tab_eq rfl rfl trivial ?_ | refine WX.step tab_eq rfl rfl (by decide) ?_ | refine WX.nil ?_ | refine W.seq ?_ | refine W.region ?_ | refine W.regionD ?_ | refine W.block ?_ | refine W.skip ?_ | refine W.exit ?_ | refine W.ret ?_ | refine W.condT rfl ?_ | refine W.condF rfl ?_ | refine WX.skip rfl ?_)
          rw [wrap_u8 (x := ((48 + q : Nat) : Int) + 1) (by omega) (by omega)]
          show ∃ m', _
          refine ⟨10 - (q + 1), by omega, r2 - b, q + 1, ?_, ?_, rfl⟩
          · rw [hy]; rfl
          · rw [Nat.add_mul]; omega
        · have hlt2 := of_decide_eq_false hlt2
          have hlt3 : r2 < b := by
            rcases Nat.lt_or_ge r2 b with h | h
            · exact h
            · rw [if_neg (by omega)] at hlt2; split at hlt2 <;> omega
          have hq1 : q = R / b := by
            rw [← hq, Nat.add_mul_div_right _ _ hb0, Nat.div_eq_of_lt hlt3, Nat.zero_add]
          have hr1 : r2 = R % b := by
            rw [← hq, Nat.add_mul_mod_self_right, Nat.mod_eq_of_lt hlt3]
          repeat (first | refine WX.step tab_eq rfl rfl trivial ?_ | refine WX.step tab_eq rfl rfl (by decide) ?_ | refine WX.nil ?_ | refine W.seq ?_ | refine W.region ?_ | refine W.regionD ?_ | refine W.block ?_ | refine W.skip ?_ | refine W.exit ?_ | refine W.ret ?_ | refine W.condT rfl ?_ | refine W.condF rfl ?_ | refine WX.skip rfl ?_)
          rw [ofNat48 (show q < 10 by omega)]
          refine WX.step tab_eq rfl rfl (by rw [bytes_len]; omega) ?_
          rw [show 0 + ((i : Int)).toNat = i by omega]
          refine WX.stElem tab_eq rfl rfl rfl (bytes_get (s := out) (i := i) (by omega)) rfl rfl rfl ?_
          repeat (first | refine WX.step tab_eq rfl rfl trivial ?_ | refine WX.step tab_eq rfl rfl (by decide) ?_ | refine WX.nil ?_ | refine W.seq ?_ | refine W.region ?_ | refine W.regionD ?_ | refine W.block ?_ | refine W.skip ?_ | refine W.exit ?_ | refine W.ret ?_ | refine W.condT rfl ?_ | refine W.condF rfl ?_ | refine WX.skip rfl ?_)
          rw [bytes_set, wrap_i64 (x := (i : Int) + 1) (by omega) (by omega)]
          show ∃ m', _
          have hdm := Nat.div_add_mod (val (x.take i)) b
          have hA : val (x.take (i + 1)) = R + b * (10 * (val (x.take i) / b)) := by
            rw [hvt, ← hRe, hr]
            have : b * (10 * (val (x.take i) / b)) = 10 * (b * (val (x.take i) / b)) := Nat.mul_left_comm ..
            omega
          refine ⟨x.length - (i + 1), by omega, r2, i + 1, out.set i (UInt8.ofNat (48 + q)), ?_, by omega, by simp [hlen], ?_, ?_, ?_, rfl⟩
          · rw [hy]; rfl
          · rw [take_set _ (by omega), List.all_append, hd, List.all_cons, dg_isDg (show q < 10 by omega)]; rfl
          · rw [take_set _ (by omega), val_snoc, dg_dv (by omega), hA, Nat.add_mul_div_left _ _ hb0, hv, hq1]; omega
          · rw [hA, Nat.add_mul_mod_self_left]; exact hr1
    · have hlt := of_decide_eq_false hlt
      have hie : i = x.length := by omega
      subst hie
      rw [List.take_length, va] at hv hr
      rw [← hlen, List.take_length] at hd
      rw [← hlen, List.take_length] at hv
      repeat (first | refine WX.step tab_eq rfl rfl trivial ?_ | refine WX.step tab_eq rfl rfl (by decide) ?_ | refine WX.nil ?_ | refine W.seq ?_ | refine W.region ?_ | refine W.regionD ?_ | refine W.block ?_ | refine W.skip ?_ | refine W.exit ?_ | refine W.ret ?_ | refine W.condT rfl ?_ | refine W.condF rfl ?_ | refine WX.skip rfl ?_)
      refine WX.convS tab_eq rfl rfl rfl rfl rfl (by rw [List.drop_zero, List.take_length]; exact bytesOf_PV out) ?_
      repeat (first | refine WX.step tab_eq rfl rfl trivial ?_ | refine WX.step tab_eq rfl rfl (by decide) ?_ | refine WX.nil ?_ | refine W.seq ?_ | refine W.region ?_ | refine W.regionD ?_ | refine W.block ?_ | refine W.skip ?_ | refine W.exit ?_ | refine W.ret ?_ | refine W.condT rfl ?_ | refine W.condF rfl ?_ | refine WX.skip rfl ?_)
      refine WX.call tab_eq rfl rfl rfl rfl rfl (rtrim_T (k := k + 1) out hd (by rintro rfl; exact na (List.eq_nil_of_length_eq_zero hlen.symm)) (by omega)) rfl rfl ?_
      repeat (first | refine WX.step tab_eq rfl rfl trivial ?_ | refine WX.step tab_eq rfl rfl (by decide) ?_ | refine WX.nil ?_ | refine W.seq ?_ | refine W.region ?_ | refine W.regionD ?_ | refine W.block ?_ | refine W.skip ?_ | refine W.exit ?_ | refine W.ret ?_ | refine W.condT rfl ?_ | refine W.condF rfl ?_ | refine WX.skip rfl ?_)
      rw [hv, hr]
      rfl
theorem gcdMag_T (a b : Nat) (ha : (dec a).length < 536870912) (hb : (dec b).length < 536870912) :
    T (k + 4) 179 [.str (dec a), .str (dec b)] = some (.str (dec (Nat.gcd a b)), []) := by
  refine enter rfl func179 rfl (by decide) (by kernel_rfl) rfl rfl ?_
  repeat (first | refine WX.step tab_eq rfl rfl trivial ?_ | refine WX.step tab_eq rfl rfl (by decide) ?_ | refine WX.nil ?_ | refine W.seq ?_ | refine W.region ?_ | refine W.regionD ?_ | refine W.block ?_ | refine W.skip ?_ | refine W.exit ?_ | refine W.ret ?_ | refine W.condT rfl ?_ | refine W.condF rfl ?_ | refine WX.skip rfl ?_)
  refine W.loop (fun e m => ∃ (x y : Nat), e = [(0, .str (dec x)), (1, .str (dec y))] ∧ (dec x).length < 536870912 ∧ (dec y).length < 536870912 ∧ Nat.gcd x y = Nat.gcd a b ∧ m = eu x y) (eu a b) ?_ ?_ ?_
  · exact ⟨a, b, rfl, ha, hb, rfl, rfl⟩
  · have h1 : a < 2 ^ (4 * (dec a).length) := by
      have := dec_lt_pow a
      rw [Nat.pow_mul]
      exact Nat.lt_of_lt_of_le this (Nat.pow_le_pow_left (by omega) _)
    have h2 : b < 2 ^ (4 * (dec b).length) := by
      have := dec_lt_pow b
      rw [Nat.pow_mul]
      exact Nat.lt_of_lt_of_le this (Nat.pow_le_pow_left (by omega) _)
    have h3 : Nat.log2 (a * b) ≤ 4 * (dec a).length + 4 * (dec b).length := by
      by_cases h0 : a * b = 0
      · rw [h0]; show 0 ≤ _; omega
      · have h5 : a * b < 2 ^ (4 * (dec a).length + 4 * (dec b).length) := by rw [Nat.pow_add]; exact Nat.mul_lt_mul'' h1 h2
        have := (Nat.log2_lt h0).2 h5
        omega
    have h4 : eu a b ≤ 2 + 2 * Nat.log2 (a * b) := by
      unfold eu; split
      · omega
      · split <;> omega
    show _ < 4611686018427387904; omega
  · rintro e m ⟨x, y, rfl, hx, hy, hg, rfl⟩
    repeat (first | refine WX.step tab_eq rfl rfl trivial ?_ | refine WX.step tab_eq rfl rfl (by decide) ?_ | refine WX.nil ?_ | refine W.seq ?_ | refine W.region ?_ | refine W.regionD ?_ | refine W.block ?_ | refine W.skip ?_ | refine W.exit ?_ | refine W.ret ?_ | refine W.condT rfl ?_ | refine W.condF rfl ?_ | refine WX.skip rfl ?_)
    refine W.cond rfl (fun h => ?_) (fun h => ?_)
    · have h : dec y ≠ [48] := by simpa using h
      have hy0 : y ≠ 0 := by rintro rfl; exact h dec_zero
      have hlt : x % y < y := Nat.mod_lt _ (by omega)
      have hl := dec_len_mono (Nat.le_of_lt hlt)
      repeat (first | refine WX.step tab_eq rfl rfl trivial ?_ | refine WX.step tab_eq rfl rfl (by decide) ?_ | refine WX.nil ?_ | refine W.seq ?_ | refine W.region ?_ | refine W.regionD ?_ | refine W.block ?_ | refine W.skip ?_ | refine W.exit ?_ | refine W.ret ?_ | refine W.condT rfl ?_ | refine W.condF rfl ?_ | refine WX.skip rfl ?_)
      refine WX.call tab_eq rfl rfl rfl rfl rfl (divMag_T (k := k) x y (by omega) hx hy) rfl rfl ?_
      repeat (first | refine WX.step tab_eq rfl rfl trivial ?_ | refine WX.step tab_eq rfl rfl (by decide) ?_ | refine WX.nil ?_ | refine W.seq ?_ | refine W.region ?_ | refine W.regionD ?_ | refine W.block ?_ | refine W.skip ?_ | refine W.exit ?_ | refine W.ret ?_ | refine W.condT rfl ?_ | refine W.condF rfl ?_ | refine WX.skip rfl ?_)
      show ∃ m', _
      refine ⟨eu y (x % y), ?_, y, x % y, rfl, hy, by omega, ?_, rfl⟩
      · exact eu_step hy0
      · rw [← hg, Nat.gcd_comm x y, Nat.gcd_rec y x, Nat.gcd_comm]
    · have h : dec y = [48] := by simpa using h
      have hy0 : y = 0 := by rw [← dec_zero] at h; exact dec_inj h
      subst hy0
      repeat (first | refine WX.step tab_eq rfl rfl trivial ?_ | refine WX.step tab_eq rfl rfl (by decide) ?_ | refine WX.nil ?_ | refine W.seq ?_ | refine W.region ?_ | refine W.regionD ?_ | refine W.block ?_ | refine W.skip ?_ | refine W.exit ?_ | refine W.ret ?_ | refine W.condT rfl ?_ | refine W.condF rfl ?_ | refine WX.skip rfl ?_)
      rw [← hg, Nat.gcd_zero_right]
      rfl
theorem rreduce_T (neg : Bool) (n d : Nat) (hd : d ≠ 0) (hnl : (dec n).length < 536870912) (hdl : (dec d).length < 536870912) :
    T (k + 5) 97 [.bool neg, .str (dec n), .str (dec d)] = some (.agg [.bool (neg && decide (n ≠ 0)), .str (dec (n / n.gcd d)), .str (dec (d / n.gcd d))], []) := by
  have hg : 0 < n.gcd d := Nat.gcd_pos_of_pos_right n (by omega)
  have hgl := dec_len_mono (Nat.gcd_le_right n (show 0 < d by omega))
  have hz : dec (n / n.gcd d) = [48] ↔ n = 0 := by
    rw [← dec_zero]
    constructor
    · intro h
      have := dec_inj h
      have h2 := Nat.div_mul_cancel (Nat.gcd_dvd_left n d)
      rw [this, Nat.zero_mul] at h2; exact h2.symm
    · rintro rfl; rw [Nat.zero_div]
  refine enter rfl func97 rfl (by decide) (by kernel_rfl) rfl rfl ?_
  repeat (first | refine WX.step tab_eq rfl rfl trivial ?_ | refine WX.step tab_eq rfl rfl (by decide) ?_ | refine WX.nil ?_ | refine W.seq ?_ | refine W.region ?_ | refine W.regionD ?_ | refine W.block ?_ | refine W.skip ?_ | refine W.exit ?_ | refine W.ret ?_ | refine W.condT rfl ?_ | refine W.condF rfl ?_ | refine WX.skip rfl ?_)
  refine WX.call tab_eq rfl rfl rfl rfl rfl (gcdMag_T (k := k) n d hnl hdl) rfl rfl ?_
  repeat (first | refine WX.step tab_eq rfl rfl trivial ?_ | refine WX.step tab_eq rfl rfl (by decide) ?_ | refine WX.nil ?_ | refine W.seq ?_ | refine W.region ?_ | refine W.regionD ?_ | refine W.block ?_ | refine W.skip ?_ | refine W.exit ?_ | refine W.ret ?_ | refine W.condT rfl ?_ | refine W.condF rfl ?_ | refine WX.skip rfl ?_)
  refine WX.call tab_eq rfl rfl rfl rfl rfl (divMag_T (k := k + 1) n (n.gcd d) hg hnl (by omega)) rfl rfl ?_
  repeat (first | refine WX.step tab_eq rfl rfl trivial ?_ | refine WX.step tab_eq rfl rfl (by decide) ?_ | refine WX.nil ?_ | refine W.seq ?_ | refine W.region ?_ | refine W.regionD ?_ | refine W.block ?_ | refine W.skip ?_ | refine W.exit ?_ | refine W.ret ?_ | refine W.condT rfl ?_ | refine W.condF rfl ?_ | refine WX.skip rfl ?_)
  refine WX.call tab_eq rfl rfl rfl rfl rfl (divMag_T (k := k + 1) d (n.gcd d) hg hdl (by omega)) rfl rfl ?_
  repeat (first | refine WX.step tab_eq rfl rfl trivial ?_ | refine WX.step tab_eq rfl rfl (by decide) ?_ | refine WX.nil ?_ | refine W.seq ?_ | refine W.region ?_ | refine W.regionD ?_ | refine W.block ?_ | refine W.skip ?_ | refine W.exit ?_ | refine W.ret ?_ | refine W.condT rfl ?_ | refine W.condF rfl ?_ | refine WX.skip rfl ?_)
  cases neg
  · repeat (first | refine WX.step tab_eq rfl rfl trivial ?_ | refine WX.step tab_eq rfl rfl (by decide) ?_ | refine WX.nil ?_ | refine W.seq ?_ | refine W.region ?_ | refine W.regionD ?_ | refine W.block ?_ | refine W.skip ?_ | refine W.exit ?_ | refine W.ret ?_ | refine W.condT rfl ?_ | refine W.condF rfl ?_ | refine WX.skip rfl ?_)
    rfl
  · repeat (first | refine WX.step tab_eq rfl rfl trivial ?_ | refine WX.step tab_eq rfl rfl (by decide) ?_ | refine WX.nil ?_ | refine W.seq ?_ | refine W.region ?_ | refine W.regionD ?_ | refine W.block ?_ | refine W.skip ?_ | refine W.exit ?_ | refine W.ret ?_ | refine W.condT rfl ?_ | refine W.condF rfl ?_ | refine WX.skip rfl ?_)
    show some (PV.agg [.bool (decide (dec (n / n.gcd d) ≠ [48])), _, _], []) = some (PV.agg [.bool (decide (n ≠ 0)), _, _], [])
    have hz2 : decide (dec (n / n.gcd d) ≠ [48]) = decide (n ≠ 0) := decide_eq_decide.2 (not_congr hz)
    rw [hz2]
    rfl
theorem rtext_T (neg : Bool) (n d : Bs) (hnl : n.length < 1073741824) (hdl : d.length < 1073741824) :
    T (k + 1) 99 [.agg [.bool neg, .str n, .str d]] = some (.str ((if neg then [45] else []) ++ n ++ (if d = [49] then [] else 47 :: d)), []) := by
  refine enter rfl func99 rfl (by decide) (by kernel_rfl) rfl rfl ?_
  repeat (first | refine WX.step tab_eq rfl rfl trivial ?_ | refine WX.step tab_eq rfl rfl (by decide) ?_ | refine WX.nil ?_ | refine W.seq ?_ | refine W.region ?_ | refine W.regionD ?_ | refine W.block ?_ | refine W.skip ?_ | refine W.exit ?_ | refine W.ret ?_ | refine W.condT rfl ?_ | refine W.condF rfl ?_ | refine WX.skip rfl ?_)
  cases neg
  · repeat (first | refine WX.step tab_eq rfl rfl trivial ?_ | refine WX.step tab_eq rfl rfl (by decide) ?_ | refine WX.nil ?_ | refine W.seq ?_ | refine W.region ?_ | refine W.regionD ?_ | refine W.block ?_ | refine W.skip ?_ | refine W.exit ?_ | refine W.ret ?_ | refine W.condT rfl ?_ | refine W.condF rfl ?_ | refine WX.skip rfl ?_)
    refine W.cond rfl (fun b1 => ?_) (fun b1 => ?_)
    · have b1 : d ≠ [49] := by simpa using b1
      repeat (first | refine WX.step tab_eq rfl rfl trivial ?_ | refine WX.step tab_eq rfl rfl (by decide) ?_ | refine WX.nil ?_ | refine W.seq ?_ | refine W.region ?_ | refine W.regionD ?_ | refine W.block ?_ | refine W.skip ?_ | refine W.exit ?_ | refine W.ret ?_ | refine W.condT rfl ?_ | refine W.condF rfl ?_ | refine WX.skip rfl ?_)
      refine WX.step tab_eq rfl rfl (by simp; omega) ?_
      repeat (first | refine WX.step tab_eq rfl rfl trivial ?_ | refine WX.step tab_eq rfl rfl (by decide) ?_ | refine WX.nil ?_ | refine W.seq ?_ | refine W.region ?_ | refine W.regionD ?_ | refine W.block ?_ | refine W.skip ?_ | refine W.exit ?_ | refine W.ret ?_ | refine W.condT rfl ?_ | refine W.condF rfl ?_ | refine WX.skip rfl ?_)
      refine WX.step tab_eq rfl rfl (by simp; omega) ?_
      repeat (first | refine WX.step tab_eq rfl rfl trivial ?_ | refine WX.step tab_eq rfl rfl (by decide) ?_ | refine WX.nil ?_ | refine W.seq ?_ | refine W.region ?_ | refine W.regionD ?_ | refine W.block ?_ | refine W.skip ?_ | refine W.exit ?_ | refine W.ret ?_ | refine W.condT rfl ?_ | refine W.condF rfl ?_ | refine WX.skip rfl ?_)
      rw [if_neg b1]
      rfl
    · have b1 : d = [49] := by simpa using b1
      repeat (first | refine WX.step tab_eq rfl rfl trivial ?_ | refine WX.step tab_eq rfl rfl (by decide) ?_ | refine WX.nil ?_ | refine W.seq ?_ | refine W.region ?_ | refine W.regionD ?_ | refine W.block ?_ | refine W.skip ?_ | refine W.exit ?_ | refine W.ret ?_ | refine W.condT rfl ?_ | refine W.condF rfl ?_ | refine WX.skip rfl ?_)
      rw [if_pos b1, List.append_nil]
      rfl
  · repeat (first | refine WX.step tab_eq rfl rfl trivial ?_ | refine WX.step tab_eq rfl rfl (by decide) ?_ | refine WX.nil ?_ | refine W.seq ?_ | refine W.region ?_ | refine W.regionD ?_ | refine W.block ?_ | refine W.skip ?_ | refine W.exit ?_ | refine W.ret ?_ | refine W.condT rfl ?_ | refine W.condF rfl ?_ | refine WX.skip rfl ?_)
    refine WX.step tab_eq rfl rfl (by simp; omega) ?_
    repeat (first | refine WX.step tab_eq rfl rfl trivial ?_ | refine WX.step tab_eq rfl rfl (by decide) ?_ | refine WX.nil ?_ | refine W.seq ?_ | refine W.region ?_ | refine W.regionD ?_ | refine W.block ?_ | refine W.skip ?_ | refine W.exit ?_ | refine W.ret ?_ | refine W.condT rfl ?_ | refine W.condF rfl ?_ | refine WX.skip rfl ?_)
    refine W.cond rfl (fun b1 => ?_) (fun b1 => ?_)
    · have b1 : d ≠ [49] := by simpa using b1
      repeat (first | refine WX.step tab_eq rfl rfl trivial ?_ | refine WX.step tab_eq rfl rfl (by decide) ?_ | refine WX.nil ?_ | refine W.seq ?_ | refine W.region ?_ | refine W.regionD ?_ | refine W.block ?_ | refine W.skip ?_ | refine W.exit ?_ | refine W.ret ?_ | refine W.condT rfl ?_ | refine W.condF rfl ?_ | refine WX.skip rfl ?_)
      refine WX.step tab_eq rfl rfl (by simp; omega) ?_
      repeat (first | refine WX.step tab_eq rfl rfl trivial ?_ | refine WX.step tab_eq rfl rfl (by decide) ?_ | refine WX.nil ?_ | refine W.seq ?_ | refine W.region ?_ | refine W.regionD ?_ | refine W.block ?_ | refine W.skip ?_ | refine W.exit ?_ | refine W.ret ?_ | refine W.condT rfl ?_ | refine W.condF rfl ?_ | refine WX.skip rfl ?_)
      refine WX.step tab_eq rfl rfl (by simp; omega) ?_
      repeat (first | refine WX.step tab_eq rfl rfl trivial ?_ | refine WX.step tab_eq rfl rfl (by decide) ?_ | refine WX.nil ?_ | refine W.seq ?_ | refine W.region ?_ | refine W.regionD ?_ | refine W.block ?_ | refine W.skip ?_ | refine W.exit ?_ | refine W.ret ?_ | refine W.condT rfl ?_ | refine W.condF rfl ?_ | refine WX.skip rfl ?_)
      rw [if_neg b1]
      rfl
    · have b1 : d = [49] := by simpa using b1
      repeat (first | refine WX.step tab_eq rfl rfl trivial ?_ | refine WX.step tab_eq rfl rfl (by decide) ?_ | refine WX.nil ?_ | refine W.seq ?_ | refine W.region ?_ | refine W.regionD ?_ | refine W.block ?_ | refine W.skip ?_ | refine W.exit ?_ | refine W.ret ?_ | refine W.condT rfl ?_ | refine W.condF rfl ?_ | refine WX.skip rfl ?_)
      rw [if_pos b1, List.append_nil]
      rfl
end Go.PE
