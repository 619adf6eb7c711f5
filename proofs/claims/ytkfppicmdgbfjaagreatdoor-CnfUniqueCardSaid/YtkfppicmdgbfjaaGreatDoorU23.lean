/-
  A part of the proof that the law's function returns true and leaves its arguments as they were, for every input (no condition): own lemmas of the proof, in the order of their use.
-/
import Derived.Test.YtkfppicmdgbfjaaGreatDoorU21
set_option linter.all false
namespace Go.PE
open Go.RowKit Go.Proofs.Tryz
set_option maxRecDepth 100000
variable {k : Nat}
/-- A measure for Euclid's algorithm. -/
def eu (a b : Nat) : Nat := if b = 0 then 0 else 1 + 2 * Nat.log2 (a * b) + (if a < b then 1 else 0)
theorem log2_half {x y : Nat} (hx : x ≠ 0) (h : 2 * x ≤ y) : Nat.log2 x < Nat.log2 y := by
  have h1 : 2 ^ Nat.log2 x ≤ x := Nat.log2_self_le hx
  have h2 : 2 ^ (Nat.log2 x + 1) ≤ y := by rw [Nat.pow_succ]; omega
  exact (Nat.le_log2 (by omega)).2 h2
theorem eu_step {a b : Nat} (hb : b ≠ 0) : eu b (a % b) < eu a b := by
  have hlt := Nat.mod_lt a (show 0 < b by omega)
  unfold eu
  rw [if_neg hb]
  by_cases hr : a % b = 0
  · rw [if_pos hr]; omega
  · rw [if_neg hr]
    rw [if_neg (show ¬ b < a % b by omega)]
    by_cases hab : a < b
    · rw [if_pos hab, Nat.mod_eq_of_lt hab, Nat.mul_comm b a]; omega
    · rw [if_neg hab]
      have h1 : 2 * (a % b) ≤ a := by
        have := Nat.div_add_mod a b
        have h2 : 1 ≤ a / b := Nat.div_pos (by omega) (by omega)
        have := Nat.mul_le_mul_left b h2
        omega
      have : Nat.log2 (b * (a % b)) < Nat.log2 (a * b) := log2_half (Nat.mul_ne_zero hb hr) (by
        have := Nat.mul_le_mul_left b h1
        rw [Nat.mul_comm a b]
        have e : 2 * (b * (a % b)) = b * (2 * (a % b)) := by rw [Nat.mul_left_comm]
        omega)
      omega
theorem log2_lt_ln (a : Nat) : Nat.log2 a ≤ 30 * ln a := by
  by_cases h : a = 0
  · subst h; simp
  · have h1 : a < 2 ^ (30 * ln a + 1) := by
      refine Nat.lt_of_lt_of_le (lt_ln a) ?_
      have h2 : (1000000000 : Nat) ^ ln a ≤ (2 ^ 30) ^ ln a := Nat.pow_le_pow_left (by omega) _
      rw [← Nat.pow_mul] at h2
      rw [Nat.pow_succ]
      omega
    have := (Nat.log2_lt h).2 h1
    omega
theorem gcd_T (a b : Nat) (ha : ln a < 16777216) (hb : ln b < 16777216) : T (k + 4) 168 [.imm 1 (row (limbs a)), .imm 1 (row (limbs b))] = some (.imm 1 (row (limbs (Nat.gcd a b))), []) := by
  refine enter rfl func168 rfl (by decide) (by kernel_rfl) rfl rfl ?_
  refine zs0 ?_
  refine W.loop (fun e m => ∃ (x y : Nat), e = [(0, .imm 1 (row (limbs x))), (1, .imm 1 (row (limbs y)))] ∧ ln x < 16777216 ∧ ln y < 16777216 ∧ Nat.gcd x y = Nat.gcd a b ∧ m = eu x y) (eu a b) ?_ ?_ ?_
  · exact ⟨a, b, rfl, ha, hb, rfl, rfl⟩
  · have h1 := log2_lt_ln (a * b)
    have h2 := ln_mul a b
    have h3 : eu a b ≤ 2 + 2 * Nat.log2 (a * b) := by
      unfold eu; split
      · omega
      · split <;> omega
    show _ < 4611686018427387904; omega
  · rintro e m ⟨x, y, rfl, hx, hy, hg, rfl⟩
    refine zs0 ?_
    refine W.cond rfl (fun hc => ?_) (fun hc => ?_)
    · have hc := of_decide_eq_true hc
      rw [row_len] at hc
      have hy0 : y ≠ 0 := by
        rintro rfl
        rw [limbs_zero] at hc
        simp at hc
      refine zs1 (quoRem_T x y hx hy hy0) ?_
      show ∃ m', _
      refine ⟨eu y (x % y), eu_step hy0, y, x % y, rfl, hy, ?_, ?_, rfl⟩
      · have := ln_mono (Nat.mod_le x y); omega
      · rw [Nat.gcd_comm, ← Nat.gcd_rec, Nat.gcd_comm]; exact hg
    · have hc := of_decide_eq_false hc
      rw [row_len] at hc
      have hy0 : y = 0 := by
        have : (limbs y).length = 0 := by omega
        exact limbs_eq_nil.1 (List.length_eq_zero_iff.1 this)
      subst hy0
      refine zs0 ?_
      rw [← hg, Nat.gcd_zero_right]
      rfl
theorem divisor_T (a b : Nat) (ha : a < 4611686018427387904) (hb : b < 4611686018427387904) : T (k + 1) 166 [.int .i64 a, .int .i64 b] = some (.int .i64 (Nat.gcd a b : Nat), []) := by
  refine enter rfl func166 rfl (by decide) (by kernel_rfl) rfl rfl ?_
  refine zs0 ?_
  refine W.loop (fun e m => ∃ (x y : Nat), e = [(0, .int .i64 x), (1, .int .i64 y)] ∧ Nat.gcd x y = Nat.gcd a b ∧ m = y) b ?_ ?_ ?_
  · exact ⟨a, b, rfl, rfl, rfl⟩
  · show _ < 4611686018427387904; omega
  · rintro e m ⟨x, y, rfl, hg, rfl⟩
    refine zs0 ?_
    refine W.cond rfl (fun hc => ?_) (fun hc => ?_)
    · have hc := of_decide_eq_true hc
      have hy0 : m ≠ 0 := by
        have : (m : Int) ≠ 0 := hc
        omega
      refine zd8 ?_
      refine wD te rfl rfl (by omega) ?_
      rw [tmodN]
      refine zd7 ?_
      show ∃ m', _
      refine ⟨x % m, Nat.mod_lt _ (by omega), m, x % m, rfl, ?_, rfl⟩
      rw [Nat.gcd_comm, ← Nat.gcd_rec, Nat.gcd_comm]; exact hg
    · have hc := of_decide_eq_false hc
      have hy0 : m = 0 := by
        have : ¬ (m : Int) ≠ 0 := hc
        omega
      subst hy0
      refine zs0 ?_
      rw [← hg, Nat.gcd_zero_right]
      rfl
end Go.PE
namespace Go.PE
open Go.RowKit Go.Proofs.Tryz
set_option maxRecDepth 100000
variable {k : Nat}
theorem hasPrefix_T (s p : Bs) (hp : p.length < 4611686018427387904) : T (k + 1) 195 [.str s, .str p] = some (.bool (decide (p.length ≤ s.length) && decide (s.take p.length = p)), []) := by
  refine enter rfl func195 rfl (by decide) (by kernel_rfl) rfl rfl ?_
  refine zs0 ?_
  refine WX.boolM rfl rfl (fun hb => ?_) (fun hb => ?_)
  · have hb := of_decide_eq_true hb
    have hb' : p.length ≤ s.length := by omega
    refine zs0 ?_
    refine wS te rfl rfl (by omega) ?_
    refine zs0 ?_
    rw [decide_eq_true hb', Int.toNat_natCast]
    rfl
  · have hb := of_decide_eq_false hb
    have hb' : ¬ p.length ≤ s.length := by omega
    refine zs0 ?_
    rw [decide_eq_false hb']
    rfl
theorem cutPrefix1_T (s : Bs) : T (k + 2) 163 [.str s, .str [45]] = some (.tup [.str (cutM s).1, .bool (cutM s).2], []) := by
  have hh := hasPrefix_T (k := k) s [45] (by simp)
  refine enter rfl func163 rfl (by decide) (by kernel_rfl) rfl rfl ?_
  refine zs1 hh ?_
  refine W.cond rfl (fun hc => ?_) (fun hc => ?_)
  · have hc : (cutM s) = (s, false) := by
      unfold cutM
      split
      · rename_i c t
        split
        · rename_i h; subst h; simp at hc
        · rfl
      · rfl
    refine zs0 ?_
    rw [hc]
    rfl
  · have hc : s = 45 :: (cutM s).1 ∧ (cutM s).2 = true := by
      unfold cutM
      split
      · rename_i c t
        split
        · rename_i h; subst h; exact ⟨rfl, rfl⟩
        · rename_i h; exfalso; simp at hc; exact h hc
      · simp at hc
    refine zs0 ?_
    refine wS te rfl rfl (by rw [hc.1]; simp; omega) ?_
    refine zs0 ?_
    rw [hc.2]
    have : List.drop (1 : Int).toNat s = (cutM s).1 := by
      conv => lhs; rw [hc.1]
      rfl
    rw [← this]
    rfl
theorem cutPrefix_T (s : Bs) : T (k + 3) 138 [.str s, .str [45]] = some (.tup [.str (cutM s).1, .bool (cutM s).2], []) := by
  refine enter rfl func138 rfl (by decide) (by kernel_rfl) rfl rfl ?_
  refine zs1 (cutPrefix1_T s) ?_
  rfl
theorem ib_ge (s : Bs) (c : UInt8) : -1 ≤ Lib.indexByte s c ∧ Lib.indexByte s c < s.length := by
  induction s with
  | nil => simp [Lib.indexByte]
  | cons b l ih =>
    rw [Lib.indexByte]
    split
    · simp <;> omega
    · split
      · simp <;> omega
      · simp <;> omega
theorem ib_cut (s : Bs) : cutS s = if Lib.indexByte s 47 = -1 then (s, [], false) else (s.take (Lib.indexByte s 47).toNat, s.drop ((Lib.indexByte s 47).toNat + 1), true) := by
  induction s with
  | nil => rfl
  | cons b l ih =>
    rw [cutS, Lib.indexByte]
    by_cases h : b = 47
    · subst h; simp
    · have hb : (b == 47) = false := by simpa using h
      rw [if_neg h, hb, ih]
      have := ib_ge l 47
      by_cases h1 : Lib.indexByte l 47 = -1
      · simp [h1]
      · have h2 : (Lib.indexByte l 47 == -1) = false := by simpa using h1
        simp only [if_neg h1, h2, Bool.false_eq_true, if_false]
        rw [if_neg (by omega), show (Lib.indexByte l 47 + 1).toNat = (Lib.indexByte l 47).toNat + 1 by omega]
        simp
theorem indexByte_T (s : Bs) (c : UInt8) : T (k + 1) 235 [.str s, .int .u8 c.toNat] = some (.int .i64 (Lib.indexByte s c), []) := by
  refine enter rfl func235 rfl (by decide) (by kernel_rfl) rfl rfl ?_
  refine zs0 ?_
  have : T k 253 [.str s, .int .u8 (c.toNat : Nat)] = some (.int .i64 (Lib.indexByte s c), []) := by
    refine byX ?_
    show indexByteF [.str s, .int .u8 (c.toNat : Nat)] = _
    simp only [indexByteF]
    have : ((c.toNat : Nat) : Int).toNat.toUInt8 = c := by
      rw [Int.toNat_natCast]; exact UInt8.ofNat_toNat
    rw [this]
  refine zs2 this ?_
  rfl
theorem index_T (s : Bs) : T (k + 2) 218 [.str s, .str [47]] = some (.int .i64 (Lib.indexByte s 47), []) := by
  refine enter rfl func218 rfl (by decide) (by kernel_rfl) rfl rfl ?_
  refine zs0 ?_
  refine W.cond rfl (fun hc => ?_) (fun hc => ?_)
  · have hc : ([47] : Bs) = s := of_decide_eq_true hc
    subst hc
    refine zs0 ?_
    rfl
  · refine zs1 (indexByte_T s 47) ?_
    rfl
theorem cut1_T (s : Bs) (hs : s.length < 4611686018427387904) : T (k + 3) 196 [.str s, .str [47]] = some (.tup [.str (cutS s).1, .str (cutS s).2.1, .bool (cutS s).2.2], []) := by
  have hib := ib_ge s 47
  have hcut := ib_cut s
  refine enter rfl func196 rfl (by decide) (by kernel_rfl) rfl rfl ?_
  refine zs1 (index_T s) ?_
  generalize Lib.indexByte s 47 = i at *
  refine W.cond rfl (fun hc => ?_) (fun hc => ?_)
  · have hc := of_decide_eq_true hc
    rw [if_neg (by omega)] at hcut
    refine zd8 ?_
    refine wD te rfl rfl (by omega) ?_
    refine zd0 ?_
    rw [wrap_i64 (by simp; omega) (by simp; omega)]
    refine wD te rfl rfl (by simp; omega) ?_
    refine zd7 ?_
    rw [hcut, show (i.toNat + 1) = (i + ([47] : Bs).length).toNat by simp; omega]
    rfl
  · have hc := of_decide_eq_false hc
    rw [if_pos (by omega)] at hcut
    refine zs0 ?_
    rw [hcut]
    rfl
theorem cut_T (s : Bs) (hs : s.length < 4611686018427387904) : T (k + 4) 164 [.str s, .str [47]] = some (.tup [.str (cutS s).1, .str (cutS s).2.1, .bool (cutS s).2.2], []) := by
  refine enter rfl func164 rfl (by decide) (by kernel_rfl) rfl rfl ?_
  refine zs1 (cut1_T s hs) ?_
  rfl
theorem numeral_T (s : Bs) (hs : s.length < 4611686018427387904) : T (k + 1) 139 [.str s] = some (.bool (numeral s), []) := by
  refine enter rfl func139 rfl (by decide) (by kernel_rfl) rfl rfl ?_
  refine zs0 ?_
  refine wS te rfl rfl (by omega) ?_
  refine zs0 ?_
  rw [bytes_len]
  refine W.loop (fun e m => ∃ (i : Nat), e = [(0, .str s), (6, .imm 1 (bytesPV s)), (7, .int .i64 s.length), (8, .int .i64 i)] ∧ i ≤ s.length ∧ (s.take i).all isDg = true ∧ m = s.length - i) s.length ?_ ?_ ?_
  · exact ⟨0, rfl, by omega, rfl, by omega⟩
  · show _ < 4611686018427387904; omega
  · rintro e m ⟨i, rfl, hi, hd, rfl⟩
    refine zs0 ?_
    refine W.cond rfl (fun hlt => ?_) (fun hlt => ?_)
    · have hlt := of_decide_eq_true hlt
      have hg := bytes_get (s := s) (i := i) (by omega)
      have htk : s.take (i + 1) = s.take i ++ [s.getD i 0] := by
        rw [List.take_succ_eq_append_getElem (by omega)]
        simp [List.getD, List.getElem?_eq_getElem (show i < s.length by omega)]
      have hbad : isDg (s.getD i 0) = false → numeral s = false := by
        intro h
        unfold numeral
        have : s.all isDg = false := by
          have hc : [s.getD i 0].all isDg = false := by
            show (isDg (s.getD i 0) && true) = false
            rw [h]; rfl
          conv => lhs; rw [← List.take_append_drop (i + 1) s]
          rw [List.all_append, htk, List.all_append, hc, Bool.and_false, Bool.false_and]
        rw [this, Bool.false_and]
      have hdg : isDg (s.getD i 0) = (decide (48 ≤ (s.getD i 0).toNat) && decide ((s.getD i 0).toNat ≤ 57)) := rfl
      have hgood : isDg (s.getD i 0) = true → (s.take (i + 1)).all isDg = true := by
        intro h
        rw [htk, List.all_append, hd]
        show (true && (isDg (s.getD i 0) && true)) = true
        rw [h]; rfl
      generalize s.getD i 0 = c at *
      refine zs0 ?_
      refine wI te rfl rfl rfl rfl rfl rfl (by omega) (hg) ?_
      refine zs0 ?_
      refine WX.boolM rfl rfl (fun hb => ?_) (fun hb => ?_)
      · have hb := of_decide_eq_true hb
        have hz : numeral s = false := hbad (by rw [hdg, decide_eq_false (by omega), Bool.false_and])
        refine zs0 ?_
        rw [hz]
        rfl
      · have hb := of_decide_eq_false hb
        refine zs0 ?_
        refine W.cond rfl (fun hb2 => ?_) (fun hb2 => ?_)
        · have hb2 := of_decide_eq_true hb2
          have hz : numeral s = false := hbad (by rw [hdg, decide_eq_false (p := c.toNat ≤ 57) (by omega), Bool.and_false])
          refine zs0 ?_
          rw [hz]
          rfl
        · have hb2 := of_decide_eq_false hb2
          have hz := hgood (by rw [hdg, decide_eq_true (by omega), decide_eq_true (by omega)]; rfl)
          refine zs0 ?_
          rw [wrap_i64 (x := (i : Int) + 1) (by omega) (by omega)]
          show ∃ m', _
          exact ⟨s.length - (i + 1), by omega, i + 1, rfl, by omega, hz, rfl⟩
    · have hlt := of_decide_eq_false hlt
      have hie : i = s.length := by omega
      subst hie
      rw [List.take_length] at hd
      refine zs0 ?_
      refine WX.boolM rfl rfl (fun hb => ?_) (fun hb => ?_)
      · have hb : s = [48] := of_decide_eq_true hb
        refine zs0 ?_
        subst hb
        rfl
      · have hb : ¬ s = [48] := of_decide_eq_false hb
        refine zs0 ?_
        refine WX.boolM rfl rfl (fun hb2 => ?_) (fun hb2 => ?_)
        · have hb2 : s ≠ [] := of_decide_eq_true hb2
          refine zs0 ?_
          refine wS te rfl rfl (by exact ⟨by omega, by have := List.length_pos_iff.2 hb2; omega⟩) ?_
          refine zs0 ?_
          have hn : numeral s = decide (((s.getD (0 : Int).toNat 0).toNat : Int) ≠ 48) := by
            unfold numeral
            rw [hd, Bool.true_and]
            obtain ⟨c, t, rfl⟩ : ∃ c t, s = c :: t := by
              cases s with
              | nil => exact absurd rfl hb2
              | cons c t => exact ⟨c, t, rfl⟩
            have e1 : ((c :: t == [48])) = false := by simpa using hb
            have e2 : ((c :: t != [])) = true := rfl
            rw [e1, e2, Bool.false_or, Bool.true_and]
            show (some c != some 48) = decide ((c.toNat : Int) ≠ 48)
            by_cases h : c = 48
            · subst h; rfl
            · have : ¬ c.toNat = 48 := fun hc => h (UInt8.toNat.inj hc)
              rw [decide_eq_true (by omega)]
              simpa using h
          rw [hn]
          rfl
        · have hb2 : ¬ s ≠ [] := of_decide_eq_false hb2
          have : s = [] := by simpa using hb2
          subst this
          refine zs0 ?_
          rfl
end Go.PE
namespace Go.PE
open Go.RowKit Go.Proofs.Tryz
set_option maxRecDepth 100000
variable {k : Nat}
theorem parseUint_T (s : Bs) (hd : s.all isDg = true) (h0 : s ≠ []) (hl : s.length ≤ 9) : T (k + 1) 219 [.str s, .int .i64 10, .int .i64 64] = some (.tup [.int .u64 (val s : Nat), .nili], []) := by
  refine enter rfl func219 rfl (by decide) (by kernel_rfl) rfl rfl ?_
  refine zs0 ?_
  refine W.cond rfl (fun hc => ?_) (fun hc => ?_)
  · exact absurd (of_decide_eq_true hc) h0
  · clear hc
    refine zs0 ?_
    refine wS te rfl rfl (by omega) ?_
    refine zs0 ?_
    refine W.loop (fun e m => ∃ (i v : Nat), e = [(1, .int .i64 10), (8, .bool false), (9, .str s), (10, .int .u64 1844674407370955162), (11, .int .u64 18446744073709551615), (12, .bool false), (13, .int .u64 v), (99, .imm 1 (bytesPV s)), (100, .int .i64 s.length), (101, .int .i64 i)] ∧
      i ≤ s.length ∧ v = val (s.take i) ∧ m = s.length - i) s.length ?_ ?_ ?_
    · refine ⟨0, 0, ?_, by omega, rfl, by omega⟩
      rw [bytes_len]
      rfl
    · show _ < 4611686018427387904; omega
    · rintro e m ⟨i, v, rfl, hi, hv, rfl⟩
      have hvl : v < 10 ^ i := by
        have := val_lt (all_take hd i)
        rw [List.length_take, Nat.min_eq_left hi] at this
        rw [hv]; exact this
      refine zs0 ?_
      refine W.cond rfl (fun hlt => ?_) (fun hlt => ?_)
      · have hlt := of_decide_eq_true hlt
        have hg := bytes_get (s := s) (i := i) (by omega)
        have hdc := isDg_nat (all_getD hd (i := i) (by omega))
        have hvl2 : v < 100000000 := Nat.lt_of_lt_of_le hvl (Nat.pow_le_pow_right (n := 10) (by omega) (show i ≤ 8 by omega))
        have hdv : dv (s.getD i 0) = (s.getD i 0).toNat - 48 := rfl
        have hts := val_take_succ (s := s) (i := i) (by omega)
        generalize (s.getD i 0).toNat = c at *
        refine zs0 ?_
        refine wI te rfl rfl rfl rfl rfl rfl (by omega) (hg) ?_
        refine zs0 ?_
        refine WX.boolM rfl rfl (fun hb => ?_) (fun hb => ?_)
        · have hb := of_decide_eq_true hb
          omega
        · clear hb
          refine zs0 ?_
          refine WX.boolM rfl rfl (fun hb => ?_) (fun hb => ?_)
          · clear hb
            refine zs0 ?_
            refine W.cond rfl (fun hb2 => ?_) (fun hb2 => ?_)
            · clear hb2
              refine zs0 ?_
              rw [wrap_u8 (x := (c : Int) - 48) (by omega) (by omega)]
              refine zs0 ?_
              refine W.cond rfl (fun hb3 => ?_) (fun hb3 => ?_)
              · have hb3 : IntKind.u8.wrap 10 ≤ (c : Int) - 48 := of_decide_eq_true hb3
                rw [wrap_u8 (by omega) (by omega)] at hb3
                omega
              · clear hb3
                refine zs0 ?_
                refine W.cond rfl (fun hb4 => ?_) (fun hb4 => ?_)
                · have hb4 := of_decide_eq_true hb4
                  omega
                · clear hb4
                  refine zs0 ?_
                  rw [wrap_u64 (x := 10) (by omega) (by omega), wrap_u64 (x := (v : Int) * 10) (by omega) (by omega), wrap_u64 (x := (c : Int) - 48) (by omega) (by omega), wrap_u64 (x := (v : Int) * 10 + (c - 48)) (by omega) (by omega)]
                  refine WX.boolM rfl rfl (fun hb5 => ?_) (fun hb5 => ?_)
                  · have hb5 := of_decide_eq_true hb5
                    omega
                  · clear hb5
                    refine zs0 ?_
                    refine W.cond rfl (fun hb6 => ?_) (fun hb6 => ?_)
                    · have hb6 := of_decide_eq_true hb6
                      omega
                    · clear hb6
                      refine zs0 ?_
                      rw [wrap_i64 (x := (i : Int) + 1) (by omega) (by omega), show (v : Int) * 10 + (c - 48) = ((v * 10 + (c - 48) : Nat) : Int) by omega]
                      show ∃ m', _
                      refine ⟨s.length - (i + 1), by omega, i + 1, v * 10 + (c - 48), rfl, by omega, ?_, rfl⟩
                      rw [hts, ← hv, hdv]
            · have hb2 := of_decide_eq_false hb2
              omega
          · have hb := of_decide_eq_false hb
            omega
      · have hlt := of_decide_eq_false hlt
        have hie : i = s.length := by omega
        subst hie
        rw [List.take_length] at hv
        refine zs0 ?_
        rw [hv]
        rfl
theorem parseInt1_T (s : Bs) (hd : s.all isDg = true) (h0 : s ≠ []) (hl : s.length ≤ 9) : T (k + 2) 197 [.str s, .int .i64 10, .int .i64 64] = some (.tup [.int .i64 (val s : Nat), .nili], []) := by
  have hvl : val s < 1000000000 := by
    have := val_lt hd
    exact Nat.lt_of_lt_of_le this (Nat.pow_le_pow_right (n := 10) (by omega) hl)
  have hpos := List.length_pos_iff.2 h0
  have hdc := isDg_nat (all_getD hd (i := 0) hpos)
  have hu := parseUint_T (k := k) s hd h0 hl
  generalize hc0 : (s.getD 0 0).toNat = c at *
  refine enter rfl func197 rfl (by decide) (by kernel_rfl) rfl rfl ?_
  refine zs0 ?_
  refine W.cond rfl (fun hc => ?_) (fun hc => ?_)
  · exact absurd (of_decide_eq_true hc) h0
  · clear hc
    refine zs0 ?_
    refine wS te rfl rfl (by omega) ?_
    rw [show (0 : Int).toNat = 0 from rfl, hc0]
    refine zs0 ?_
    refine W.cond rfl (fun hc => ?_) (fun hc => ?_)
    · have hc := of_decide_eq_true hc
      omega
    · clear hc
      refine zs0 ?_
      refine W.cond rfl (fun hc => ?_) (fun hc => ?_)
      · have hc := of_decide_eq_true hc
        omega
      · clear hc
        refine zs1 hu ?_
        rw [show IntKind.u64.wrap (1 * 2 ^ min (IntKind.u64.wrap (IntKind.i64.wrap (64 - 1))).toNat IntKind.u64.bits) = 9223372036854775808 by decide]
        refine W.cond rfl (fun hc => ?_) (fun hc => ?_)
        · have hc : (9223372036854775808 : Int) ≤ (val s : Nat) := of_decide_eq_true hc
          omega
        · clear hc
          refine zs0 ?_
          rw [wrap_i64 (x := (val s : Nat)) (by omega) (by omega)]
          rfl
theorem parseInt_T (s : Bs) (hd : s.all isDg = true) (h0 : s ≠ []) (hl : s.length ≤ 9) : T (k + 3) 165 [.str s, .int .i64 10, .int .i64 64] = some (.tup [.int .i64 (val s : Nat), .nili], []) := by
  refine enter rfl func165 rfl (by decide) (by kernel_rfl) rfl rfl ?_
  refine zs1 (parseInt1_T s hd h0 hl) ?_
  rfl
end Go.PE
namespace Go.PE
open Go.RowKit Go.Proofs.Tryz
set_option maxRecDepth 100000
variable {k : Nat}
def smP (neg : Bool) (num den : Bs) (frac : Bool) : Int × Int × Bool :=
  if 9 < num.length then (0, 0, false) else if 9 < den.length then (0, 0, false) else if numeral num = false then (0, 0, false) else if num = [48] ∧ (neg = true ∨ frac = true) then (0, 0, false) else
  if frac = true then (if numeral den = false then (0, 0, false) else if val den < 2 then (0, 0, false) else if Nat.gcd (val num) (val den) ≠ 1 then (0, 0, false) else (sg neg (val num), val den, true))
  else (sg neg (val num), 1, true)
theorem numeral_all {s : Bs} (h : numeral s = true) : s.all isDg = true := by
  unfold numeral at h; rw [Bool.and_eq_true] at h; exact h.1
theorem numeral_ne {s : Bs} (h : numeral s = true) : s ≠ [] := by
  rintro rfl; revert h; decide
theorem val_lt9 {s : Bs} (h : s.all isDg = true) (hl : s.length ≤ 9) : val s < 1000000000 := by
  have := val_lt h
  exact Nat.lt_of_lt_of_le this (Nat.pow_le_pow_right (n := 10) (by omega) hl)
theorem wneg (n : Nat) (h : n < 1000000000) : IntKind.i64.wrap (0 - (n : Int)) = sg true n := by
  rw [wrap_i64 (by omega) (by omega)]; show _ = -(n : Int); omega
theorem smallP_T (a m num den : Bs) (neg frac : Bool) (h1 : T (k + 4) 138 [.str a, .str [45]] = some (.tup [.str m, .bool neg], [])) (h2 : T (k + 4) 164 [.str m, .str [47]] = some (.tup [.str num, .str den, .bool frac], []))
    (hnum : num.length < 4611686018427387904) (hden : den.length < 4611686018427387904) :
    T (k + 5) 140 [.str a] = some (.tup [.agg [.int .i64 (smP neg num den frac).1, .int .i64 (smP neg num den frac).2.1], .bool (smP neg num den frac).2.2], []) := by
  have h3 := numeral_T (k := k + 3) num hnum
  have h4 := numeral_T (k := k + 3) den hden
  refine enter rfl func140 rfl (by decide) (by kernel_rfl) rfl rfl ?_
  refine zs1 h1 ?_
  refine zs2 h2 ?_
  refine WX.boolM rfl rfl (fun b1 => ?_) (fun b1 => ?_)
  · have b1 := of_decide_eq_true b1
    refine zs0 ?_
    have : smP neg num den frac = (0, 0, false) := by unfold smP; rw [if_pos (by omega)]
    rw [this]
    rfl
  · have b1 := of_decide_eq_false b1
    refine zs0 ?_
    refine WX.boolM rfl rfl (fun b2 => ?_) (fun b2 => ?_)
    · have b2 := of_decide_eq_true b2
      refine zs0 ?_
      have : smP neg num den frac = (0, 0, false) := by unfold smP; rw [if_neg (by omega), if_pos (by omega)]
      rw [this]
      rfl
    · have b2 : ¬ (9 : Int) < den.length := of_decide_eq_false b2
      refine zs1 h3 ?_
      refine WX.boolM rfl rfl (fun b3 => ?_) (fun b3 => ?_)
      · have b3 : numeral num = false := by cases h : numeral num <;> simp_all
        refine zs0 ?_
        have : smP neg num den frac = (0, 0, false) := by unfold smP; rw [if_neg (by omega), if_neg (by omega), if_pos b3]
        rw [this]
        rfl
      · have b3 : numeral num = true := by cases h : numeral num <;> simp_all
        refine zs0 ?_
        have h5 := parseInt_T (k := k + 1) num (numeral_all b3) (numeral_ne b3) (by omega)
        have v5 := val_lt9 (numeral_all b3) (by omega)
        refine WX.boolM rfl rfl (fun b4 => ?_) (fun b4 => ?_)
        · have b4 := of_decide_eq_true b4
          cases neg
          · cases frac
            · refine zs1 h5 ?_
              have : smP false num den false = ((val num : Int), 1, true) := by
                unfold smP; rw [if_neg (by omega), if_neg (by omega), if_neg (by simp [b3]), if_neg (by simp)]; rfl
              rw [this]
              rfl
            · refine zs0 ?_
              have : smP false num den true = (0, 0, false) := by unfold smP; rw [if_neg (by omega), if_neg (by omega), if_neg (by simp [b3]), if_pos ⟨b4, Or.inr rfl⟩]
              rw [this]
              rfl
          · refine zs0 ?_
            have : smP true num den frac = (0, 0, false) := by unfold smP; rw [if_neg (by omega), if_neg (by omega), if_neg (by simp [b3]), if_pos ⟨b4, Or.inl rfl⟩]
            rw [this]
            rfl
        · have b4 := of_decide_eq_false b4
          refine zs0 ?_
          refine zs3 h5 ?_
          cases frac
          · refine zs0 ?_
            have : smP neg num den false = (sg neg (val num), 1, true) := by
              unfold smP; rw [if_neg (by omega), if_neg (by omega), if_neg (by simp [b3]), if_neg (fun h => b4 h.1)]; rfl
            rw [this]
            cases neg
            · refine zs0 ?_
              rfl
            · refine zs0 ?_
              rw [wneg _ v5]
              rfl
          · refine zs1 h4 ?_
            refine W.cond rfl (fun b6 => ?_) (fun b6 => ?_)
            · have b6 : numeral den = false := by cases h : numeral den <;> simp_all
              refine zs0 ?_
              have : smP neg num den true = (0, 0, false) := by unfold smP; rw [if_neg (by omega), if_neg (by omega), if_neg (by simp [b3]), if_neg (fun h => b4 h.1), if_pos rfl, if_pos b6]
              rw [this]
              rfl
            · have b6 : numeral den = true := by cases h : numeral den <;> simp_all
              have h7 := parseInt_T (k := k + 1) den (numeral_all b6) (numeral_ne b6) (by omega)
              have v7 := val_lt9 (numeral_all b6) (by omega)
              refine zs1 h7 ?_
              refine WX.boolM rfl rfl (fun b8 => ?_) (fun b8 => ?_)
              · have b8 := of_decide_eq_true b8
                refine zs0 ?_
                have : smP neg num den true = (0, 0, false) := by unfold smP; rw [if_neg (by omega), if_neg (by omega), if_neg (by simp [b3]), if_neg (fun h => b4 h.1), if_pos rfl, if_neg (by simp [b6]), if_pos (by omega)]
                rw [this]
                rfl
              · have b8 := of_decide_eq_false b8
                refine zs0 ?_
                refine wC te rfl rfl rfl rfl rfl (divisor_T (k := k + 3) (val num) (val den) (by omega) (by omega)) rfl rfl ?_
                refine zs0 ?_
                refine W.cond rfl (fun b9 => ?_) (fun b9 => ?_)
                · have b9 : Nat.gcd (val num) (val den) ≠ 1 := by
                    intro h; rw [h] at b9; revert b9; simp
                  refine zs0 ?_
                  have : smP neg num den true = (0, 0, false) := by
                    unfold smP; rw [if_neg (by omega), if_neg (by omega), if_neg (by simp [b3]), if_neg (fun h => b4 h.1), if_pos rfl, if_neg (by simp [b6]), if_neg (by omega), if_pos b9]
                  rw [this]
                  rfl
                · have b9 : Nat.gcd (val num) (val den) = 1 := by
                    simp at b9; omega
                  have : smP neg num den true = (sg neg (val num), (val den : Int), true) := by
                    unfold smP; rw [if_neg (by omega), if_neg (by omega), if_neg (by simp [b3]), if_neg (fun h => b4 h.1), if_pos rfl, if_neg (by simp [b6]), if_neg (by omega), if_neg (by omega)]
                  rw [this]
                  refine zs0 ?_
                  cases neg
                  · refine zs0 ?_
                    rfl
                  · refine zs0 ?_
                    rw [wneg _ v5]
                    rfl
def smV (a : Bs) : Int × Int × Bool := smP (cutM a).2 (cutS (cutM a).1).1 (cutS (cutM a).1).2.1 (cutS (cutM a).1).2.2
theorem cutM_len (s : Bs) : (cutM s).1.length ≤ s.length := by
  have h := congrArg List.length (cutM_spec s)
  rw [List.length_append] at h; omega
theorem cutS_len (s : Bs) : (cutS s).1.length ≤ s.length ∧ (cutS s).2.1.length ≤ s.length := by
  induction s with
  | nil => simp [cutS]
  | cons c s ih =>
    rw [cutS]
    split
    · simp
    · simp only [List.length_cons]; omega
theorem smallOf_T (a : Bs) (h : a.length < 4611686018427387904) :
    T (k + 5) 140 [.str a] = some (.tup [.agg [.int .i64 (smV a).1, .int .i64 (smV a).2.1], .bool (smV a).2.2], []) := by
  have h0 := cutM_len a
  have h1 := cutS_len (cutM a).1
  exact smallP_T a _ _ _ _ _ (cutPrefix_T (k := k + 1) a) (cut_T (k := k) (cutM a).1 (by omega)) (by omega) (by omega)
end Go.PE
namespace Go.PE
open Go.RowKit Go.Proofs.Tryz
set_option maxRecDepth 100000
variable {k : Nat}
def rdP (neg : Bool) (num den : Bs) (frac : Bool) : Option (Nat × Nat) :=
  if numeral num = false then none else if num = [48] ∧ (neg = true ∨ frac = true) then none else
  if frac = true then (if numeral den = false then none else if den = [48] then none else if den = [49] then none else some (val num, val den))
  else some (val num, 1)
def rdX (neg : Bool) : Option (Nat × Nat) → PV
  | some (n, d) => .agg [.bool neg, .imm 1 (row (limbs n)), .imm 1 (row (limbs d))]
  | none => .agg [.bool false, .imm 1 [], .imm 1 []]
def rdO : Option (Nat × Nat) → Bool
  | some (n, d) => decide (Nat.gcd n d = 1)
  | none => false
theorem limbs_one : limbs 1 = [1] := limbs_small (by omega) (by omega)
theorem ln_val {s : Bs} (h : numeral s = true) (hl : s.length < 150994900) : ln (val s) < 16777216 := by
  have h1 := val_lt (numeral_all h)
  have h2 : 10 ^ s.length ≤ 1000000000 ^ (s.length / 9 + 1) := by
    rw [show (1000000000 : Nat) = 10 ^ 9 from rfl, ← Nat.pow_mul]
    exact Nat.pow_le_pow_right (by omega) (by omega)
  have := ln_le (Nat.lt_of_lt_of_le h1 h2)
  omega
theorem rdX_one (neg : Bool) (n : Nat) : rdX neg (some (n, 1)) = .agg [.bool neg, .imm 1 (row (limbs n)), .imm 1 [[.int .u32 1]]] := by
  simp only [rdX, limbs_one]; rfl
theorem rdO_one (n : Nat) : rdO (some (n, 1)) = true := by simp [rdO]
theorem readP_T (a m num den : Bs) (neg frac : Bool) (h1 : T (k + 4) 138 [.str a, .str [45]] = some (.tup [.str m, .bool neg], [])) (h2 : T (k + 4) 164 [.str m, .str [47]] = some (.tup [.str num, .str den, .bool frac], []))
    (hnum : num.length < 150994900) (hden : den.length < 150994900) :
    T (k + 5) 141 [.str a] = some (.tup [rdX neg (rdP neg num den frac), .bool (rdO (rdP neg num den frac))], []) := by
  have h3 := numeral_T (k := k + 3) num (by omega)
  have h4 := numeral_T (k := k + 3) den (by omega)
  refine enter rfl func141 rfl (by decide) (by kernel_rfl) rfl rfl ?_
  refine zs1 h1 ?_
  refine zs2 h2 ?_
  refine zs2 h3 ?_
  refine WX.boolM rfl rfl (fun b3 => ?_) (fun b3 => ?_)
  · have b3 : numeral num = false := by cases h : numeral num <;> simp_all
    refine zs0 ?_
    have : rdP neg num den frac = none := by unfold rdP; rw [if_pos b3]
    rw [this]
    rfl
  · have b3 : numeral num = true := by cases h : numeral num <;> simp_all
    refine zs0 ?_
    refine WX.boolM rfl rfl (fun b4 => ?_) (fun b4 => ?_)
    · have b4 := of_decide_eq_true b4
      cases neg
      · cases frac
        · refine zs0 ?_
          refine wC te rfl rfl rfl rfl rfl (natOf_T (k := k + 2) num (numeral_all b3) (by omega)) rfl rfl ?_
          refine zs0 ?_
          have : rdP false num den false = some (val num, 1) := by unfold rdP; rw [if_neg (by simp [b3]), if_neg (by simp)]; rfl
          rw [this]
          rw [rdX_one, rdO_one]
          rfl
        · refine zs0 ?_
          have : rdP false num den true = none := by unfold rdP; rw [if_neg (by simp [b3]), if_pos ⟨b4, Or.inr rfl⟩]
          rw [this]
          rfl
      · refine zs0 ?_
        have : rdP true num den frac = none := by unfold rdP; rw [if_neg (by simp [b3]), if_pos ⟨b4, Or.inl rfl⟩]
        rw [this]
        rfl
    · have b4 := of_decide_eq_false b4
      refine zs0 ?_
      refine WX.moveB rfl rfl ?_
      refine zs0 ?_
      refine wC te rfl rfl rfl rfl rfl (natOf_T (k := k + 2) num (numeral_all b3) (by omega)) rfl rfl ?_
      refine zs0 ?_
      cases frac
      · refine zs0 ?_
        have : rdP neg num den false = some (val num, 1) := by unfold rdP; rw [if_neg (by simp [b3]), if_neg (fun h => b4 h.1)]; rfl
        rw [this]
        rw [rdX_one, rdO_one]
        rfl
      · refine zs1 h4 ?_
        refine WX.boolM rfl rfl (fun b6 => ?_) (fun b6 => ?_)
        · have b6 : numeral den = false := by cases h : numeral den <;> simp_all
          refine zs0 ?_
          have : rdP neg num den true = none := by unfold rdP; rw [if_neg (by simp [b3]), if_neg (fun h => b4 h.1), if_pos rfl, if_pos b6]
          rw [this]
          rfl
        · have b6 : numeral den = true := by cases h : numeral den <;> simp_all
          refine zs0 ?_
          refine WX.boolM rfl rfl (fun b7 => ?_) (fun b7 => ?_)
          · have b7 : den = [48] := by simpa using b7
            refine zs0 ?_
            have : rdP neg num den true = none := by unfold rdP; rw [if_neg (by simp [b3]), if_neg (fun h => b4 h.1), if_pos rfl, if_neg (by simp [b6]), if_pos b7]
            rw [this]
            rfl
          · have b7 : den ≠ [48] := by simpa using b7
            refine zs0 ?_
            refine W.cond rfl (fun b8 => ?_) (fun b8 => ?_)
            · have b8 : den = [49] := by simpa using b8
              refine zs0 ?_
              have : rdP neg num den true = none := by unfold rdP; rw [if_neg (by simp [b3]), if_neg (fun h => b4 h.1), if_pos rfl, if_neg (by simp [b6]), if_neg b7, if_pos b8]
              rw [this]
              rfl
            · have b8 : den ≠ [49] := by simpa using b8
              refine zs0 ?_
              refine wC te rfl rfl rfl rfl rfl (natOf_T (k := k + 2) den (numeral_all b6) (by omega)) rfl rfl ?_
              refine zd8 ?_
              refine wG te rfl rfl rfl rfl rfl (gcd_T (k := k) (val num) (val den) (ln_val b3 (by omega)) (ln_val b6 (by omega))) rfl rfl ?_
              refine zd2 (one_T (k := k + 3) (Nat.gcd (val num) (val den))) ?_
              have : rdP neg num den true = some (val num, val den) := by unfold rdP; rw [if_neg (by simp [b3]), if_neg (fun h => b4 h.1), if_pos rfl, if_neg (by simp [b6]), if_neg b7, if_neg b8]
              rw [this]
              rw [onUps_eq]
              refine WX.nilD (by kernel_rfl) ?_
              refine zs0 ?_
              rfl
end Go.PE
namespace Go.PE
open Go.RowKit Go.Proofs.Tryz
set_option maxRecDepth 100000
variable {k : Nat}
def rdV (a : Bs) : Option (Nat × Nat) := rdP (cutM a).2 (cutS (cutM a).1).1 (cutS (cutM a).1).2.1 (cutS (cutM a).1).2.2
theorem read_T (a : Bs) (h : a.length < 150994900) :
    T (k + 5) 141 [.str a] = some (.tup [rdX (cutM a).2 (rdV a), .bool (rdO (rdV a))], []) := by
  have h0 := cutM_len a
  have h1 := cutS_len (cutM a).1
  exact readP_T a _ _ _ _ _ (cutPrefix_T (k := k + 1) a) (cut_T (k := k) (cutM a).1 (by omega)) (by omega) (by omega)
theorem num48 {s : Bs} (h : numeral s = true) : val s = 0 ↔ s = [48] := by
  constructor
  · intro e; have := dec_val h; rw [e, dec_zero] at this; exact this.symm
  · rintro rfl; rfl
theorem num49 {s : Bs} (h : numeral s = true) : val s = 1 ↔ s = [49] := by
  constructor
  · intro e; have := dec_val h; rw [e, dec_small (by omega)] at this; exact this.symm
  · rintro rfl; rfl
theorem rd_V (a : Bs) : rd a = match rdV a with | some (n, d) => if Nat.gcd n d = 1 then some (mkRat (sg (cutM a).2 n) d) else none | none => none := by
  unfold rd rdV rdP
  simp only
  generalize (cutM a).2 = neg
  generalize cutS (cutM a).1 = c
  obtain ⟨num, den, frac⟩ := c
  simp only
  cases h1 : numeral num
  · rfl
  · by_cases h2 : num = [48] ∧ (neg = true ∨ frac = true)
    · rw [if_pos h2]
      obtain ⟨rfl, h2⟩ := h2
      rcases h2 with rfl | rfl <;> simp
    · have h2' : (num == [48] && (neg || frac)) = false := by
        rw [Bool.eq_false_iff]; intro e; apply h2
        simpa using e
      rw [h2', if_neg h2]
      cases frac
      · simp
      · cases h3 : numeral den
        · simp
        · have h4 := num48 h3
          have h5 := num49 h3
          by_cases h6 : den = [48]
          · have := h4.2 h6; simp [h6]; intro h; exact absurd h (by decide)
          · by_cases h7 : den = [49]
            · have := h5.2 h7; simp [h7]; intro h; exact absurd h (by decide)
            · have h8 : 2 ≤ val den := by
                rcases Nat.lt_or_ge (val den) 2 with h | h
                · rcases (show val den = 0 ∨ val den = 1 by omega) with e | e
                  · exact absurd (h4.1 e) h6
                  · exact absurd (h5.1 e) h7
                · exact h
              simp [h6, h7, h8]
theorem rd_ok (a : Bs) : rdO (rdV a) = (rd a).isSome := by
  rw [rd_V]
  rcases rdV a with _ | ⟨n, d⟩
  · rfl
  · simp only [rdO]; split <;> simp_all
theorem rd_sm (a : Bs) (h : (smV a).2.2 = true) : rd a = some (mkRat (smV a).1 (smV a).2.1.toNat) ∧ 0 < (smV a).2.1 ∧ (smV a).2.1 < 1000000000 ∧ (smV a).1.natAbs < 1000000000 := by
  revert h
  unfold rd smV smP
  simp only
  generalize (cutM a).2 = neg
  generalize cutS (cutM a).1 = c
  obtain ⟨num, den, frac⟩ := c
  simp only
  split
  · intro h; cases h
  split
  · intro h; cases h
  split
  · intro h; cases h
  split
  · intro h; cases h
  rename_i a1 a2 a3 a4
  have a3 : numeral num = true := by simpa using a3
  have b1 := val_lt9 (numeral_all a3) (by omega)
  have b2 : (num == [48] && (neg || frac)) = false := by
    rw [Bool.eq_false_iff]; intro e; apply a4
    simpa using e
  rw [a3, b2]
  have b3 := sg_natAbs neg (val num)
  split
  · split
    · intro h; cases h
    split
    · intro h; cases h
    split
    · intro h; cases h
    rename_i a5 a6 a7 a8
    have a6 : numeral den = true := by simpa using a6
    have c1 := val_lt9 (numeral_all a6) (by omega)
    subst a5
    rw [a6]
    intro _
    refine ⟨?_, by simp only; omega, by simp only; omega, by simp only; omega⟩
    simp only [Int.toNat_natCast]
    have : 2 ≤ val den := by omega
    have a8 : (val num).gcd (val den) = 1 := by omega
    simp [this, a8]
  · rename_i a5
    have a5 : frac = false := by simpa using a5
    subst a5
    intro _
    refine ⟨?_, by simp only; omega, by simp only; omega, by simp only; omega⟩
    simp
theorem valid_T (a : Bs) (h : a.length < 150994900) : T (k + 6) 115 [.str a] = some (.bool (rd a).isSome, []) := by
  refine enter rfl func115 rfl (by decide) (by kernel_rfl) rfl rfl ?_
  refine zs0 ?_
  refine wC te rfl rfl rfl rfl rfl (smallOf_T (k := k) a (by omega)) rfl rfl ?_
  refine zs0 ?_
  refine WX.boolM rfl rfl (fun b1 => ?_) (fun b1 => ?_)
  · refine zs0 ?_
    rw [(rd_sm a b1).1]
    rfl
  · refine zs0 ?_
    have hr := read_T (k := k) a h
    rw [rd_ok] at hr
    generalize rdV a = v at hr
    generalize (rd a).isSome = o at hr
    rcases v with _ | ⟨n, d⟩
    · refine zs2 hr ?_
      refine WX.moveB rfl rfl ?_
      refine zs0 ?_
      rfl
    · refine zs2 hr ?_
      refine WX.moveB rfl rfl ?_
      refine zs0 ?_
      rfl
def isI (s : Bs) : Bool := numeral (cutM s).1 && !((cutM s).2 && decide ((cutM s).1 = [48]))
theorem isInt_T (a : Bs) (h : a.length < 4611686018427387904) : T (k + 4) 114 [.str a] = some (.bool (isI a), []) := by
  have h0 := cutM_len a
  refine enter rfl func114 rfl (by decide) (by kernel_rfl) rfl rfl ?_
  refine zs1 (cutPrefix_T (k := k) a) ?_
  refine wC te rfl rfl rfl rfl rfl (numeral_T (k := k + 2) (cutM a).1 (by omega)) rfl rfl ?_
  refine zs0 ?_
  unfold isI
  refine WX.boolM rfl rfl (fun b1 => ?_) (fun b1 => ?_)
  · have b1 : numeral (cutM a).1 = true := by simpa using b1
    rw [b1]
    refine zs0 ?_
    refine WX.boolM rfl rfl (fun b2 => ?_) (fun b2 => ?_)
    · have b2 : (cutM a).2 = true := by simpa using b2
      rw [b2]
      refine zs0 ?_
      cases decide ((cutM a).1 = [48]) <;> rfl
    · have b2 : (cutM a).2 = false := by simpa using b2
      rw [b2]
      refine zs0 ?_
      rfl
  · have b1 : numeral (cutM a).1 = false := by simpa using b1
    rw [b1]
    refine zs0 ?_
    rfl
def sgn (q : Rat) : Int := if q.num < 0 then -1 else if q.num = 0 then 0 else 1
theorem rs_zero : rs 0 = [48] := by
  show qt false 0 1 = _
  simp [qt, dec_zero]
theorem sgn_head {q : Rat} {a : Bs} (h : a = rs q) (h0 : a ≠ [48]) : sgn q = if a.getD 0 0 = 45 then -1 else 1 := by
  have hq : q.num ≠ 0 := by
    intro e
    apply h0
    have : q = 0 := by rw [Rat.num_eq_zero.1 e]
    rw [h, this]; exact rs_zero
  subst h
  unfold rs qt sgn
  by_cases hn : q.num < 0
  · have : q.num.natAbs ≠ 0 := by omega
    simp [hn, this]
  · rw [if_neg hn, if_neg hq]
    simp only [hn, decide_false, Bool.false_and]
    rw [if_neg]
    rw [if_neg (by simp), List.nil_append]
    cases hd : dec q.num.natAbs with
    | nil => exact absurd hd (dec_ne _)
    | cons c s =>
      simp only [List.cons_append, List.getD_cons_zero]
      exact (dg_ne (dec_mem (n := q.num.natAbs) (by rw [hd]; simp))).1
theorem sign_T (a : Bs) (h : a.length < 150994900) : T (k + 7) 150 [.str a] = some (.int .i64 (match rd a with | some q => sgn q | none => 0), []) := by
  refine enter rfl func150 rfl (by decide) (by kernel_rfl) rfl rfl ?_
  refine zs1 (valid_T (k := k) a h) ?_
  refine WX.boolM rfl rfl (fun b1 => ?_) (fun b1 => ?_)
  · have b1 : rd a = none := by simpa using b1
    rw [b1]
    refine zs0 ?_
    rfl
  · obtain ⟨q, b1⟩ : ∃ q, rd a = some q := Option.isSome_iff_exists.1 (by simpa using b1)
    have hq := rs_rd b1
    rw [b1]
    refine zs0 ?_
    refine W.cond rfl (fun b2 => ?_) (fun b2 => ?_)
    · have b2 : a = [48] := by simpa using b2
      refine zs0 ?_
      show some (PV.int .i64 0, []) = some (PV.int .i64 (sgn q), [])
      rw [show sgn q = 0 by
        have : q = 0 := by
          apply rs_inj; rw [← hq, b2]; exact rs_zero.symm
        subst this; rfl]
    · have b2 : a ≠ [48] := by simpa using b2
      have b3 : a ≠ [] := by
        rintro rfl; revert b1; rw [show rd [] = none from rfl]; exact fun h => nomatch h
      have b4 := List.length_pos_iff.2 b3
      have hs := sgn_head hq b2
      refine zs0 ?_
      refine wS te rfl rfl (by constructor <;> omega) ?_
      refine zs0 ?_
      refine W.cond rfl (fun b5 => ?_) (fun b5 => ?_)
      · refine zs0 ?_
        show some (PV.int .i64 (-1), []) = some (PV.int .i64 (sgn q), [])
        rw [hs, if_pos]
        have := of_decide_eq_true b5
        apply UInt8.toNat_inj.1
        exact Int.ofNat_inj.1 this
      · refine zs0 ?_
        show some (PV.int .i64 1, []) = some (PV.int .i64 (sgn q), [])
        rw [hs, if_neg]
        intro h
        have := of_decide_eq_false b5
        apply this
        show ((a.getD 0 0).toNat : Int) = 45
        rw [h]; rfl
end Go.PE
namespace Go.PE
open Go.RowKit Go.Proofs.Tryz
set_option maxRecDepth 100000
variable {k : Nat}
/-! ### Rows of integers, booleans, clauses -/
def zrow (l : List Int) : List (List PV) := l.map fun n => [.int .i64 n]
theorem zrow_get {l : List Int} {i : Nat} (h : i < l.length) : (zrow l)[i]? = some [.int .i64 (l.getD i 0)] := by
  unfold zrow
  rw [List.getElem?_map, List.getElem?_eq_getElem h]
  simp [List.getD, List.getElem?_eq_getElem h]
theorem zrow_len (l : List Int) : (zrow l).length = l.length := by simp [zrow]
theorem brow_get {l : List Bool} {i : Nat} (h : i < l.length) : (brow l)[i]? = some [.bool (l.getD i false)] := by
  unfold brow
  rw [List.getElem?_map, List.getElem?_eq_getElem h]
  simp [List.getD, List.getElem?_eq_getElem h]
theorem brow_len (l : List Bool) : (brow l).length = l.length := by simp [brow]
def crow (l : List (List Int)) : List (List PV) := l.map fun x => [.imm 1 (zrow x)]
theorem crow_get {l : List (List Int)} {i : Nat} (h : i < l.length) : (crow l)[i]? = some [.imm 1 (zrow (l.getD i []))] := by
  unfold crow
  rw [List.getElem?_map, List.getElem?_eq_getElem h]
  simp [List.getD, List.getElem?_eq_getElem h]
theorem crow_len (l : List (List Int)) : (crow l).length = l.length := by simp [crow]
theorem range_stop {n i : Nat} {f : Nat → Bool} (hi : i < n) (h : f i = false) : (List.range n).all f = false := by
  rw [Bool.eq_false_iff]; intro e
  have := List.all_eq_true.1 e i (List.mem_range.2 hi)
  rw [h] at this; cases this
theorem range_step {i : Nat} {f : Nat → Bool} (h : (List.range i).all f = true) (h2 : f i = true) : (List.range (i + 1)).all f = true := by
  rw [List.range_succ, List.all_append, h, List.all_cons, h2]; rfl
theorem not_true {b : Bool} (h : (!b) = true) : b = false := by cases b <;> simp_all
theorem not_false {b : Bool} (h : (!b) = false) : b = true := by cases b <;> simp_all
theorem mem_getD {α : Type} {l : List α} {i : Nat} (d : α) (h : i < l.length) : l.getD i d ∈ l := by
  simp [List.getD, List.getElem?_eq_getElem h]
/-! ### The reference -/
/-- An integer of 64 bits. -/
def fitI (x : Int) : Prop := -9223372036854775808 ≤ x ∧ x ≤ 9223372036854775807
def okLit (n x : Int) : Bool := !decide (x = 0) && (!decide (n < x) && !decide (x < -n))
def litsB (n : Int) (l : List Int) : Bool := (List.range l.length).all fun i => okLit n (l.getD i 0)
/-- All clauses' literals are good. -/
def litsC (n : Int) (cs : List (List Int)) : Bool := (List.range cs.length).all fun i => litsB n (cs.getD i [])
/-- A literal is true. -/
def litT (vs : List Bool) (x : Int) : Bool := vs.getD (x.natAbs - 1) false == decide (0 < x)
/-- One of a clause's literals is true. -/
def someT (vs : List Bool) (l : List Int) : Bool := !(List.range l.length).all fun i => !litT vs (l.getD i 0)
end Go.PE
