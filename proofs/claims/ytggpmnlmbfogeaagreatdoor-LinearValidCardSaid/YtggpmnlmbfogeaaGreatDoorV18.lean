/-
  A part of the proof that the law's function returns true and leaves its arguments as they were, for every input (no condition): own lemmas of the proof, in the order of their use.
-/
import Derived.Test.YtggpmnlmbfogeaaGreatDoorV17
set_option linter.all false
namespace Go.PE
open Go.RowKit Go.Proofs.Tryz
set_option maxRecDepth 100000
variable {k : Nat}
def rdP (neg : Bool) (num den : Bs) (frac : Bool) : Option (Nat × Nat) :=
  if numeral num = false then none else if num = [48] ∧ (neg = true ∨ frac = true) then none else
  if frac = true then (if numeral den = false then none else if den = [48] then none else if den = [49] then none else some (val num, val den))
  else some (val num, 1)
def rdX (neg : Bool) : Option (Nat × Nat) → PV
  | some (n, d) => .agg [.bool neg, .imm 1 (row (limbs n)), .imm 1 (row (limbs d))]
  | none => .agg [.bool false, .imm 1 [], .imm 1 []]
def rdO : Option (Nat × Nat) → Bool
  | some (n, d) => decide (Nat.gcd n d = 1)
  | none => false
theorem limbs_one : limbs 1 = [1] := limbs_small (by omega) (by omega)
theorem ln_val {s : Bs} (h : numeral s = true) (hl : s.length < 150994900) : ln (val s) < 16777216 := by
  have h1 := val_lt (numeral_all h)
  have h2 : 10 ^ s.length ≤ 1000000000 ^ (s.length / 9 + 1) := by
    rw [show (1000000000 : Nat) = 10 ^ 9 from rfl, ← Nat.pow_mul]
    exact Nat.pow_le_pow_right (by omega) (by omega)
  have := ln_le (Nat.lt_of_lt_of_le h1 h2)
  omega
theorem rdX_one (neg : Bool) (n : Nat) : rdX neg (some (n, 1)) = .agg [.bool neg, .imm 1 (row (limbs n)), .imm 1 [[.int .u32 1]]] := by
  simp only [rdX, limbs_one]; rfl
theorem rdO_one (n : Nat) : rdO (some (n, 1)) = true := by simp [rdO]
theorem readP_T (a m num den : Bs) (neg frac : Bool) (h1 : T (k + 4) 106 [.str a, .str [45]] = some (.tup [.str m, .bool neg], [])) (h2 : T (k + 4) 229 [.str m, .str [47]] = some (.tup [.str num, .str den, .bool frac], []))
    (hnum : num.length < 150994900) (hden : den.length < 150994900) :
    T (k + 5) 164 [.str a] = some (.tup [rdX neg (rdP neg num den frac), .bool (rdO (rdP neg num den frac))], []) := by
  have h3 := numeral_T (k := k + 3) num (by omega)
  have h4 := numeral_T (k := k + 3) den (by omega)
  refine enter rfl func164 rfl (by decide) (by kernel_rfl) rfl rfl ?_
  repeat (first | refine WX.step tab_eq rfl rfl trivial ?_ | refine WX.step tab_eq rfl rfl (by decide) ?_ | refine WX.nil ?_ | refine W.seq ?_ | refine W.region ?_ | refine W.regionD ?_ | refine W.block ?_ | refine W.skip ?_ | refine W.exit ?_ | refine W.ret ?_ | refine W.condT rfl ?_ | refine W.condF rfl ?_ | refine WX.skip rfl ?_)
  refine WX.call tab_eq rfl rfl rfl rfl rfl (h1) rfl rfl ?_
  repeat (first | refine WX.step tab_eq rfl rfl trivial ?_ | refine WX.step tab_eq rfl rfl (by decide) ?_ | refine WX.nil ?_ | refine W.seq ?_ | refine W.region ?_ | refine W.regionD ?_ | refine W.block ?_ | refine W.skip ?_ | refine W.exit ?_ | refine W.ret ?_ | refine W.condT rfl ?_ | refine W.condF rfl ?_ | refine WX.skip rfl ?_)
  refine WX.call tab_eq rfl rfl rfl rfl rfl (h2) rfl rfl ?_
  repeat (first | refine WX.step tab_eq rfl rfl trivial ?_ | refine WX.step tab_eq rfl rfl (by decide) ?_ | refine WX.nil ?_ | refine W.seq ?_ | refine W.region ?_ | refine W.regionD ?_ | refine W.block ?_ | refine W.skip ?_ | refine W.exit ?_ | refine W.ret ?_ | refine W.condT rfl ?_ | refine W.condF rfl ?_ | refine WX.skip rfl ?_)
  refine WX.call tab_eq rfl rfl rfl rfl rfl (h3) rfl rfl ?_
  repeat (first | refine WX.step tab_eq rfl rfl trivial ?_ | refine WX.step tab_eq rfl rfl (by decide) ?_ | refine WX.nil ?_ | refine W.seq ?_ | refine W.region ?_ | refine W.regionD ?_ | refine W.block ?_ | refine W.skip ?_ | refine W.exit ?_ | refine W.ret ?_ | refine W.condT rfl ?_ | refine W.condF rfl ?_ | refine WX.skip rfl ?_)
  refine WX.boolM rfl rfl (fun b3 => ?_) (fun b3 => ?_)
  · have b3 : numeral num = false := by cases h : numeral num <;> simp_all
    repeat (first | refine WX.step tab_eq rfl rfl trivial ?_ | refine WX.step tab_eq rfl rfl (by decide) ?_ | refine WX.nil ?_ | refine W.seq ?_ | refine W.region ?_ | refine W.regionD ?_ | refine W.block ?_ | refine W.skip ?_ | refine W.exit ?_ | refine W.ret ?_ | refine W.condT rfl ?_ | refine W.condF rfl ?_ | refine WX.skip rfl ?_)
    have : rdP neg num den frac = none := by unfold rdP; rw [if_pos b3]
    rw [this]
    rfl
  · have b3 : numeral num = true := by cases h : numeral num <;> simp_all
    repeat (first | refine WX.step tab_eq rfl rfl trivial ?_ | refine WX.step tab_eq rfl rfl (by decide) ?_ | refine WX.nil ?_ | refine W.seq ?_ | refine W.region ?_ | refine W.regionD ?_ | refine W.block ?_ | refine W.skip ?_ | refine W.exit ?_ | refine W.ret ?_ | refine W.condT rfl ?_ | refine W.condF rfl ?_ | refine WX.skip rfl ?_)
    refine WX.boolM rfl rfl (fun b4 => ?_) (fun b4 => ?_)
    · have b4 := of_decide_eq_true b4
      cases neg
      · cases frac
        · repeat (first | refine WX.step tab_eq rfl rfl trivial ?_ | refine WX.step tab_eq rfl rfl (by decide) ?_ | refine WX.nil ?_ | refine W.seq ?_ | refine W.region ?_ | refine W.regionD ?_ | refine W.block ?_ | refine W.skip ?_ | refine W.exit ?_ | refine W.ret ?_ | refine W.condT rfl ?_ | refine W.condF rfl ?_ | refine WX.skip rfl ?_)
          refine WX.call tab_eq rfl rfl rfl rfl rfl (natOf_T (k := k + 2) num (numeral_all b3) (by omega)) rfl rfl ?_
          repeat (first | refine WX.step tab_eq rfl rfl trivial ?_ | refine WX.step tab_eq rfl rfl (by decide) ?_ | refine WX.nil ?_ | refine W.seq ?_ | refine W.region ?_ | refine W.regionD ?_ | refine W.block ?_ | refine W.skip ?_ | refine W.exit ?_ | refine W.ret ?_ | refine W.condT rfl ?_ | refine W.condF rfl ?_ | refine WX.skip rfl ?_)
          have : rdP false num den false = some (val num, 1) := by unfold rdP; rw [if_neg (by simp [b3]), if_neg (by simp)]; rfl
          rw [this]
          rw [rdX_one, rdO_one]
          rfl
        · repeat (first | refine WX.step tab_eq rfl rfl trivial ?_ | refine WX.step tab_eq rfl rfl (by decide) ?_ | refine WX.nil ?_ | refine W.seq ?_ | refine W.region ?_ | refine W.regionD ?_ | refine W.block ?_ | refine W.skip ?_ | refine W.exit ?_ | refine W.ret ?_ | refine W.condT rfl ?_ | refine W.condF rfl ?_ | refine WX.skip rfl ?_)
          have : rdP false num den true = none := by unfold rdP; rw [if_neg (by simp [b3]), if_pos ⟨b4, Or.inr rfl⟩]
          rw [this]
          rfl
      · repeat (first | refine WX.step tab_eq rfl rfl trivial ?_ | refine WX.step tab_eq rfl rfl (by decide) ?_ | refine WX.nil ?_ | refine W.seq ?_ | refine W.region ?_ | refine W.regionD ?_ | refine W.block ?_ | refine W.skip ?_ | refine W.exit ?_ | refine W.ret ?_ | refine W.condT rfl ?_ | refine W.condF rfl ?_ | refine WX.skip rfl ?_)
        have : rdP true num den frac = none := by unfold rdP; rw [if_neg (by simp [b3]), if_pos ⟨b4, Or.inl rfl⟩]
        rw [this]
        rfl
    · have b4 := of_decide_eq_false b4
      repeat (first | refine WX.step tab_eq rfl rfl trivial ?_ | refine WX.step tab_eq rfl rfl (by decide) ?_ | refine WX.nil ?_ | refine W.seq ?_ | refine W.region ?_ | refine W.regionD ?_ | refine W.block ?_ | refine W.skip ?_ | refine W.exit ?_ | refine W.ret ?_ | refine W.condT rfl ?_ | refine W.condF rfl ?_ | refine WX.skip rfl ?_)
      refine WX.moveB rfl rfl ?_
      repeat (first | refine WX.step tab_eq rfl rfl trivial ?_ | refine WX.step tab_eq rfl rfl (by decide) ?_ | refine WX.nil ?_ | refine W.seq ?_ | refine W.region ?_ | refine W.regionD ?_ | refine W.block ?_ | refine W.skip ?_ | refine W.exit ?_ | refine W.ret ?_ | refine W.condT rfl ?_ | refine W.condF rfl ?_ | refine WX.skip rfl ?_)
      refine WX.call tab_eq rfl rfl rfl rfl rfl (natOf_T (k := k + 2) num (numeral_all b3) (by omega)) rfl rfl ?_
      repeat (first | refine WX.step tab_eq rfl rfl trivial ?_ | refine WX.step tab_eq rfl rfl (by decide) ?_ | refine WX.nil ?_ | refine W.seq ?_ | refine W.region ?_ | refine W.regionD ?_ | refine W.block ?_ | refine W.skip ?_ | refine W.exit ?_ | refine W.ret ?_ | refine W.condT rfl ?_ | refine W.condF rfl ?_ | refine WX.skip rfl ?_)
      cases frac
      · repeat (first | refine WX.step tab_eq rfl rfl trivial ?_ | refine WX.step tab_eq rfl rfl (by decide) ?_ | refine WX.nil ?_ | refine W.seq ?_ | refine W.region ?_ | refine W.regionD ?_ | refine W.block ?_ | refine W.skip ?_ | refine W.exit ?_ | refine W.ret ?_ | refine W.condT rfl ?_ | refine W.condF rfl ?_ | refine WX.skip rfl ?_)
        have : rdP neg num den false = some (val num, 1) := by unfold rdP; rw [if_neg (by simp [b3]), if_neg (fun h => b4 h.1)]; rfl
        rw [this]
        rw [rdX_one, rdO_one]
        rfl
      · repeat (first | refine WX.step tab_eq rfl rfl trivial ?_ | refine WX.step tab_eq rfl rfl (by decide) ?_ | refine WX.nil ?_ | refine W.seq ?_ | refine W.region ?_ | refine W.regionD ?_ | refine W.block ?_ | refine W.skip ?_ | refine W.exit ?_ | refine W.ret ?_ | refine W.condT rfl ?_ | refine W.condF rfl ?_ | refine WX.skip rfl ?_)
        refine WX.call tab_eq rfl rfl rfl rfl rfl (h4) rfl rfl ?_
        repeat (first | refine WX.step tab_eq rfl rfl trivial ?_ | refine WX.step tab_eq rfl rfl (by decide) ?_ | refine WX.nil ?_ | refine W.seq ?_ | refine W.region ?_ | refine W.regionD ?_ | refine W.block ?_ | refine W.skip ?_ | refine W.exit ?_ | refine W.ret ?_ | refine W.condT rfl ?_ | refine W.condF rfl ?_ | refine WX.skip rfl ?_)
        refine WX.boolM rfl rfl (fun b6 => ?_) (fun b6 => ?_)
        · have b6 : numeral den = false := by cases h : numeral den <;> simp_all
          repeat (first | refine WX.step tab_eq rfl rfl trivial ?_ | refine WX.step tab_eq rfl rfl (by decide) ?_ | refine WX.nil ?_ | refine W.seq ?_ | refine W.region ?_ | refine W.regionD ?_ | refine W.block ?_ | refine W.skip ?_ | refine W.exit ?_ | refine W.ret ?_ | refine W.condT rfl ?_ | refine W.condF rfl ?_ | refine WX.skip rfl ?_)
          have : rdP neg num den true = none := by unfold rdP; rw [if_neg (by simp [b3]), if_neg (fun h => b4 h.1), if_pos rfl, if_pos b6]
          rw [this]
          rfl
        · have b6 : numeral den = true := by cases h : numeral den <;> simp_all
          repeat (first | refine WX.step tab_eq rfl rfl trivial ?_ | refine WX.step tab_eq rfl rfl (by decide) ?_ | refine WX.nil ?_ | refine W.seq ?_ | refine W.region ?_ | refine W.regionD ?_ | refine W.block ?_ | refine W.skip ?_ | refine W.exit ?_ | refine W.ret ?_ | refine W.condT rfl ?_ | refine W.condF rfl ?_ | refine WX.skip rfl ?_)
          refine WX.boolM rfl rfl (fun b7 => ?_) (fun b7 => ?_)
          · have b7 : den = [48] := by simpa using b7
            repeat (first | refine WX.step tab_eq rfl rfl trivial ?_ | refine WX.step tab_eq rfl rfl (by decide) ?_ | refine WX.nil ?_ | refine W.seq ?_ | refine W.region ?_ | refine W.regionD ?_ | refine W.block ?_ | refine W.skip ?_ | refine W.exit ?_ | refine W.ret ?_ | refine W.condT rfl ?_ | refine W.condF rfl ?_ | refine WX.skip rfl ?_)
            have : rdP neg num den true = none := by unfold rdP; rw [if_neg (by simp [b3]), if_neg (fun h => b4 h.1), if_pos rfl, if_neg (by simp [b6]), if_pos b7]
            rw [this]
            rfl
          · have b7 : den ≠ [48] := by simpa using b7
            repeat (first | refine WX.step tab_eq rfl rfl trivial ?_ | refine WX.step tab_eq rfl rfl (by decide) ?_ | refine WX.nil ?_ | refine W.seq ?_ | refine W.region ?_ | refine W.regionD ?_ | refine W.block ?_ | refine W.skip ?_ | refine W.exit ?_ | refine W.ret ?_ | refine W.condT rfl ?_ | refine W.condF rfl ?_ | refine WX.skip rfl ?_)
            refine W.cond rfl (fun b8 => ?_) (fun b8 => ?_)
            · have b8 : den = [49] := by simpa using b8
              repeat (first | refine WX.step tab_eq rfl rfl trivial ?_ | refine WX.step tab_eq rfl rfl (by decide) ?_ | refine WX.nil ?_ | refine W.seq ?_ | refine W.region ?_ | refine W.regionD ?_ | refine W.block ?_ | refine W.skip ?_ | refine W.exit ?_ | refine W.ret ?_ | refine W.condT rfl ?_ | refine W.condF rfl ?_ | refine WX.skip rfl ?_)
              have : rdP neg num den true = none := by unfold rdP; rw [if_neg (by simp [b3]), if_neg (fun h => b4 h.1), if_pos rfl, if_neg (by simp [b6]), if_neg b7, if_pos b8]
              rw [this]
              rfl
            · have b8 : den ≠ [49] := by simpa using b8
              repeat (first | refine WX.step tab_eq rfl rfl trivial ?_ | refine WX.step tab_eq rfl rfl (by decide) ?_ | refine WX.nil ?_ | refine W.seq ?_ | refine W.region ?_ | refine W.regionD ?_ | refine W.block ?_ | refine W.skip ?_ | refine W.exit ?_ | refine W.ret ?_ | refine W.condT rfl ?_ | refine W.condF rfl ?_ | refine WX.skip rfl ?_)
              refine WX.call tab_eq rfl rfl rfl rfl rfl (natOf_T (k := k + 2) den (numeral_all b6) (by omega)) rfl rfl ?_
              repeat (first | refine WX.step tab_eq rfl rfl trivial ?_ | refine WX.step tab_eq rfl rfl (by decide) ?_ | refine WX.nil ?_ | refine W.seq ?_ | refine W.region ?_ | refine W.regionD ?_ | refine W.block ?_ | refine W.skip ?_ | refine W.exit ?_ | refine W.ret ?_ | refine W.condT rfl ?_ | refine W.condF rfl ?_ | refine WX.skip rfl ?_)
              repeat (first | refine WX.stepD tab_eq rfl rfl trivial ?_ | refine WX.stepD tab_eq rfl rfl (by decide) ?_ | refine WX.skipD rfl ?_)
              refine WX.callD tab_eq rfl rfl rfl rfl rfl (gcd_T (k := k) (val num) (val den) (ln_val b3 (by omega)) (ln_val b6 (by omega))) rfl rfl ?_
              repeat (first | refine WX.stepD tab_eq rfl rfl trivial ?_ | refine WX.stepD tab_eq rfl rfl (by decide) ?_ | refine WX.skipD rfl ?_)
              refine WX.callD tab_eq rfl rfl rfl rfl rfl (one_T (k := k + 3) (Nat.gcd (val num) (val den))) rfl rfl ?_
              repeat (first | refine WX.stepD tab_eq rfl rfl trivial ?_ | refine WX.stepD tab_eq rfl rfl (by decide) ?_ | refine WX.skipD rfl ?_)
              have : rdP neg num den true = some (val num, val den) := by unfold rdP; rw [if_neg (by simp [b3]), if_neg (fun h => b4 h.1), if_pos rfl, if_neg (by simp [b6]), if_neg b7, if_neg b8]
              rw [this]
              rw [onUps_eq]
              refine WX.nilD (by kernel_rfl) ?_
              repeat (first | refine WX.step tab_eq rfl rfl trivial ?_ | refine WX.step tab_eq rfl rfl (by decide) ?_ | refine WX.nil ?_ | refine W.seq ?_ | refine W.region ?_ | refine W.regionD ?_ | refine W.block ?_ | refine W.skip ?_ | refine W.exit ?_ | refine W.ret ?_ | refine W.condT rfl ?_ | refine W.condF rfl ?_ | refine WX.skip rfl ?_)
              rfl
end Go.PE
namespace Go.PE
open Go.RowKit Go.Proofs.Tryz
set_option maxRecDepth 100000
variable {k : Nat}
def rdV (a : Bs) : Option (Nat × Nat) := rdP (cutM a).2 (cutS (cutM a).1).1 (cutS (cutM a).1).2.1 (cutS (cutM a).1).2.2
theorem read_T (a : Bs) (h : a.length < 150994900) :
    T (k + 5) 164 [.str a] = some (.tup [rdX (cutM a).2 (rdV a), .bool (rdO (rdV a))], []) := by
  have h0 := cutM_len a
  have h1 := cutS_len (cutM a).1
  exact readP_T a _ _ _ _ _ (cutPrefix_T (k := k + 1) a) (cut_T (k := k) (cutM a).1 (by omega)) (by omega) (by omega)
theorem num48 {s : Bs} (h : numeral s = true) : val s = 0 ↔ s = [48] := by
  constructor
  · intro e; have := dec_val h; rw [e, dec_zero] at this; exact this.symm
  · rintro rfl; rfl
theorem num49 {s : Bs} (h : numeral s = true) : val s = 1 ↔ s = [49] := by
  constructor
  · intro e; have := dec_val h; rw [e, dec_small (by omega)] at this; exact this.symm
  · rintro rfl; rfl
theorem rd_V (a : Bs) : rd a = match rdV a with | some (n, d) => if Nat.gcd n d = 1 then some (mkRat (sg (cutM a).2 n) d) else none | none => none := by
  unfold rd rdV rdP
  simp only
  generalize (cutM a).2 = neg
  generalize cutS (cutM a).1 = c
  obtain ⟨num, den, frac⟩ := c
  simp only
  cases h1 : numeral num
  · rfl
  · by_cases h2 : num = [48] ∧ (neg = true ∨ frac = true)
    · rw [if_pos h2]
      obtain ⟨rfl, h2⟩ := h2
      rcases h2 with rfl | rfl <;> simp
    · have h2' : (num == [48] && (neg || frac)) = false := by
        rw [Bool.eq_false_iff]; intro e; apply h2
        simpa using e
      rw [h2', if_neg h2]
      cases frac
      · simp
      · cases h3 : numeral den
        · simp
        · have h4 := num48 h3
          have h5 := num49 h3
          by_cases h6 : den = [48]
          · have := h4.2 h6; simp [h6]; intro h; exact absurd h (by decide)
          · by_cases h7 : den = [49]
            · have := h5.2 h7; simp [h7]; intro h; exact absurd h (by decide)
            · have h8 : 2 ≤ val den := by
                rcases Nat.lt_or_ge (val den) 2 with h | h
                · rcases (show val den = 0 ∨ val den = 1 by omega) with e | e
                  · exact absurd (h4.1 e) h6
                  · exact absurd (h5.1 e) h7
                · exact h
              simp [h6, h7, h8]
theorem rd_ok (a : Bs) : rdO (rdV a) = (rd a).isSome := by
  rw [rd_V]
  rcases rdV a with _ | ⟨n, d⟩
  · rfl
  · simp only [rdO]; split <;> simp_all
theorem rd_sm (a : Bs) (h : (smV a).2.2 = true) : rd a = some (mkRat (smV a).1 (smV a).2.1.toNat) ∧ 0 < (smV a).2.1 ∧ (smV a).2.1 < 1000000000 ∧ (smV a).1.natAbs < 1000000000 := by
  revert h
  unfold rd smV smP
  simp only
  generalize (cutM a).2 = neg
  generalize cutS (cutM a).1 = c
  obtain ⟨num, den, frac⟩ := c
  simp only
  split
  · intro h; cases h
  split
  · intro h; cases h
  split
  · intro h; cases h
  split
  · intro h; cases h
  rename_i a1 a2 a3 a4
  have a3 : numeral num = true := by simpa using a3
  have b1 := val_lt9 (numeral_all a3) (by omega)
  have b2 : (num == [48] && (neg || frac)) = false := by
    rw [Bool.eq_false_iff]; intro e; apply a4
    simpa using e
  rw [a3, b2]
  have b3 := sg_natAbs neg (val num)
  split
  · split
    · intro h; cases h
    split
    · intro h; cases h
    split
    · intro h; cases h
    rename_i a5 a6 a7 a8
    have a6 : numeral den = true := by simpa using a6
    have c1 := val_lt9 (numeral_all a6) (by omega)
    subst a5
    rw [a6]
    intro _
    refine ⟨?_, by simp only; omega, by simp only; omega, by simp only; omega⟩
    simp only [Int.toNat_natCast]
    have : 2 ≤ val den := by omega
    have a8 : (val num).gcd (val den) = 1 := by omega
    simp [this, a8]
  · rename_i a5
    have a5 : frac = false := by simpa using a5
    subst a5
    intro _
    refine ⟨?_, by simp only; omega, by simp only; omega, by simp only; omega⟩
    simp
theorem valid_T (a : Bs) (h : a.length < 150994900) : T (k + 6) 70 [.str a] = some (.bool (rd a).isSome, []) := by
  refine enter rfl func70 rfl (by decide) (by kernel_rfl) rfl rfl ?_
  repeat (first | refine WX.step tab_eq rfl rfl trivial ?_ | refine WX.step tab_eq rfl rfl (by decide) ?_ | refine WX.nil ?_ | refine W.seq ?_ | refine W.region ?_ | refine W.regionD ?_ | refine W.block ?_ | refine W.skip ?_ | refine W.exit ?_ | refine W.ret ?_ | refine W.condT rfl ?_ | refine W.condF rfl ?_ | refine WX.skip rfl ?_)
  refine WX.call tab_eq rfl rfl rfl rfl rfl (smallOf_T (k := k) a (by omega)) rfl rfl ?_
  repeat (first | refine WX.step tab_eq rfl rfl trivial ?_ | refine WX.step tab_eq rfl rfl (by decide) ?_ | refine WX.nil ?_ | refine W.seq ?_ | refine W.region ?_ | refine W.regionD ?_ | refine W.block ?_ | refine W.skip ?_ | refine W.exit ?_ | refine W.ret ?_ | refine W.condT rfl ?_ | refine W.condF rfl ?_ | refine WX.skip rfl ?_)
  refine WX.boolM rfl rfl (fun b1 => ?_) (fun b1 => ?_)
  · repeat (first | refine WX.step tab_eq rfl rfl trivial ?_ | refine WX.step tab_eq rfl rfl (by decide) ?_ | refine WX.nil ?_ | refine W.seq ?_ | refine W.region ?_ | refine W.regionD ?_ | refine W.block ?_ | refine W.skip ?_ | refine W.exit ?_ | refine W.ret ?_ | refine W.condT rfl ?_ | refine W.condF rfl ?_ | refine WX.skip rfl ?_)
    rw [(rd_sm a b1).1]
    rfl
  · repeat (first | refine WX.step tab_eq rfl rfl trivial ?_ | refine WX.step tab_eq rfl rfl (by decide) ?_ | refine WX.nil ?_ | refine W.seq ?_ | refine W.region ?_ | refine W.regionD ?_ | refine W.block ?_ | refine W.skip ?_ | refine W.exit ?_ | refine W.ret ?_ | refine W.condT rfl ?_ | refine W.condF rfl ?_ | refine WX.skip rfl ?_)
    have hr := read_T (k := k) a h
    rw [rd_ok] at hr
    generalize rdV a = v at hr
    generalize (rd a).isSome = o at hr
    rcases v with _ | ⟨n, d⟩
    · refine WX.call tab_eq rfl rfl rfl rfl rfl (hr) rfl rfl ?_
      repeat (first | refine WX.step tab_eq rfl rfl trivial ?_ | refine WX.step tab_eq rfl rfl (by decide) ?_ | refine WX.nil ?_ | refine W.seq ?_ | refine W.region ?_ | refine W.regionD ?_ | refine W.block ?_ | refine W.skip ?_ | refine W.exit ?_ | refine W.ret ?_ | refine W.condT rfl ?_ | refine W.condF rfl ?_ | refine WX.skip rfl ?_)
      refine WX.moveB rfl rfl ?_
      repeat (first | refine WX.step tab_eq rfl rfl trivial ?_ | refine WX.step tab_eq rfl rfl (by decide) ?_ | refine WX.nil ?_ | refine W.seq ?_ | refine W.region ?_ | refine W.regionD ?_ | refine W.block ?_ | refine W.skip ?_ | refine W.exit ?_ | refine W.ret ?_ | refine W.condT rfl ?_ | refine W.condF rfl ?_ | refine WX.skip rfl ?_)
      rfl
    · refine WX.call tab_eq rfl rfl rfl rfl rfl (hr) rfl rfl ?_
      repeat (first | refine WX.step tab_eq rfl rfl trivial ?_ | refine WX.step tab_eq rfl rfl (by decide) ?_ | refine WX.nil ?_ | refine W.seq ?_ | refine W.region ?_ | refine W.regionD ?_ | refine W.block ?_ | refine W.skip ?_ | refine W.exit ?_ | refine W.ret ?_ | refine W.condT rfl ?_ | refine W.condF rfl ?_ | refine WX.skip rfl ?_)
      refine WX.moveB rfl rfl ?_
      repeat (first | refine WX.step tab_eq rfl rfl trivial ?_ | refine WX.step tab_eq rfl rfl (by decide) ?_ | refine WX.nil ?_ | refine W.seq ?_ | refine W.region ?_ | refine W.regionD ?_ | refine W.block ?_ | refine W.skip ?_ | refine W.exit ?_ | refine W.ret ?_ | refine W.condT rfl ?_ | refine W.condF rfl ?_ | refine WX.skip rfl ?_)
      rfl
def isI (s : Bs) : Bool := numeral (cutM s).1 && !((cutM s).2 && decide ((cutM s).1 = [48]))
theorem isI_rs (q : Rat) : isI (rs q) = decide (q.den = 1) := by
  unfold isI rs qt
  have hc : cutM ((if (decide (q.num < 0) && q.num.natAbs != 0) = true then [45] else []) ++ dec q.num.natAbs ++ (if q.den = 1 then [] else 47 :: dec q.den)) = (dec q.num.natAbs ++ (if q.den = 1 then [] else 47 :: dec q.den), decide (q.num < 0)) := by
    by_cases h : q.num < 0
    · have : q.num.natAbs ≠ 0 := by omega
      simp [h, this, cutM]
    · simp only [h, decide_false, Bool.false_and]
      rw [if_neg (by simp), List.nil_append, cutM_dec]
  rw [hc]
  simp only
  by_cases hd : q.den = 1
  · simp only [hd, if_true, List.append_nil, dec_numeral, decide_true, Bool.true_and]
    by_cases h : q.num < 0
    · have : dec q.num.natAbs ≠ [48] := by
        intro e; rw [← dec_zero] at e; have := dec_inj e; omega
      simp [h, this]
    · simp [h]
  · simp only [if_neg hd, decide_eq_false hd]
    have : numeral (dec q.num.natAbs ++ 47 :: dec q.den) = false := by
      rw [Bool.eq_false_iff]; intro h
      have := numeral_all h
      simp only [List.all_append, List.all_cons, Bool.and_eq_true] at this
      exact absurd this.2.1 (by decide)
    rw [this, Bool.false_and]
theorem isInt_T (a : Bs) (h : a.length < 4611686018427387904) : T (k + 4) 34 [.str a] = some (.bool (isI a), []) := by
  have h0 := cutM_len a
  refine enter rfl func34 rfl (by decide) (by kernel_rfl) rfl rfl ?_
  repeat (first | refine WX.step tab_eq rfl rfl trivial ?_ | refine WX.step tab_eq rfl rfl (by decide) ?_ | refine WX.nil ?_ | refine W.seq ?_ | refine W.region ?_ | refine W.regionD ?_ | refine W.block ?_ | refine W.skip ?_ | refine W.exit ?_ | refine W.ret ?_ | refine W.condT rfl ?_ | refine W.condF rfl ?_ | refine WX.skip rfl ?_)
  refine WX.call tab_eq rfl rfl rfl rfl rfl (cutPrefix_T (k := k) a) rfl rfl ?_
  repeat (first | refine WX.step tab_eq rfl rfl trivial ?_ | refine WX.step tab_eq rfl rfl (by decide) ?_ | refine WX.nil ?_ | refine W.seq ?_ | refine W.region ?_ | refine W.regionD ?_ | refine W.block ?_ | refine W.skip ?_ | refine W.exit ?_ | refine W.ret ?_ | refine W.condT rfl ?_ | refine W.condF rfl ?_ | refine WX.skip rfl ?_)
  refine WX.call tab_eq rfl rfl rfl rfl rfl (numeral_T (k := k + 2) (cutM a).1 (by omega)) rfl rfl ?_
  repeat (first | refine WX.step tab_eq rfl rfl trivial ?_ | refine WX.step tab_eq rfl rfl (by decide) ?_ | refine WX.nil ?_ | refine W.seq ?_ | refine W.region ?_ | refine W.regionD ?_ | refine W.block ?_ | refine W.skip ?_ | refine W.exit ?_ | refine W.ret ?_ | refine W.condT rfl ?_ | refine W.condF rfl ?_ | refine WX.skip rfl ?_)
  unfold isI
  refine WX.boolM rfl rfl (fun b1 => ?_) (fun b1 => ?_)
  · have b1 : numeral (cutM a).1 = true := by simpa using b1
    rw [b1]
    repeat (first | refine WX.step tab_eq rfl rfl trivial ?_ | refine WX.step tab_eq rfl rfl (by decide) ?_ | refine WX.nil ?_ | refine W.seq ?_ | refine W.region ?_ | refine W.regionD ?_ | refine W.block ?_ | refine W.skip ?_ | refine W.exit ?_ | refine W.ret ?_ | refine W.condT rfl ?_ | refine W.condF rfl ?_ | refine WX.skip rfl ?_)
    refine WX.boolM rfl rfl (fun b2 => ?_) (fun b2 => ?_)
    · have b2 : (cutM a).2 = true := by simpa using b2
      rw [b2]
      repeat (first | refine WX.step tab_eq rfl rfl trivial ?_ | refine WX.step tab_eq rfl rfl (by decide) ?_ | refine WX.nil ?_ | refine W.seq ?_ | refine W.region ?_ | refine W.regionD ?_ | refine W.block ?_ | refine W.skip ?_ | refine W.exit ?_ | refine W.ret ?_ | refine W.condT rfl ?_ | refine W.condF rfl ?_ | refine WX.skip rfl ?_)
      cases decide ((cutM a).1 = [48]) <;> rfl
    · have b2 : (cutM a).2 = false := by simpa using b2
      rw [b2]
      repeat (first | refine WX.step tab_eq rfl rfl trivial ?_ | refine WX.step tab_eq rfl rfl (by decide) ?_ | refine WX.nil ?_ | refine W.seq ?_ | refine W.region ?_ | refine W.regionD ?_ | refine W.block ?_ | refine W.skip ?_ | refine W.exit ?_ | refine W.ret ?_ | refine W.condT rfl ?_ | refine W.condF rfl ?_ | refine WX.skip rfl ?_)
      rfl
  · have b1 : numeral (cutM a).1 = false := by simpa using b1
    rw [b1]
    repeat (first | refine WX.step tab_eq rfl rfl trivial ?_ | refine WX.step tab_eq rfl rfl (by decide) ?_ | refine WX.nil ?_ | refine W.seq ?_ | refine W.region ?_ | refine W.regionD ?_ | refine W.block ?_ | refine W.skip ?_ | refine W.exit ?_ | refine W.ret ?_ | refine W.condT rfl ?_ | refine W.condF rfl ?_ | refine WX.skip rfl ?_)
    rfl
def sgn (q : Rat) : Int := if q.num < 0 then -1 else if q.num = 0 then 0 else 1
theorem rs_zero : rs 0 = [48] := by
  show qt false 0 1 = _
  simp [qt, dec_zero]
theorem sgn_head {q : Rat} {a : Bs} (h : a = rs q) (h0 : a ≠ [48]) : sgn q = if a.getD 0 0 = 45 then -1 else 1 := by
  have hq : q.num ≠ 0 := by
    intro e
    apply h0
    have : q = 0 := by rw [Rat.num_eq_zero.1 e]
    rw [h, this]; exact rs_zero
  subst h
  unfold rs qt sgn
  by_cases hn : q.num < 0
  · have : q.num.natAbs ≠ 0 := by omega
    simp [hn, this]
  · rw [if_neg hn, if_neg hq]
    simp only [hn, decide_false, Bool.false_and]
    rw [if_neg]
    rw [if_neg (by simp), List.nil_append]
    cases hd : dec q.num.natAbs with
    | nil => exact absurd hd (dec_ne _)
    | cons c s =>
      simp only [List.cons_append, List.getD_cons_zero]
      exact (dg_ne (dec_mem (n := q.num.natAbs) (by rw [hd]; simp))).1
theorem sign_T (a : Bs) (h : a.length < 150994900) : T (k + 7) 75 [.str a] = some (.int .i64 (match rd a with | some q => sgn q | none => 0), []) := by
  refine enter rfl func75 rfl (by decide) (by kernel_rfl) rfl rfl ?_
  repeat (first | refine WX.step tab_eq rfl rfl trivial ?_ | refine WX.step tab_eq rfl rfl (by decide) ?_ | refine WX.nil ?_ | refine W.seq ?_ | refine W.region ?_ | refine W.regionD ?_ | refine W.block ?_ | refine W.skip ?_ | refine W.exit ?_ | refine W.ret ?_ | refine W.condT rfl ?_ | refine W.condF rfl ?_ | refine WX.skip rfl ?_)
  refine WX.call tab_eq rfl rfl rfl rfl rfl (valid_T (k := k) a h) rfl rfl ?_
  repeat (first | refine WX.step tab_eq rfl rfl trivial ?_ | refine WX.step tab_eq rfl rfl (by decide) ?_ | refine WX.nil ?_ | refine W.seq ?_ | refine W.region ?_ | refine W.regionD ?_ | refine W.block ?_ | refine W.skip ?_ | refine W.exit ?_ | refine W.ret ?_ | refine W.condT rfl ?_ | refine W.condF rfl ?_ | refine WX.skip rfl ?_)
  refine WX.boolM rfl rfl (fun b1 => ?_) (fun b1 => ?_)
  · have b1 : rd a = none := by simpa using b1
    rw [b1]
    repeat (first | refine WX.step tab_eq rfl rfl trivial ?_ | refine WX.step tab_eq rfl rfl (by decide) ?_ | refine WX.nil ?_ | refine W.seq ?_ | refine W.region ?_ | refine W.regionD ?_ | refine W.block ?_ | refine W.skip ?_ | refine W.exit ?_ | refine W.ret ?_ | refine W.condT rfl ?_ | refine W.condF rfl ?_ | refine WX.skip rfl ?_)
    rfl
  · obtain ⟨q, b1⟩ : ∃ q, rd a = some q := Option.isSome_iff_exists.1 (by simpa using b1)
    have hq := rs_rd b1
    rw [b1]
    repeat (first | refine WX.step tab_eq rfl rfl trivial ?_ | refine WX.step tab_eq rfl rfl (by decide) ?_ | refine WX.nil ?_ | refine W.seq ?_ | refine W.region ?_ | refine W.regionD ?_ | refine W.block ?_ | refine W.skip ?_ | refine W.exit ?_ | refine W.ret ?_ | refine W.condT rfl ?_ | refine W.condF rfl ?_ | refine WX.skip rfl ?_)
    refine W.cond rfl (fun b2 => ?_) (fun b2 => ?_)
    · have b2 : a = [48] := by simpa using b2
      repeat (first | refine WX.step tab_eq rfl rfl trivial ?_ | refine WX.step tab_eq rfl rfl (by decide) ?_ | refine WX.nil ?_ | refine W.seq ?_ | refine W.region ?_ | refine W.regionD ?_ | refine W.block ?_ | refine W.skip ?_ | refine W.exit ?_ | refine W.ret ?_ | refine W.condT rfl ?_ | refine W.condF rfl ?_ | refine WX.skip rfl ?_)
      show some (PV.int .i64 0, []) = some (PV.int .i64 (sgn q), [])
      rw [show sgn q = 0 by
        have : q = 0 := by
          apply rs_inj; rw [← hq, b2]; exact rs_zero.symm
        subst this; rfl]
    · have b2 : a ≠ [48] := by simpa using b2
      have b3 : a ≠ [] := by
        rintro rfl; revert b1; rw [show rd [] = none from rfl]; exact fun h => nomatch h
      have b4 := List.length_pos_iff.2 b3
      have hs := sgn_head hq b2
      repeat (first | refine WX.step tab_eq rfl rfl trivial ?_ | refine WX.step tab_eq rfl rfl (by decide) ?_ | refine WX.nil ?_ | refine W.seq ?_ | refine W.region ?_ | refine W.regionD ?_ | refine W.block ?_ | refine W.skip ?_ | refine W.exit ?_ | refine W.ret ?_ | refine W.condT rfl ?_ | refine W.condF rfl ?_ | refine WX.skip rfl ?_)
      refine WX.step tab_eq rfl rfl (by constructor <;> omega) ?_
      repeat (first | refine WX.step tab_eq rfl rfl trivial ?_ | refine WX.step tab_eq rfl rfl (by decide) ?_ | refine WX.nil ?_ | refine W.seq ?_ | refine W.region ?_ | refine W.regionD ?_ | refine W.block ?_ | refine W.skip ?_ | refine W.exit ?_ | refine W.ret ?_ | refine W.condT rfl ?_ | refine W.condF rfl ?_ | refine WX.skip rfl ?_)
      refine W.cond rfl (fun b5 => ?_) (fun b5 => ?_)
      · repeat (first | refine WX.step tab_eq rfl rfl trivial ?_ | refine WX.step tab_eq rfl rfl (by decide) ?_ | refine WX.nil ?_ | refine W.seq ?_ | refine W.region ?_ | refine W.regionD ?_ | refine W.block ?_ | refine W.skip ?_ | refine W.exit ?_ | refine W.ret ?_ | refine W.condT rfl ?_ | refine W.condF rfl ?_ | refine WX.skip rfl ?_)
        show some (PV.int .i64 (-1), []) = some (PV.int .i64 (sgn q), [])
        rw [hs, if_pos]
        have := of_decide_eq_true b5
        apply UInt8.toNat_inj.1
        exact Int.ofNat_inj.1 this
      · repeat (first | refine WX.step tab_eq rfl rfl trivial ?_ | refine WX.step tab_eq rfl rfl (by decide) ?_ | refine WX.nil ?_ | refine W.seq ?_ | refine W.region ?_ | refine W.regionD ?_ | refine W.block ?_ | refine W.skip ?_ | refine W.exit ?_ | refine W.ret ?_ | refine W.condT rfl ?_ | refine W.condF rfl ?_ | refine WX.skip rfl ?_)
        show some (PV.int .i64 1, []) = some (PV.int .i64 (sgn q), [])
        rw [hs, if_neg]
        intro h
        have := of_decide_eq_false b5
        apply this
        show ((a.getD 0 0).toNat : Int) = 45
        rw [h]; rfl
end Go.PE
namespace Go.PE
open Go.RowKit Go.Proofs.Tryz
set_option maxRecDepth 100000
variable {k : Nat}
theorem take_dg {s : Bs} {i : Nat} (h : i < s.length) : s.take (i + 1) = s.take i ++ [s.getD i 0] := by
  rw [List.take_succ_eq_append_getElem (by omega)]
  simp [List.getD, List.getElem?_eq_getElem h]
theorem all_bad {s : Bs} {i : Nat} (hi : i < s.length) (h : isDg (s.getD i 0) = false) : s.all isDg = false := by
  have hc : [s.getD i 0].all isDg = false := by
    show (isDg (s.getD i 0) && true) = false
    rw [h]; rfl
  rw [← List.take_append_drop (i + 1) s, List.all_append, take_dg hi, List.all_append, hc, Bool.and_false, Bool.false_and]
theorem isDg_eq (c : UInt8) : isDg c = (decide (48 ≤ c.toNat) && decide (c.toNat ≤ 57)) := rfl
theorem digits_T (s : Bs) (hs : s.length < 4611686018427387904) : T (k + 1) 184 [.str s] = some (.bool (s.all isDg && decide (s ≠ [])), []) := by
  refine enter rfl func184 rfl (by decide) (by kernel_rfl) rfl rfl ?_
  repeat (first | refine WX.step tab_eq rfl rfl trivial ?_ | refine WX.step tab_eq rfl rfl (by decide) ?_ | refine WX.nil ?_ | refine W.seq ?_ | refine W.region ?_ | refine W.regionD ?_ | refine W.block ?_ | refine W.skip ?_ | refine W.exit ?_ | refine W.ret ?_ | refine W.condT rfl ?_ | refine W.condF rfl ?_ | refine WX.skip rfl ?_)
  refine W.loop (fun e m => ∃ (i : Nat), e = [(0, .str s), (3, .int .i64 i)] ∧ i ≤ s.length ∧ (s.take i).all isDg = true ∧ m = s.length - i) s.length ?_ ?_ ?_
  · exact ⟨0, rfl, by omega, rfl, by omega⟩
  · show _ < 4611686018427387904; omega
  · rintro e m ⟨i, rfl, hi, hd, rfl⟩
    repeat (first | refine WX.step tab_eq rfl rfl trivial ?_ | refine WX.step tab_eq rfl rfl (by decide) ?_ | refine WX.nil ?_ | refine W.seq ?_ | refine W.region ?_ | refine W.regionD ?_ | refine W.block ?_ | refine W.skip ?_ | refine W.exit ?_ | refine W.ret ?_ | refine W.condT rfl ?_ | refine W.condF rfl ?_ | refine WX.skip rfl ?_)
    refine W.cond rfl (fun hlt => ?_) (fun hlt => ?_)
    · have hlt := of_decide_eq_true hlt
      have hbad : isDg (s.getD i 0) = false → s.all isDg = false := all_bad (by omega)
      have htk := take_dg (s := s) (i := i) (by omega)
      have hgood : isDg (s.getD i 0) = true → (s.take (i + 1)).all isDg = true := by
        intro h
        rw [htk, List.all_append, hd]
        show (true && (isDg (s.getD i 0) && true)) = true
        rw [h]; rfl
      have hdg := isDg_eq (s.getD i 0)
      repeat (first | refine WX.step tab_eq rfl rfl trivial ?_ | refine WX.step tab_eq rfl rfl (by decide) ?_ | refine WX.nil ?_ | refine W.seq ?_ | refine W.region ?_ | refine W.regionD ?_ | refine W.block ?_ | refine W.skip ?_ | refine W.exit ?_ | refine W.ret ?_ | refine W.condT rfl ?_ | refine W.condF rfl ?_ | refine WX.skip rfl ?_)
      refine WX.step tab_eq rfl rfl (by constructor <;> omega) ?_
      repeat (first | refine WX.step tab_eq rfl rfl trivial ?_ | refine WX.step tab_eq rfl rfl (by decide) ?_ | refine WX.nil ?_ | refine W.seq ?_ | refine W.region ?_ | refine W.regionD ?_ | refine W.block ?_ | refine W.skip ?_ | refine W.exit ?_ | refine W.ret ?_ | refine W.condT rfl ?_ | refine W.condF rfl ?_ | refine WX.skip rfl ?_)
      refine WX.boolM rfl rfl (fun hb => ?_) (fun hb => ?_)
      · have hb := of_decide_eq_true hb
        have hz : s.all isDg = false := hbad (by
          rw [hdg, decide_eq_false (by simp only [Int.toNat_natCast] at hb; omega), Bool.false_and])
        repeat (first | refine WX.step tab_eq rfl rfl trivial ?_ | refine WX.step tab_eq rfl rfl (by decide) ?_ | refine WX.nil ?_ | refine W.seq ?_ | refine W.region ?_ | refine W.regionD ?_ | refine W.block ?_ | refine W.skip ?_ | refine W.exit ?_ | refine W.ret ?_ | refine W.condT rfl ?_ | refine W.condF rfl ?_ | refine WX.skip rfl ?_)
        rw [hz]
        rfl
      · have hb := of_decide_eq_false hb
        repeat (first | refine WX.step tab_eq rfl rfl trivial ?_ | refine WX.step tab_eq rfl rfl (by decide) ?_ | refine WX.nil ?_ | refine W.seq ?_ | refine W.region ?_ | refine W.regionD ?_ | refine W.block ?_ | refine W.skip ?_ | refine W.exit ?_ | refine W.ret ?_ | refine W.condT rfl ?_ | refine W.condF rfl ?_ | refine WX.skip rfl ?_)
        refine WX.step tab_eq rfl rfl (by constructor <;> omega) ?_
        repeat (first | refine WX.step tab_eq rfl rfl trivial ?_ | refine WX.step tab_eq rfl rfl (by decide) ?_ | refine WX.nil ?_ | refine W.seq ?_ | refine W.region ?_ | refine W.regionD ?_ | refine W.block ?_ | refine W.skip ?_ | refine W.exit ?_ | refine W.ret ?_ | refine W.condT rfl ?_ | refine W.condF rfl ?_ | refine WX.skip rfl ?_)
        refine W.cond rfl (fun hb2 => ?_) (fun hb2 => ?_)
        · have hb2 := of_decide_eq_true hb2
          have hz : s.all isDg = false := hbad (by
            rw [hdg, decide_eq_false (p := (s.getD i 0).toNat ≤ 57) (by simp only [Int.toNat_natCast] at hb2; omega), Bool.and_false])
          repeat (first | refine WX.step tab_eq rfl rfl trivial ?_ | refine WX.step tab_eq rfl rfl (by decide) ?_ | refine WX.nil ?_ | refine W.seq ?_ | refine W.region ?_ | refine W.regionD ?_ | refine W.block ?_ | refine W.skip ?_ | refine W.exit ?_ | refine W.ret ?_ | refine W.condT rfl ?_ | refine W.condF rfl ?_ | refine WX.skip rfl ?_)
          rw [hz]
          rfl
        · have hb2 := of_decide_eq_false hb2
          have hz := hgood (by simp only [Int.toNat_natCast] at hb hb2; rw [hdg, decide_eq_true (by omega), decide_eq_true (by omega)]; rfl)
          repeat (first | refine WX.step tab_eq rfl rfl trivial ?_ | refine WX.step tab_eq rfl rfl (by decide) ?_ | refine WX.nil ?_ | refine W.seq ?_ | refine W.region ?_ | refine W.regionD ?_ | refine W.block ?_ | refine W.skip ?_ | refine W.exit ?_ | refine W.ret ?_ | refine W.condT rfl ?_ | refine W.condF rfl ?_ | refine WX.skip rfl ?_)
          rw [wrap_i64 (x := (i : Int) + 1) (by omega) (by omega)]
          show ∃ m', _
          exact ⟨s.length - (i + 1), by omega, i + 1, rfl, by omega, hz, rfl⟩
    · have hlt := of_decide_eq_false hlt
      have hie : i = s.length := by omega
      subst hie
      rw [List.take_length] at hd
      repeat (first | refine WX.step tab_eq rfl rfl trivial ?_ | refine WX.step tab_eq rfl rfl (by decide) ?_ | refine WX.nil ?_ | refine W.seq ?_ | refine W.region ?_ | refine W.regionD ?_ | refine W.block ?_ | refine W.skip ?_ | refine W.exit ?_ | refine W.ret ?_ | refine W.condT rfl ?_ | refine W.condF rfl ?_ | refine WX.skip rfl ?_)
      rw [hd]
      rfl
theorem val_zero (s : Bs) : val (48 :: s) = val s := by rw [val_cons]; simp [dv]
theorem rtrim_T (s : Bs) (hd : s.all isDg = true) (h0 : s ≠ []) (hs : s.length < 4611686018427387904) : T (k + 1) 185 [.str s] = some (.str (dec (val s)), []) := by
  refine enter rfl func185 rfl (by decide) (by kernel_rfl) rfl rfl ?_
  repeat (first | refine WX.step tab_eq rfl rfl trivial ?_ | refine WX.step tab_eq rfl rfl (by decide) ?_ | refine WX.nil ?_ | refine W.seq ?_ | refine W.region ?_ | refine W.regionD ?_ | refine W.block ?_ | refine W.skip ?_ | refine W.exit ?_ | refine W.ret ?_ | refine W.condT rfl ?_ | refine W.condF rfl ?_ | refine WX.skip rfl ?_)
  refine W.loop (fun e m => ∃ (t : Bs), e = [(0, .str t)] ∧ t.all isDg = true ∧ t ≠ [] ∧ t.length ≤ s.length ∧ val t = val s ∧ m = t.length) s.length ?_ ?_ ?_
  · exact ⟨s, rfl, hd, h0, by omega, rfl, rfl⟩
  · show _ < 4611686018427387904; omega
  · rintro e m ⟨t, rfl, htd, ht0, htl, hv, rfl⟩
    have hend : ¬ (1 < t.length ∧ t.head? = some 48) → dec (val s) = t := by
      intro h
      rw [← hv]
      apply dec_val
      unfold numeral
      rw [htd, Bool.true_and]
      cases t with
      | nil => exact absurd rfl ht0
      | cons c t =>
        cases t with
        | nil =>
          by_cases hc : c = 48
          · subst hc; rfl
          · simp [hc]
        | cons d t => simp at h; simp [h]
    repeat (first | refine WX.step tab_eq rfl rfl trivial ?_ | refine WX.step tab_eq rfl rfl (by decide) ?_ | refine WX.nil ?_ | refine W.seq ?_ | refine W.region ?_ | refine W.regionD ?_ | refine W.block ?_ | refine W.skip ?_ | refine W.exit ?_ | refine W.ret ?_ | refine W.condT rfl ?_ | refine W.condF rfl ?_ | refine WX.skip rfl ?_)
    refine WX.boolM rfl rfl (fun hb => ?_) (fun hb => ?_)
    · have hb := of_decide_eq_true hb
      repeat (first | refine WX.step tab_eq rfl rfl trivial ?_ | refine WX.step tab_eq rfl rfl (by decide) ?_ | refine WX.nil ?_ | refine W.seq ?_ | refine W.region ?_ | refine W.regionD ?_ | refine W.block ?_ | refine W.skip ?_ | refine W.exit ?_ | refine W.ret ?_ | refine W.condT rfl ?_ | refine W.condF rfl ?_ | refine WX.skip rfl ?_)
      refine WX.step tab_eq rfl rfl (by constructor <;> omega) ?_
      repeat (first | refine WX.step tab_eq rfl rfl trivial ?_ | refine WX.step tab_eq rfl rfl (by decide) ?_ | refine WX.nil ?_ | refine W.seq ?_ | refine W.region ?_ | refine W.regionD ?_ | refine W.block ?_ | refine W.skip ?_ | refine W.exit ?_ | refine W.ret ?_ | refine W.condT rfl ?_ | refine W.condF rfl ?_ | refine WX.skip rfl ?_)
      refine W.cond rfl (fun hb2 => ?_) (fun hb2 => ?_)
      · have hb2 := of_decide_eq_true hb2
        repeat (first | refine WX.step tab_eq rfl rfl trivial ?_ | refine WX.step tab_eq rfl rfl (by decide) ?_ | refine WX.nil ?_ | refine W.seq ?_ | refine W.region ?_ | refine W.regionD ?_ | refine W.block ?_ | refine W.skip ?_ | refine W.exit ?_ | refine W.ret ?_ | refine W.condT rfl ?_ | refine W.condF rfl ?_ | refine WX.skip rfl ?_)
        refine WX.step tab_eq rfl rfl (by constructor <;> omega) ?_
        repeat (first | refine WX.step tab_eq rfl rfl trivial ?_ | refine WX.step tab_eq rfl rfl (by decide) ?_ | refine WX.nil ?_ | refine W.seq ?_ | refine W.region ?_ | refine W.regionD ?_ | refine W.block ?_ | refine W.skip ?_ | refine W.exit ?_ | refine W.ret ?_ | refine W.condT rfl ?_ | refine W.condF rfl ?_ | refine WX.skip rfl ?_)
        show ∃ m', _
        obtain ⟨c, t, rfl⟩ := List.exists_cons_of_ne_nil ht0
        have hc : c = 48 := UInt8.toNat_inj.1 (Int.ofNat_inj.1 hb2)
        subst hc
        simp only [List.length_cons] at hb
        refine ⟨t.length, by simp, t, rfl, (by rw [List.all_cons, Bool.and_eq_true] at htd; exact htd.2), ?_, (by simp only [List.length_cons] at htl; omega), (by rw [← hv, val_zero]), rfl⟩
        rintro rfl
        simp at hb
      · have hb2 := of_decide_eq_false hb2
        repeat (first | refine WX.step tab_eq rfl rfl trivial ?_ | refine WX.step tab_eq rfl rfl (by decide) ?_ | refine WX.nil ?_ | refine W.seq ?_ | refine W.region ?_ | refine W.regionD ?_ | refine W.block ?_ | refine W.skip ?_ | refine W.exit ?_ | refine W.ret ?_ | refine W.condT rfl ?_ | refine W.condF rfl ?_ | refine WX.skip rfl ?_)
        rw [hend (fun h => hb2 (by
          obtain ⟨c, t, rfl⟩ := List.exists_cons_of_ne_nil ht0
          have : c = 48 := by simpa using h.2
          subst this; rfl))]
        rfl
    · have hb := of_decide_eq_false hb
      repeat (first | refine WX.step tab_eq rfl rfl trivial ?_ | refine WX.step tab_eq rfl rfl (by decide) ?_ | refine WX.nil ?_ | refine W.seq ?_ | refine W.region ?_ | refine W.regionD ?_ | refine W.block ?_ | refine W.skip ?_ | refine W.exit ?_ | refine W.ret ?_ | refine W.condT rfl ?_ | refine W.condF rfl ?_ | refine WX.skip rfl ?_)
      rw [hend (by omega)]
      rfl
theorem lexAux {c d x y p : Nat} (hc : 48 ≤ c) (hd : 48 ≤ d) (h1 : x < p) (h2 : y < p) : (c < d ∨ c = d ∧ x < y) ↔ (c - 48) * p + x < (d - 48) * p + y := by
  rcases Nat.lt_trichotomy c d with h3 | h3 | h3
  · have : (c - 48) * p + x < (d - 48) * p + y := by
      have : (c - 48 + 1) * p ≤ (d - 48) * p := Nat.mul_le_mul_right _ (by omega)
      rw [Nat.add_mul] at this; omega
    exact ⟨fun _ => this, fun _ => Or.inl h3⟩
  · subst h3
    constructor
    · rintro (h | ⟨_, h⟩) <;> omega
    · intro h; right; exact ⟨rfl, by omega⟩
  · have : ¬ (c - 48) * p + x < (d - 48) * p + y := by
      have : (d - 48 + 1) * p ≤ (c - 48) * p := Nat.mul_le_mul_right _ (by omega)
      rw [Nat.add_mul] at this; omega
    constructor
    · rintro (h | ⟨h, _⟩) <;> omega
    · intro h; exact absurd h this
theorem val_lex : ∀ {x y : Bs}, x.all isDg = true → y.all isDg = true → x.length = y.length → Op.bytesLess x y = decide (val x < val y)
  | [], [], _, _, _ => by simp [Op.bytesLess, val_nil]
  | [], d :: t, _, _, h => by simp at h
  | c :: s, [], _, _, h => by simp at h
  | c :: s, d :: t, hx, hy, h => by
    rw [List.all_cons, Bool.and_eq_true] at hx hy
    simp only [List.length_cons, Nat.add_right_cancel_iff] at h
    have ih := val_lex hx.2 hy.2 h
    have h1 := val_lt hx.2
    have h2 := val_lt hy.2
    rw [Op.bytesLess, ih, val_cons, val_cons, h]
    rw [h] at h1
    generalize 10 ^ t.length = p at *
    have hc := isDg_eq c
    have hd := isDg_eq d
    rw [hx.1] at hc; rw [hy.1] at hd
    have hc : 48 ≤ c.toNat ∧ c.toNat ≤ 57 := by simpa using hc.symm
    have hd : 48 ≤ d.toNat ∧ d.toNat ≤ 57 := by simpa using hd.symm
    unfold dv
    have e1 : (c < d) ↔ c.toNat < d.toNat := UInt8.lt_iff_toNat_lt
    have e2 : c = d ↔ c.toNat = d.toNat := UInt8.toNat_inj.symm
    rw [Bool.eq_iff_iff]
    simp only [Bool.or_eq_true, decide_eq_true_eq, Bool.and_eq_true, beq_iff_eq, e1, e2]
    exact lexAux hc.1 hd.1 h1 h2
theorem dec_lex {a b : Nat} (h : (dec a).length = (dec b).length) : Op.bytesLess (dec a) (dec b) = decide (a < b) := by
  rw [val_lex (dec_all a) (dec_all b) h, val_dec, val_dec]
theorem cmpMag_T (a b : Nat) :
    T (k + 1) 181 [.str (dec a), .str (dec b)] = some (.int .i64 (if a < b then -1 else if a = b then 0 else 1), []) := by
  have h1 := @dec_lex a b
  have h2 : a = b ↔ dec a = dec b := ⟨fun h => h ▸ rfl, dec_inj⟩
  have h3 : (dec a).length < (dec b).length → a < b := by
    intro h
    apply Nat.lt_of_not_le
    intro h'
    have := dec_len_mono h'
    omega
  have h4 : a < b → (dec a).length ≤ (dec b).length := fun h => dec_len_mono (by omega)
  generalize hx : dec a = x at *
  generalize hy : dec b = y at *
  refine enter rfl func181 rfl (by decide) (by kernel_rfl) rfl rfl ?_
  repeat (first | refine WX.step tab_eq rfl rfl trivial ?_ | refine WX.step tab_eq rfl rfl (by decide) ?_ | refine WX.nil ?_ | refine W.seq ?_ | refine W.region ?_ | refine W.regionD ?_ | refine W.block ?_ | refine W.skip ?_ | refine W.exit ?_ | refine W.ret ?_ | refine W.condT rfl ?_ | refine W.condF rfl ?_ | refine WX.skip rfl ?_)
  refine WX.boolM rfl rfl (fun b1 => ?_) (fun b1 => ?_)
  · have b1 := of_decide_eq_true b1
    repeat (first | refine WX.step tab_eq rfl rfl trivial ?_ | refine WX.step tab_eq rfl rfl (by decide) ?_ | refine WX.nil ?_ | refine W.seq ?_ | refine W.region ?_ | refine W.regionD ?_ | refine W.block ?_ | refine W.skip ?_ | refine W.exit ?_ | refine W.ret ?_ | refine W.condT rfl ?_ | refine W.condF rfl ?_ | refine WX.skip rfl ?_)
    rw [if_pos (h3 (by omega))]
    rfl
  · have b1 := of_decide_eq_false b1
    repeat (first | refine WX.step tab_eq rfl rfl trivial ?_ | refine WX.step tab_eq rfl rfl (by decide) ?_ | refine WX.nil ?_ | refine W.seq ?_ | refine W.region ?_ | refine W.regionD ?_ | refine W.block ?_ | refine W.skip ?_ | refine W.exit ?_ | refine W.ret ?_ | refine W.condT rfl ?_ | refine W.condF rfl ?_ | refine WX.skip rfl ?_)
    refine WX.boolM rfl rfl (fun b2 => ?_) (fun b2 => ?_)
    · have b2 := of_decide_eq_true b2
      repeat (first | refine WX.step tab_eq rfl rfl trivial ?_ | refine WX.step tab_eq rfl rfl (by decide) ?_ | refine WX.nil ?_ | refine W.seq ?_ | refine W.region ?_ | refine W.regionD ?_ | refine W.block ?_ | refine W.skip ?_ | refine W.exit ?_ | refine W.ret ?_ | refine W.condT rfl ?_ | refine W.condF rfl ?_ | refine WX.skip rfl ?_)
      have h1' := h1 (by omega)
      refine W.cond rfl (fun b3 => ?_) (fun b3 => ?_)
      · repeat (first | refine WX.step tab_eq rfl rfl trivial ?_ | refine WX.step tab_eq rfl rfl (by decide) ?_ | refine WX.nil ?_ | refine W.seq ?_ | refine W.region ?_ | refine W.regionD ?_ | refine W.block ?_ | refine W.skip ?_ | refine W.exit ?_ | refine W.ret ?_ | refine W.condT rfl ?_ | refine W.condF rfl ?_ | refine WX.skip rfl ?_)
        rw [if_pos (of_decide_eq_true (h1' ▸ b3))]
        rfl
      · have b3 : ¬ a < b := of_decide_eq_false (h1' ▸ b3)
        repeat (first | refine WX.step tab_eq rfl rfl trivial ?_ | refine WX.step tab_eq rfl rfl (by decide) ?_ | refine WX.nil ?_ | refine W.seq ?_ | refine W.region ?_ | refine W.regionD ?_ | refine W.block ?_ | refine W.skip ?_ | refine W.exit ?_ | refine W.ret ?_ | refine W.condT rfl ?_ | refine W.condF rfl ?_ | refine WX.skip rfl ?_)
        refine W.cond rfl (fun b4 => ?_) (fun b4 => ?_)
        · have b4 := of_decide_eq_true b4
          repeat (first | refine WX.step tab_eq rfl rfl trivial ?_ | refine WX.step tab_eq rfl rfl (by decide) ?_ | refine WX.nil ?_ | refine W.seq ?_ | refine W.region ?_ | refine W.regionD ?_ | refine W.block ?_ | refine W.skip ?_ | refine W.exit ?_ | refine W.ret ?_ | refine W.condT rfl ?_ | refine W.condF rfl ?_ | refine WX.skip rfl ?_)
          rw [if_neg b3, if_pos (h2.2 b4)]
          rfl
        · have b4 := of_decide_eq_false b4
          repeat (first | refine WX.step tab_eq rfl rfl trivial ?_ | refine WX.step tab_eq rfl rfl (by decide) ?_ | refine WX.nil ?_ | refine W.seq ?_ | refine W.region ?_ | refine W.regionD ?_ | refine W.block ?_ | refine W.skip ?_ | refine W.exit ?_ | refine W.ret ?_ | refine W.condT rfl ?_ | refine W.condF rfl ?_ | refine WX.skip rfl ?_)
          rw [if_neg b3, if_neg (fun e => b4 (h2.1 e))]
          rfl
    · have b2 := of_decide_eq_false b2
      repeat (first | refine WX.step tab_eq rfl rfl trivial ?_ | refine WX.step tab_eq rfl rfl (by decide) ?_ | refine WX.nil ?_ | refine W.seq ?_ | refine W.region ?_ | refine W.regionD ?_ | refine W.block ?_ | refine W.skip ?_ | refine W.exit ?_ | refine W.ret ?_ | refine W.condT rfl ?_ | refine W.condF rfl ?_ | refine WX.skip rfl ?_)
      refine W.cond rfl (fun b4 => ?_) (fun b4 => ?_)
      · have b4 := of_decide_eq_true b4
        exact absurd (by rw [b4]) b2
      · have b4 := of_decide_eq_false b4
        repeat (first | refine WX.step tab_eq rfl rfl trivial ?_ | refine WX.step tab_eq rfl rfl (by decide) ?_ | refine WX.nil ?_ | refine W.seq ?_ | refine W.region ?_ | refine W.regionD ?_ | refine W.block ?_ | refine W.skip ?_ | refine W.exit ?_ | refine W.ret ?_ | refine W.condT rfl ?_ | refine W.condF rfl ?_ | refine WX.skip rfl ?_)
        rw [if_neg (fun e => by have := h4 e; omega), if_neg (fun e => b4 (h2.1 e))]
        rfl
end Go.PE
