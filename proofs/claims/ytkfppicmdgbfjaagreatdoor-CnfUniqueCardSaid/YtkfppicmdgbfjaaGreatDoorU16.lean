/-
  A part of the proof that the law's function returns true and leaves its arguments as they were, for every input (no condition): own lemmas of the proof, in the order of their use.
-/
import Derived.Lib.ItoaNum
import Derived.Test.YtkfppicmdgbfjaaGreatDoorU14
import Derived.Test.YtkfppicmdgbfjaaGreatDoorU15
set_option linter.all false
namespace Go.PE
/-! ### Decimal digits -/
abbrev Bs := List UInt8
def isDg (c : UInt8) : Bool := 48 ≤ c.toNat && c.toNat ≤ 57
def dv (c : UInt8) : Nat := c.toNat - 48
def val (s : Bs) : Nat := s.foldl (fun n c => n * 10 + dv c) 0
def dec (n : Nat) : Bs := Lib.decDigits n
def numeral (s : Bs) : Bool := s.all isDg && (s == [48] || (s != [] && s.head? != some 48))
theorem val_nil : val [] = 0 := rfl
theorem foldl_dv (s : Bs) (n : Nat) : s.foldl (fun n c => n * 10 + dv c) n = n * 10 ^ s.length + val s := by
  induction s generalizing n with
  | nil => simp [val]
  | cons c s ih =>
    unfold val
    simp only [List.foldl_cons, List.length_cons]
    rw [ih, ih (0 * 10 + dv c), Nat.pow_succ]
    simp only [Nat.zero_mul, Nat.zero_add, Nat.add_mul]
    rw [Nat.mul_assoc n 10, Nat.mul_comm 10]
    omega
theorem val_append (s t : Bs) : val (s ++ t) = val s * 10 ^ t.length + val t := by
  unfold val
  rw [List.foldl_append, foldl_dv]
  rfl
theorem val_cons (c : UInt8) (s : Bs) : val (c :: s) = dv c * 10 ^ s.length + val s := by
  rw [show c :: s = [c] ++ s from rfl, val_append]
  simp [val]
theorem val_snoc (s : Bs) (c : UInt8) : val (s ++ [c]) = val s * 10 + dv c := by
  rw [val_append]; simp [val]
theorem dv_lt {c : UInt8} (h : isDg c = true) : dv c < 10 := by
  unfold isDg at h; unfold dv; simp at h; omega
theorem val_lt : ∀ {s : Bs}, s.all isDg = true → val s < 10 ^ s.length
  | [], _ => by simp [val]
  | c :: s, h => by
    rw [List.all_cons, Bool.and_eq_true] at h
    have h1 := dv_lt h.1
    have h2 := val_lt h.2
    rw [val_cons, List.length_cons, Nat.pow_succ]
    have : dv c * 10 ^ s.length ≤ 9 * 10 ^ s.length := Nat.mul_le_mul_right _ (by omega)
    omega
theorem dec_small {n : Nat} (h : n < 10) : dec n = [UInt8.ofNat (48 + n)] := by
  unfold dec; rw [Lib.decDigits, dif_pos h]
theorem dec_big {n : Nat} (h : ¬ n < 10) : dec n = dec (n / 10) ++ [UInt8.ofNat (48 + n % 10)] := by
  unfold dec; rw [Lib.decDigits, dif_neg h]
theorem dg_nat {k : Nat} (h : k < 10) : (UInt8.ofNat (48 + k)).toNat = 48 + k := by
  rw [UInt8.toNat_ofNat', Nat.mod_eq_of_lt (by omega)]
theorem dg_dv {k : Nat} (h : k < 10) : dv (UInt8.ofNat (48 + k)) = k := by
  unfold dv
  rw [dg_nat h]
  omega
theorem dg_isDg {k : Nat} (h : k < 10) : isDg (UInt8.ofNat (48 + k)) = true := by
  unfold isDg
  rw [dg_nat h]
  rw [Bool.and_eq_true, decide_eq_true_eq, decide_eq_true_eq]; omega
theorem dg_of {c : UInt8} (h : isDg c = true) : UInt8.ofNat (48 + dv c) = c := by
  unfold isDg at h; unfold dv; simp at h
  apply UInt8.toNat.inj
  rw [UInt8.toNat_ofNat', Nat.mod_eq_of_lt (by omega)]
  omega
theorem val_dec (n : Nat) : val (dec n) = n := by
  induction n using Nat.strongRecOn with
  | _ n ih =>
    by_cases h : n < 10
    · rw [dec_small h]; show 0 * 10 + dv _ = _; rw [dg_dv h]; omega
    · rw [dec_big h, val_snoc, ih _ (by omega), dg_dv (by omega)]
      omega
theorem dec_all (n : Nat) : (dec n).all isDg = true := by
  induction n using Nat.strongRecOn with
  | _ n ih =>
    by_cases h : n < 10
    · rw [dec_small h]; show (isDg _ && true) = true; rw [dg_isDg h]; rfl
    · rw [dec_big h, List.all_append, ih _ (by omega)]
      show (true && (isDg _ && true)) = true
      rw [dg_isDg (show n % 10 < 10 by omega)]; rfl
theorem dec_ne (n : Nat) : dec n ≠ [] := by
  by_cases h : n < 10
  · rw [dec_small h]; simp
  · rw [dec_big h]; simp
theorem dec_zero : dec 0 = [48] := by rw [dec_small (by omega)]; rfl
theorem dec_head (n : Nat) (h : 0 < n) : (dec n).head? ≠ some 48 := by
  induction n using Nat.strongRecOn with
  | _ n ih =>
    by_cases h10 : n < 10
    · rw [dec_small h10]
      simp only [List.head?_cons, ne_eq, Option.some.injEq]
      intro hc
      have := congrArg UInt8.toNat hc
      rw [dg_nat h10] at this
      have h48 : (48 : UInt8).toNat = 48 := rfl
      omega
    · rw [dec_big h10, List.head?_append]
      have := ih (n / 10) (by omega) (by omega)
      cases hd : (dec (n / 10)).head? with
      | none => rw [List.head?_eq_none_iff] at hd; exact absurd hd (dec_ne _)
      | some c => rw [hd] at this; simpa using this
theorem dec_numeral (n : Nat) : numeral (dec n) = true := by
  unfold numeral
  rw [dec_all, Bool.true_and, Bool.or_eq_true]
  by_cases h : n = 0
  · subst h; left; rw [dec_zero]; rfl
  · right
    rw [Bool.and_eq_true]
    exact ⟨by simpa using dec_ne n, by simpa using dec_head n (by omega)⟩
theorem val_pos_of_head : ∀ {s : Bs}, s.all isDg = true → s ≠ [] → s.head? ≠ some 48 → 10 ^ (s.length - 1) ≤ val s
  | [], _, h, _ => absurd rfl h
  | c :: s, h, _, hh => by
    rw [List.all_cons, Bool.and_eq_true] at h
    rw [val_cons, List.length_cons, Nat.add_sub_cancel]
    have : 1 ≤ dv c := by
      have h1 := h.1
      unfold isDg at h1; unfold dv; simp at h1
      have : c.toNat ≠ 48 := fun hc => hh (by simp; exact UInt8.toNat.inj (by simpa using hc))
      omega
    have := Nat.mul_le_mul_right (10 ^ s.length) this
    omega
theorem dec_val_aux : ∀ (s : Bs), s.all isDg = true → s ≠ [] → s.head? ≠ some 48 → dec (val s) = s := by
  intro s
  induction hn : s.length using Nat.strongRecOn generalizing s with
  | _ n ih =>
    intro h1 h2 h3
    obtain ⟨t, c, rfl⟩ : ∃ t c, s = t ++ [c] := ⟨s.dropLast, s.getLast h2, (List.dropLast_concat_getLast h2).symm⟩
    rw [List.all_append, Bool.and_eq_true] at h1
    have hc : isDg c = true := by simpa using h1.2
    have hd := dv_lt hc
    rw [val_snoc]
    by_cases ht : t = []
    · subst ht
      rw [val_nil, Nat.zero_mul, Nat.zero_add, dec_small hd, dg_of hc]
      rfl
    · have hh : t.head? ≠ some 48 := by
        intro hx; apply h3; rw [List.head?_append, hx]; rfl
      have hp := val_pos_of_head h1.1 ht hh
      have hpos : 0 < val t := Nat.lt_of_lt_of_le (Nat.pow_pos (by omega)) hp
      rw [dec_big (by omega)]
      rw [show (val t * 10 + dv c) / 10 = val t by omega, show (val t * 10 + dv c) % 10 = dv c by omega, dg_of hc]
      rw [ih t.length (by rw [← hn]; simp) t rfl h1.1 ht hh]
theorem dec_val {s : Bs} (h : numeral s = true) : dec (val s) = s := by
  unfold numeral at h
  rw [Bool.and_eq_true, Bool.or_eq_true] at h
  obtain ⟨h1, h2 | h2⟩ := h
  · have : s = [48] := by simpa using h2
    subst this
    rw [show val [48] = 0 from rfl, dec_zero]
  · rw [Bool.and_eq_true] at h2
    exact dec_val_aux s h1 (by simpa using h2.1) (by simpa using h2.2)
theorem dec_inj {n m : Nat} (h : dec n = dec m) : n = m := by
  have := congrArg val h; rwa [val_dec, val_dec] at this
/-! ### Texts of rational numbers -/
def qt (neg : Bool) (n d : Nat) : Bs := (if neg && n != 0 then [45] else []) ++ dec n ++ (if d = 1 then [] else 47 :: dec d)
def rs (q : Rat) : Bs := qt (decide (q.num < 0)) q.num.natAbs q.den
def sg (neg : Bool) (n : Nat) : Int := if neg then -(n : Int) else n
theorem sg_natAbs (neg : Bool) (n : Nat) : (sg neg n).natAbs = n := by unfold sg; cases neg <;> simp
theorem sg_lt (neg : Bool) (n : Nat) : sg neg n < 0 ↔ neg = true ∧ n ≠ 0 := by unfold sg; cases neg <;> simp <;> omega
theorem qt_congr {neg neg' : Bool} {n d : Nat} (h : n ≠ 0 → neg = neg') : qt neg n d = qt neg' n d := by
  unfold qt
  by_cases hn : n = 0
  · subst hn; simp
  · rw [h hn]
theorem rs_mkRat (neg : Bool) (n d : Nat) (hd : d ≠ 0) : rs (mkRat (sg neg n) d) = qt neg (n / n.gcd d) (d / n.gcd d) := by
  unfold rs
  rw [Rat.num_mkRat, Rat.den_mkRat, if_neg hd, if_neg hd, sg_natAbs, Nat.gcd_comm d n]
  have hg : 0 < n.gcd d := Nat.gcd_pos_of_pos_right _ (by omega)
  have h1 : (sg neg n / (n.gcd d : Int)).natAbs = n / n.gcd d := by
    rw [Int.natAbs_ediv_of_dvd, sg_natAbs, Int.natAbs_natCast]
    rw [← Int.dvd_natAbs, sg_natAbs, Int.natCast_dvd_natCast]
    exact Nat.gcd_dvd_left n d
  rw [h1]
  apply qt_congr
  intro hn
  have hn0 : n ≠ 0 := by rintro rfl; simp at hn
  cases neg with
  | false =>
    have : ¬ (sg false n / (n.gcd d : Int) < 0) := by
      have : 0 ≤ sg false n / (n.gcd d : Int) := Int.ediv_nonneg (by simp [sg]) (by omega)
      omega
    simpa using this
  | true =>
    have : sg true n / (n.gcd d : Int) < 0 := Int.ediv_neg_of_neg_of_pos (by rw [sg_lt]; exact ⟨rfl, hn0⟩) (by omega)
    simpa using this
theorem rs_self (q : Rat) : mkRat (sg (decide (q.num < 0)) q.num.natAbs) q.den = q := by
  have : sg (decide (q.num < 0)) q.num.natAbs = q.num := by
    unfold sg
    by_cases h : q.num < 0
    · simp [h]; omega
    · simp [h]; omega
  rw [this, Rat.mkRat_self]
theorem dg_ne {c : UInt8} (h : isDg c = true) : c ≠ 45 ∧ c ≠ 47 := by
  constructor <;> (rintro rfl; revert h; decide)
theorem dec_mem {n : Nat} {c : UInt8} (h : c ∈ dec n) : isDg c = true := List.all_eq_true.1 (dec_all n) c h
/-- Split at the first slash. -/
def cutS (s : Bs) : Bs × Bs × Bool :=
  match s with
  | [] => ([], [], false)
  | c :: s => if c = 47 then ([], s, true) else ((c :: (cutS s).1), (cutS s).2.1, (cutS s).2.2)
theorem cutS_none : ∀ {s : Bs}, 47 ∉ s → cutS s = (s, [], false)
  | [], _ => rfl
  | c :: s, h => by
    rw [List.mem_cons, not_or] at h
    rw [cutS, if_neg (fun e => h.1 e.symm), cutS_none h.2]
theorem cutS_some : ∀ {s : Bs} (t : Bs), 47 ∉ s → cutS (s ++ 47 :: t) = (s, t, true)
  | [], t, _ => by simp [cutS]
  | c :: s, t, h => by
    rw [List.mem_cons, not_or] at h
    rw [List.cons_append, cutS, if_neg (fun e => h.1 e.symm), cutS_some t h.2]
theorem cutS_spec (s : Bs) : 47 ∉ (cutS s).1 ∧ s = (cutS s).1 ++ (if (cutS s).2.2 then 47 :: (cutS s).2.1 else []) ∧ ((cutS s).2.2 = false → (cutS s).2.1 = []) := by
  induction s with
  | nil => simp [cutS]
  | cons c s ih =>
    rw [cutS]
    by_cases h : c = 47
    · subst h; simp
    · rw [if_neg h]
      refine ⟨?_, ?_, ih.2.2⟩
      · simp only [List.mem_cons, not_or]; exact ⟨fun e => h e.symm, ih.1⟩
      · rw [List.cons_append, ← ih.2.1]
/-- A text without its leading minus. -/
def cutM (s : Bs) : Bs × Bool := match s with | c :: t => if c = 45 then (t, true) else (c :: t, false) | [] => ([], false)
/-- The number of a canonical text. -/
def rd (s : Bs) : Option Rat :=
  let m := cutM s
  let c := cutS m.1
  if numeral c.1 && !(c.1 == [48] && (m.2 || c.2.2)) then
    if c.2.2 then
      if numeral c.2.1 && decide (2 ≤ val c.2.1) && decide ((val c.1).gcd (val c.2.1) = 1) then some (mkRat (sg m.2 (val c.1)) (val c.2.1)) else none
    else some (mkRat (sg m.2 (val c.1)) 1)
  else none
theorem slash_dec (n : Nat) : (47 : UInt8) ∉ dec n := fun h => (dg_ne (dec_mem h)).2 rfl
theorem cutM_dec (n : Nat) (t : Bs) : cutM (dec n ++ t) = (dec n ++ t, false) := by
  cases h : dec n with
  | nil => exact absurd h (dec_ne n)
  | cons c s =>
    have := (dg_ne (dec_mem (n := n) (c := c) (by rw [h]; simp))).1
    simp [cutM, this]
theorem cutS_dec (n : Nat) (d : Nat) : cutS (dec n ++ (if d = 1 then [] else 47 :: dec d)) = (dec n, if d = 1 then [] else dec d, decide (d ≠ 1)) := by
  by_cases h : d = 1
  · simp only [h, if_true, List.append_nil]; rw [cutS_none (slash_dec n)]; rfl
  · rw [if_neg h, cutS_some _ (slash_dec n)]; simp [h]
theorem rd_rs (q : Rat) : rd (rs q) = some q := by
  have hm : cutM (rs q) = (dec q.num.natAbs ++ (if q.den = 1 then [] else 47 :: dec q.den), decide (q.num < 0)) := by
    unfold rs qt
    by_cases h : q.num < 0
    · have : (decide (q.num < 0) && q.num.natAbs != 0) = true := by rw [decide_eq_true h, Bool.true_and, bne_iff_ne]; omega
      rw [this]
      simp [cutM, h]
    · have : (decide (q.num < 0) && q.num.natAbs != 0) = false := by simp [h]
      rw [this]
      simp only [Bool.false_eq_true, if_false, List.nil_append]
      rw [cutM_dec]
      simp [h]
  unfold rd
  simp only [hm]
  simp only [cutS_dec, dec_numeral, Bool.true_and, val_dec]
  have hz : (dec q.num.natAbs == [48]) = decide (q.num = 0) := by
    by_cases h : q.num = 0
    · simp [h, dec_zero]
    · have : dec q.num.natAbs ≠ [48] := fun e => by
        rw [← dec_zero] at e
        have := dec_inj e
        omega
      simp [h, this]
  rw [hz]
  have hden : q.num = 0 → q.den = 1 := fun h => by
    have := q.reduced
    rw [h] at this
    simpa [Nat.Coprime] using this
  by_cases hd : q.den = 1
  · have : (decide (q.num = 0) && (decide (q.num < 0) || decide (q.den ≠ 1))) = false := by
      by_cases h0 : q.num = 0 <;> simp [h0, hd]
    rw [this]
    simp only [Bool.not_false, if_true, hd, ne_eq, not_true, decide_false, Bool.false_eq_true, if_false]
    rw [← hd, rs_self]
  · have h0 : q.num ≠ 0 := fun h => hd (hden h)
    have : (decide (q.num = 0) && (decide (q.num < 0) || decide (q.den ≠ 1))) = false := by simp [h0]
    rw [this]
    have h2 : 2 ≤ q.den := by have := q.den_pos; omega
    have hg : q.num.natAbs.gcd q.den = 1 := q.reduced
    simp only [Bool.not_false, if_true, hd, ne_eq, not_false_eq_true, decide_true, if_false, dec_numeral, val_dec, h2, hg, Bool.and_self]
    rw [rs_self]
theorem rs_inj {p q : Rat} (h : rs p = rs q) : p = q := by
  have := congrArg rd h
  rw [rd_rs, rd_rs] at this
  exact Option.some.inj this
theorem cutM_spec (s : Bs) : s = (if (cutM s).2 then [45] else []) ++ (cutM s).1 := by
  unfold cutM
  split
  · split
    · rename_i h; subst h; rfl
    · rfl
  · rfl
theorem rs_rd {s : Bs} {q : Rat} (h : rd s = some q) : s = rs q := by
  unfold rd at h
  simp only at h
  have hs := cutM_spec s
  have hc := cutS_spec (cutM s).1
  generalize cutM s = m at hs hc h
  obtain ⟨t, neg⟩ := m
  simp only at hs hc h
  generalize cutS t = c at hc h
  obtain ⟨a, b, f⟩ := c
  simp only at hc h
  obtain ⟨hc1, hc2, hc3⟩ := hc
  split at h
  · rename_i h1
    rw [Bool.and_eq_true] at h1
    obtain ⟨h1, h2⟩ := h1
    have ha := dec_val h1
    have hneg : neg = true → val a ≠ 0 := by
      rintro rfl hv
      rw [hv, dec_zero] at ha
      rw [← ha] at h2
      simp at h2
    cases f with
    | true =>
      simp only [if_true] at h
      split at h
      · rename_i h3
        rw [Bool.and_eq_true, Bool.and_eq_true] at h3
        obtain ⟨⟨h3, h4⟩, h5⟩ := h3
        have hb := dec_val h3
        simp only [decide_eq_true_eq] at h4 h5
        cases h
        rw [rs_mkRat _ _ _ (by omega), h5, Nat.div_one, Nat.div_one]
        unfold qt
        rw [if_neg (show ¬ val b = 1 by omega), ha, hb, hs, hc2]
        cases neg with
        | false => simp
        | true => simp [hneg rfl]
      · cases h
    | false =>
      simp only [Bool.false_eq_true, if_false, Option.some.injEq] at h
      subst h
      rw [rs_mkRat _ _ _ (by omega), Nat.gcd_one_right, Nat.div_one, Nat.div_one]
      unfold qt
      rw [ha, hs, hc2]
      cases neg with
      | false => simp
      | true => simp [hneg rfl]
  · cases h
end Go.PE
namespace Go.PE
open Go.RowKit Go.Proofs.Tryz
/-! ### Which slots live at the loops' heads -/
def keepF (f : Nat) : List Nat := (bif Nat.blt f 126 then (bif Nat.blt f 64 then (bif Nat.blt f 32 then (bif Nat.blt f 17 then (bif Nat.blt f 10 then (bif Nat.blt f 6 then (bif Nat.blt f 4 then (bif Nat.beq f 3 then [6] else []) else (bif Nat.blt f 5 then (bif Nat.beq f 4 then [4] else []) else (bif Nat.beq f 5 then [4] else []))) else (bif Nat.blt f 8 then (bif Nat.blt f 7 then (bif Nat.beq f 6 then [6] else []) else (bif Nat.beq f 7 then [4] else [])) else (bif Nat.blt f 9 then (bif Nat.beq f 8 then [0] else []) else (bif Nat.beq f 9 then [4] else [])))) else (bif Nat.blt f 13 then (bif Nat.blt f 11 then (bif Nat.beq f 10 then [2] else []) else (bif Nat.blt f 12 then (bif Nat.beq f 11 then [4] else []) else (bif Nat.beq f 12 then [4] else []))) else (bif Nat.blt f 15 then (bif Nat.blt f 14 then (bif Nat.beq f 13 then [2] else []) else (bif Nat.beq f 14 then [6, 7] else [])) else (bif Nat.blt f 16 then (bif Nat.beq f 15 then [2, 3] else []) else (bif Nat.beq f 16 then [4, 5] else []))))) else (bif Nat.blt f 24 then (bif Nat.blt f 20 then (bif Nat.blt f 18 then (bif Nat.beq f 17 then [4, 5] else []) else (bif Nat.blt f 19 then (bif Nat.beq f 18 then [4] else []) else (bif Nat.beq f 19 then [4] else []))) else (bif Nat.blt f 22 then (bif Nat.blt f 21 then (bif Nat.beq f 20 then [6, 7] else []) else (bif Nat.beq f 21 then [2] else [])) else (bif Nat.blt f 23 then (bif Nat.beq f 22 then [4] else []) else (bif Nat.beq f 23 then [2] else [])))) else (bif Nat.blt f 28 then (bif Nat.blt f 26 then (bif Nat.blt f 25 then (bif Nat.beq f 24 then [4] else []) else (bif Nat.beq f 25 then [4] else [])) else (bif Nat.blt f 27 then (bif Nat.beq f 26 then [2] else []) else (bif Nat.beq f 27 then [2] else []))) else (bif Nat.blt f 30 then (bif Nat.blt f 29 then (bif Nat.beq f 28 then [2] else []) else (bif Nat.beq f 29 then [2] else [])) else (bif Nat.blt f 31 then (bif Nat.beq f 30 then [4, 5, 6] else []) else (bif Nat.beq f 31 then [2] else [])))))) else (bif Nat.blt f 47 then (bif Nat.blt f 39 then (bif Nat.blt f 35 then (bif Nat.blt f 33 then (bif Nat.beq f 32 then [2, 3] else []) else (bif Nat.blt f 34 then (bif Nat.beq f 33 then [4] else []) else (bif Nat.beq f 34 then [4] else []))) else (bif Nat.blt f 37 then (bif Nat.blt f 36 then (bif Nat.beq f 35 then [4] else []) else (bif Nat.beq f 36 then [6, 7] else [])) else (bif Nat.blt f 38 then (bif Nat.beq f 37 then [4] else []) else (bif Nat.beq f 38 then [2] else [])))) else (bif Nat.blt f 43 then (bif Nat.blt f 41 then (bif Nat.blt f 40 then (bif Nat.beq f 39 then [4] else []) else (bif Nat.beq f 40 then [2] else [])) else (bif Nat.blt f 42 then (bif Nat.beq f 41 then [4] else []) else (bif Nat.beq f 42 then [4] else []))) else (bif Nat.blt f 45 then (bif Nat.blt f 44 then (bif Nat.beq f 43 then [4] else []) else (bif Nat.beq f 44 then [2] else [])) else (bif Nat.blt f 46 then (bif Nat.beq f 45 then [2] else []) else (bif Nat.beq f 46 then [2] else []))))) else (bif Nat.blt f 54 then (bif Nat.blt f 50 then (bif Nat.blt f 48 then (bif Nat.beq f 47 then [2] else []) else (bif Nat.blt f 49 then (bif Nat.beq f 48 then [4] else []) else (bif Nat.beq f 49 then [6, 7] else []))) else (bif Nat.blt f 52 then (bif Nat.blt f 51 then (bif Nat.beq f 50 then [2] else []) else (bif Nat.beq f 51 then [2, 3000002, 4000007] else [])) else (bif Nat.blt f 53 then (bif Nat.beq f 52 then [2] else []) else (bif Nat.beq f 53 then [6] else [])))) else (bif Nat.blt f 58 then (bif Nat.blt f 56 then (bif Nat.blt f 55 then (bif Nat.beq f 54 then [2] else []) else (bif Nat.beq f 55 then [2, 3] else [])) else (bif Nat.blt f 57 then (bif Nat.beq f 56 then [2, 3] else []) else (bif Nat.beq f 57 then [2] else []))) else (bif Nat.blt f 62 then (bif Nat.blt f 59 then (bif Nat.beq f 58 then [2, 3] else []) else (bif Nat.beq f 59 then [2] else [])) else (bif Nat.blt f 63 then (bif Nat.beq f 62 then [0] else []) else (bif Nat.beq f 63 then [2] else []))))))) else (bif Nat.blt f 94 then (bif Nat.blt f 79 then (bif Nat.blt f 71 then (bif Nat.blt f 67 then (bif Nat.blt f 65 then (bif Nat.beq f 64 then [4] else []) else (bif Nat.blt f 66 then (bif Nat.beq f 65 then [4] else []) else (bif Nat.beq f 66 then [6, 7] else []))) else (bif Nat.blt f 69 then (bif Nat.blt f 68 then (bif Nat.beq f 67 then [2, 3] else []) else (bif Nat.beq f 68 then [2] else [])) else (bif Nat.blt f 70 then (bif Nat.beq f 69 then [4] else []) else (bif Nat.beq f 70 then [2] else [])))) else (bif Nat.blt f 75 then (bif Nat.blt f 73 then (bif Nat.blt f 72 then (bif Nat.beq f 71 then [6, 7] else []) else (bif Nat.beq f 72 then [4] else [])) else (bif Nat.blt f 74 then (bif Nat.beq f 73 then [4] else []) else (bif Nat.beq f 74 then [4] else []))) else (bif Nat.blt f 77 then (bif Nat.blt f 76 then (bif Nat.beq f 75 then [4] else []) else (bif Nat.beq f 76 then [4] else [])) else (bif Nat.blt f 78 then (bif Nat.beq f 77 then [4] else []) else (bif Nat.beq f 78 then [6, 7] else []))))) else (bif Nat.blt f 86 then (bif Nat.blt f 82 then (bif Nat.blt f 80 then (bif Nat.beq f 79 then [4] else []) else (bif Nat.blt f 81 then (bif Nat.beq f 80 then [2] else []) else (bif Nat.beq f 81 then [2, 3000002, 4000014, 5000062] else []))) else (bif Nat.blt f 84 then (bif Nat.blt f 83 then (bif Nat.beq f 82 then [4] else []) else (bif Nat.beq f 83 then [2] else [])) else (bif Nat.blt f 85 then (bif Nat.beq f 84 then [2] else []) else (bif Nat.beq f 85 then [4] else [])))) else (bif Nat.blt f 90 then (bif Nat.blt f 88 then (bif Nat.blt f 87 then (bif Nat.beq f 86 then [2] else []) else (bif Nat.beq f 87 then [2, 3] else [])) else (bif Nat.blt f 89 then (bif Nat.beq f 88 then [4, 5] else []) else (bif Nat.beq f 89 then [6, 7] else []))) else (bif Nat.blt f 92 then (bif Nat.blt f 91 then (bif Nat.beq f 90 then [4] else []) else (bif Nat.beq f 91 then [2] else [])) else (bif Nat.blt f 93 then (bif Nat.beq f 92 then [4] else []) else (bif Nat.beq f 93 then [2] else [])))))) else (bif Nat.blt f 109 then (bif Nat.blt f 101 then (bif Nat.blt f 97 then (bif Nat.blt f 95 then (bif Nat.beq f 94 then [4] else []) else (bif Nat.blt f 96 then (bif Nat.beq f 95 then [6] else []) else (bif Nat.beq f 96 then [2] else []))) else (bif Nat.blt f 99 then (bif Nat.blt f 98 then (bif Nat.beq f 97 then [2] else []) else (bif Nat.beq f 98 then [6] else [])) else (bif Nat.blt f 100 then (bif Nat.beq f 99 then [2] else []) else (bif Nat.beq f 100 then [2] else [])))) else (bif Nat.blt f 105 then (bif Nat.blt f 103 then (bif Nat.blt f 102 then (bif Nat.beq f 101 then [4] else []) else (bif Nat.beq f 102 then [4] else [])) else (bif Nat.blt f 104 then (bif Nat.beq f 103 then [4] else []) else (bif Nat.beq f 104 then [4] else []))) else (bif Nat.blt f 107 then (bif Nat.blt f 106 then (bif Nat.beq f 105 then [4] else []) else (bif Nat.beq f 106 then [4] else [])) else (bif Nat.blt f 108 then (bif Nat.beq f 107 then [2] else []) else (bif Nat.beq f 108 then [4] else []))))) else (bif Nat.blt f 116 then (bif Nat.blt f 112 then (bif Nat.blt f 110 then (bif Nat.beq f 109 then [2] else []) else (bif Nat.blt f 111 then (bif Nat.beq f 110 then [4] else []) else (bif Nat.beq f 111 then [4] else []))) else (bif Nat.blt f 114 then (bif Nat.blt f 113 then (bif Nat.beq f 112 then [4] else []) else (bif Nat.beq f 113 then [2] else [])) else (bif Nat.blt f 115 then (bif Nat.beq f 114 then [2] else []) else (bif Nat.beq f 115 then [2] else [])))) else (bif Nat.blt f 120 then (bif Nat.blt f 118 then (bif Nat.blt f 117 then (bif Nat.beq f 116 then [2] else []) else (bif Nat.beq f 117 then [4] else [])) else (bif Nat.blt f 119 then (bif Nat.beq f 118 then [2] else []) else (bif Nat.beq f 119 then [4] else []))) else (bif Nat.blt f 122 then (bif Nat.blt f 121 then (bif Nat.beq f 120 then [2, 3, 2000008, 3000002, 4000017] else []) else (bif Nat.beq f 121 then [2] else [])) else (bif Nat.blt f 125 then (bif Nat.beq f 122 then [2, 3, 4] else []) else (bif Nat.beq f 125 then [4] else [])))))))) else (bif Nat.blt f 187 then (bif Nat.blt f 156 then (bif Nat.blt f 141 then (bif Nat.blt f 133 then (bif Nat.blt f 129 then (bif Nat.blt f 127 then (bif Nat.beq f 126 then [2] else []) else (bif Nat.blt f 128 then (bif Nat.beq f 127 then [2] else []) else (bif Nat.beq f 128 then [2] else []))) else (bif Nat.blt f 131 then (bif Nat.blt f 130 then (bif Nat.beq f 129 then [4] else []) else (bif Nat.beq f 130 then [4] else [])) else (bif Nat.blt f 132 then (bif Nat.beq f 131 then [2] else []) else (bif Nat.beq f 132 then [6] else [])))) else (bif Nat.blt f 137 then (bif Nat.blt f 135 then (bif Nat.blt f 134 then (bif Nat.beq f 133 then [2] else []) else (bif Nat.beq f 134 then [4] else [])) else (bif Nat.blt f 136 then (bif Nat.beq f 135 then [4, 5] else []) else (bif Nat.beq f 136 then [2] else []))) else (bif Nat.blt f 139 then (bif Nat.blt f 138 then (bif Nat.beq f 137 then [2] else []) else (bif Nat.beq f 138 then [4, 5] else [])) else (bif Nat.blt f 140 then (bif Nat.beq f 139 then [2] else []) else (bif Nat.beq f 140 then [2, 3] else []))))) else (bif Nat.blt f 148 then (bif Nat.blt f 144 then (bif Nat.blt f 142 then (bif Nat.beq f 141 then [2, 3, 1000000] else []) else (bif Nat.blt f 143 then (bif Nat.beq f 142 then [4] else []) else (bif Nat.beq f 143 then [2] else []))) else (bif Nat.blt f 146 then (bif Nat.blt f 145 then (bif Nat.beq f 144 then [4] else []) else (bif Nat.beq f 145 then [2] else [])) else (bif Nat.blt f 147 then (bif Nat.beq f 146 then [4] else []) else (bif Nat.beq f 147 then [4] else [])))) else (bif Nat.blt f 152 then (bif Nat.blt f 150 then (bif Nat.blt f 149 then (bif Nat.beq f 148 then [4] else []) else (bif Nat.beq f 149 then [4] else [])) else (bif Nat.blt f 151 then (bif Nat.beq f 150 then [2] else []) else (bif Nat.beq f 151 then [4] else []))) else (bif Nat.blt f 154 then (bif Nat.blt f 153 then (bif Nat.beq f 152 then [4] else []) else (bif Nat.beq f 153 then [4] else [])) else (bif Nat.blt f 155 then (bif Nat.beq f 154 then [4] else []) else (bif Nat.beq f 155 then [4] else [])))))) else (bif Nat.blt f 171 then (bif Nat.blt f 163 then (bif Nat.blt f 159 then (bif Nat.blt f 157 then (bif Nat.beq f 156 then [4] else []) else (bif Nat.blt f 158 then (bif Nat.beq f 157 then [4] else []) else (bif Nat.beq f 158 then [6] else []))) else (bif Nat.blt f 161 then (bif Nat.blt f 160 then (bif Nat.beq f 159 then [4, 5] else []) else (bif Nat.beq f 160 then [2] else [])) else (bif Nat.blt f 162 then (bif Nat.beq f 161 then [4] else []) else (bif Nat.beq f 162 then [2] else [])))) else (bif Nat.blt f 167 then (bif Nat.blt f 165 then (bif Nat.blt f 164 then (bif Nat.beq f 163 then [4, 5] else []) else (bif Nat.beq f 164 then [4, 5, 6] else [])) else (bif Nat.blt f 166 then (bif Nat.beq f 165 then [6, 7] else []) else (bif Nat.beq f 166 then [4] else []))) else (bif Nat.blt f 169 then (bif Nat.blt f 168 then (bif Nat.beq f 167 then [2] else []) else (bif Nat.beq f 168 then [4] else [])) else (bif Nat.blt f 170 then (bif Nat.beq f 169 then [2] else []) else (bif Nat.beq f 170 then [4] else []))))) else (bif Nat.blt f 179 then (bif Nat.blt f 175 then (bif Nat.blt f 172 then (bif Nat.beq f 171 then [2] else []) else (bif Nat.blt f 174 then (bif Nat.beq f 172 then [2] else []) else (bif Nat.beq f 174 then [4] else []))) else (bif Nat.blt f 177 then (bif Nat.blt f 176 then (bif Nat.beq f 175 then [4] else []) else (bif Nat.beq f 176 then [2] else [])) else (bif Nat.blt f 178 then (bif Nat.beq f 177 then [4] else []) else (bif Nat.beq f 178 then [4] else [])))) else (bif Nat.blt f 183 then (bif Nat.blt f 181 then (bif Nat.blt f 180 then (bif Nat.beq f 179 then [2] else []) else (bif Nat.beq f 180 then [8] else [])) else (bif Nat.blt f 182 then (bif Nat.beq f 181 then [4] else []) else (bif Nat.beq f 182 then [4] else []))) else (bif Nat.blt f 185 then (bif Nat.blt f 184 then (bif Nat.beq f 183 then [4] else []) else (bif Nat.beq f 184 then [4] else [])) else (bif Nat.blt f 186 then (bif Nat.beq f 185 then [2] else []) else (bif Nat.beq f 186 then [4] else []))))))) else (bif Nat.blt f 222 then (bif Nat.blt f 203 then (bif Nat.blt f 195 then (bif Nat.blt f 190 then (bif Nat.blt f 188 then (bif Nat.beq f 187 then [4] else []) else (bif Nat.blt f 189 then (bif Nat.beq f 188 then [4] else []) else (bif Nat.beq f 189 then [4, 5] else []))) else (bif Nat.blt f 192 then (bif Nat.blt f 191 then (bif Nat.beq f 190 then [4, 5] else []) else (bif Nat.beq f 191 then [6] else [])) else (bif Nat.blt f 194 then (bif Nat.beq f 192 then [6] else []) else (bif Nat.beq f 194 then [2] else [])))) else (bif Nat.blt f 199 then (bif Nat.blt f 197 then (bif Nat.blt f 196 then (bif Nat.beq f 195 then [4] else []) else (bif Nat.beq f 196 then [4, 5, 6] else [])) else (bif Nat.blt f 198 then (bif Nat.beq f 197 then [6, 7] else []) else (bif Nat.beq f 198 then [10] else []))) else (bif Nat.blt f 201 then (bif Nat.blt f 200 then (bif Nat.beq f 199 then [2] else []) else (bif Nat.beq f 200 then [4, 5] else [])) else (bif Nat.blt f 202 then (bif Nat.beq f 201 then [2] else []) else (bif Nat.beq f 202 then [2] else []))))) else (bif Nat.blt f 211 then (bif Nat.blt f 207 then (bif Nat.blt f 205 then (bif Nat.beq f 203 then [4] else []) else (bif Nat.blt f 206 then (bif Nat.beq f 205 then [4] else []) else (bif Nat.beq f 206 then [4] else []))) else (bif Nat.blt f 209 then (bif Nat.blt f 208 then (bif Nat.beq f 207 then [6] else []) else (bif Nat.beq f 208 then [4] else [])) else (bif Nat.blt f 210 then (bif Nat.beq f 209 then [4] else []) else (bif Nat.beq f 210 then [4] else [])))) else (bif Nat.blt f 218 then (bif Nat.blt f 213 then (bif Nat.blt f 212 then (bif Nat.beq f 211 then [2] else []) else (bif Nat.beq f 212 then [4, 5] else [])) else (bif Nat.blt f 217 then (bif Nat.beq f 213 then [6, 7] else []) else (bif Nat.beq f 217 then [4] else []))) else (bif Nat.blt f 220 then (bif Nat.blt f 219 then (bif Nat.beq f 218 then [4] else []) else (bif Nat.beq f 219 then [6, 7] else [])) else (bif Nat.blt f 221 then (bif Nat.beq f 220 then [4] else []) else (bif Nat.beq f 221 then [4] else [])))))) else (bif Nat.blt f 240 then (bif Nat.blt f 229 then (bif Nat.blt f 225 then (bif Nat.blt f 223 then (bif Nat.beq f 222 then [6] else []) else (bif Nat.blt f 224 then (bif Nat.beq f 223 then [6] else []) else (bif Nat.beq f 224 then [4, 5] else []))) else (bif Nat.blt f 227 then (bif Nat.blt f 226 then (bif Nat.beq f 225 then [4] else []) else (bif Nat.beq f 226 then [4] else [])) else (bif Nat.blt f 228 then (bif Nat.beq f 227 then [4] else []) else (bif Nat.beq f 228 then [4] else [])))) else (bif Nat.blt f 235 then (bif Nat.blt f 232 then (bif Nat.blt f 231 then (bif Nat.beq f 229 then [2] else []) else (bif Nat.beq f 231 then [2] else [])) else (bif Nat.blt f 234 then (bif Nat.beq f 232 then [2] else []) else (bif Nat.beq f 234 then [10, 11] else []))) else (bif Nat.blt f 238 then (bif Nat.blt f 237 then (bif Nat.beq f 235 then [4] else []) else (bif Nat.beq f 237 then [2] else [])) else (bif Nat.blt f 239 then (bif Nat.beq f 238 then [4] else []) else (bif Nat.beq f 239 then [2] else []))))) else (bif Nat.blt f 249 then (bif Nat.blt f 243 then (bif Nat.blt f 241 then (bif Nat.beq f 240 then [2] else []) else (bif Nat.blt f 242 then (bif Nat.beq f 241 then [2] else []) else (bif Nat.beq f 242 then [2] else []))) else (bif Nat.blt f 245 then (bif Nat.blt f 244 then (bif Nat.beq f 243 then [6] else []) else (bif Nat.beq f 244 then [] else [])) else (bif Nat.blt f 248 then (bif Nat.beq f 245 then [4] else []) else (bif Nat.beq f 248 then [2] else [])))) else (bif Nat.blt f 253 then (bif Nat.blt f 251 then (bif Nat.blt f 250 then (bif Nat.beq f 249 then [2] else []) else (bif Nat.beq f 250 then [2] else [])) else (bif Nat.blt f 252 then (bif Nat.beq f 251 then [2] else []) else (bif Nat.beq f 252 then [2] else []))) else (bif Nat.blt f 255 then (bif Nat.blt f 254 then (bif Nat.beq f 253 then [] else []) else (bif Nat.beq f 254 then [2, 3] else [])) else (bif Nat.blt f 256 then (bif Nat.beq f 255 then [2] else []) else (bif Nat.beq f 256 then [2] else [])))))))))
def lvF (f : Nat) : Nat → List Nat := look (bif Nat.blt f 97 then (bif Nat.blt f 39 then (bif Nat.blt f 18 then (bif Nat.blt f 12 then (bif Nat.blt f 9 then (bif Nat.blt f 7 then (bif Nat.beq f 5 then [(0, [5, 1, 0, 8, 7, 91])] else []) else (bif Nat.beq f 7 then [(0, [0, 5])] else [])) else (bif Nat.blt f 10 then (bif Nat.beq f 9 then [(0, [1, 2, 17, 18, 19, 16]), (2, [1, 2, 23, 17, 18, 19, 24, 25, 7, 6, 16, 22, 21])] else []) else (bif Nat.blt f 11 then (bif Nat.beq f 10 then [(0, [0, 4, 3, 8, 22])] else []) else (bif Nat.beq f 11 then [(0, [1, 2, 5])] else [])))) else (bif Nat.blt f 15 then (bif Nat.blt f 13 then (bif Nat.beq f 12 then [(0, [0, 5])] else []) else (bif Nat.blt f 14 then (bif Nat.beq f 13 then [(0, [0, 3])] else []) else (bif Nat.beq f 14 then [(2, [6, 2, 1, 0, 9]), (0, [6, 1, 2, 0, 8])] else []))) else (bif Nat.blt f 16 then (bif Nat.beq f 15 then [(0, [6, 4, 2, 7, 12])] else []) else (bif Nat.blt f 17 then (bif Nat.beq f 16 then [(0, [8, 1, 6, 24, 25, 26, 54, 16, 23, 22, 21])] else []) else (bif Nat.beq f 17 then [(0, [6, 22, 1, 23, 24, 8, 14, 21, 20, 19])] else []))))) else (bif Nat.blt f 25 then (bif Nat.blt f 21 then (bif Nat.blt f 19 then (bif Nat.beq f 18 then [(0, [1, 0, 5])] else []) else (bif Nat.blt f 20 then (bif Nat.beq f 19 then [(0, [0, 5])] else []) else (bif Nat.beq f 20 then [(4, [2, 11, 10, 1, 0, 58]), (6, [2, 11, 10, 1, 0, 12, 58]), (2, [1, 2, 0, 9]), (0, [2, 1, 0, 8])] else []))) else (bif Nat.blt f 22 then (bif Nat.beq f 21 then [(0, [0, 4, 3, 44])] else []) else (bif Nat.blt f 24 then (bif Nat.beq f 22 then [(0, [1, 0, 5])] else []) else (bif Nat.beq f 24 then [(0, [1, 0, 5])] else [])))) else (bif Nat.blt f 30 then (bif Nat.blt f 28 then (bif Nat.beq f 25 then [(0, [1, 0, 5])] else []) else (bif Nat.blt f 29 then (bif Nat.beq f 28 then [(1, [1, 3])] else []) else (bif Nat.beq f 29 then [(0, [3, 1]), (2, [3, 1, 4])] else []))) else (bif Nat.blt f 37 then (bif Nat.beq f 30 then [(0, [4, 0, 7, 9, 8, 1, 44])] else []) else (bif Nat.blt f 38 then (bif Nat.beq f 37 then [(2, [10, 5, 56, 57]), (0, [1, 6, 5, 2, 27, 28, 29, 7, 26, 25, 24])] else []) else (bif Nat.beq f 38 then [(0, [0, 3])] else [])))))) else (bif Nat.blt f 58 then (bif Nat.blt f 49 then (bif Nat.blt f 41 then (bif Nat.blt f 40 then (bif Nat.beq f 39 then [(0, [0, 1, 5])] else []) else (bif Nat.beq f 40 then [(7, [4, 11, 3, 113, 69]), (9, [4, 11, 3, 12, 113, 69]), (0, [5, 0, 3, 4, 69, 113]), (3, [5, 0, 3, 4, 7, 6, 69, 113]), (5, [8, 4, 0, 3, 5, 10, 9, 113, 69])] else [])) else (bif Nat.blt f 42 then (bif Nat.beq f 41 then [(0, [1, 0, 5])] else []) else (bif Nat.blt f 43 then (bif Nat.beq f 42 then [(0, [1, 0, 5])] else []) else (bif Nat.beq f 43 then [(0, [0, 1, 5])] else [])))) else (bif Nat.blt f 53 then (bif Nat.blt f 50 then (bif Nat.beq f 49 then [(1, [6, 8, 0, 4]), (3, [2, 6, 10, 9])] else []) else (bif Nat.blt f 52 then (bif Nat.beq f 50 then [(0, [5, 0, 6, 7])] else []) else (bif Nat.beq f 52 then [(0, [3, 0, 10, 11])] else []))) else (bif Nat.blt f 55 then (bif Nat.beq f 53 then [(0, [1, 0, 13, 14, 15, 8, 7, 2, 12, 34, 27])] else []) else (bif Nat.blt f 56 then (bif Nat.beq f 55 then [(0, [4, 10, 11, 12, 0])] else []) else (bif Nat.beq f 56 then [(0, [4, 10, 11, 12, 0])] else []))))) else (bif Nat.blt f 78 then (bif Nat.blt f 67 then (bif Nat.blt f 65 then (bif Nat.beq f 58 then [(0, [2, 0, 4, 26, 27, 5, 41])] else []) else (bif Nat.blt f 66 then (bif Nat.beq f 65 then [(0, [1, 0, 5])] else []) else (bif Nat.beq f 66 then [(0, [2, 0, 1, 11, 8, 10, 9, 83])] else []))) else (bif Nat.blt f 71 then (bif Nat.beq f 67 then [(0, [0, 2, 4, 5, 6])] else []) else (bif Nat.blt f 77 then (bif Nat.beq f 71 then [(0, [2, 6, 4, 0, 8]), (2, [10, 9, 2, 6, 4, 11])] else []) else (bif Nat.beq f 77 then [(0, [5, 2, 1])] else [])))) else (bif Nat.blt f 82 then (bif Nat.blt f 79 then (bif Nat.beq f 78 then [(0, [8, 3, 1, 2, 6, 10, 9])] else []) else (bif Nat.blt f 81 then (bif Nat.beq f 79 then [(1, [4, 0, 1, 5])] else []) else (bif Nat.beq f 81 then [(0, [3, 0, 5, 4, 15, 42, 54, 38]), (2, [3, 0, 5, 29, 30, 4, 6, 15, 42, 54, 38])] else []))) else (bif Nat.blt f 92 then (bif Nat.beq f 82 then [(0, [0, 100, 8, 101, 102, 9, 111])] else []) else (bif Nat.blt f 96 then (bif Nat.beq f 92 then [(0, [0, 1, 7, 5, 6, 30])] else []) else (bif Nat.beq f 96 then [(0, [0, 3])] else []))))))) else (bif Nat.blt f 172 then (bif Nat.blt f 130 then (bif Nat.blt f 106 then (bif Nat.blt f 102 then (bif Nat.blt f 101 then (bif Nat.beq f 97 then [(0, [0])] else []) else (bif Nat.beq f 101 then [(0, [1, 0, 5])] else [])) else (bif Nat.blt f 103 then (bif Nat.beq f 102 then [(0, [1, 0, 5])] else []) else (bif Nat.blt f 104 then (bif Nat.beq f 103 then [(0, [0, 1, 5, 6]), (2, [0, 1, 5, 6, 7]), (4, [5, 8, 9, 10])] else []) else (bif Nat.beq f 104 then [(0, [0, 1, 5, 6, 7, 8])] else [])))) else (bif Nat.blt f 119 then (bif Nat.blt f 112 then (bif Nat.beq f 106 then [(0, [0, 1, 5, 6, 7])] else []) else (bif Nat.blt f 116 then (bif Nat.beq f 112 then [(0, [0, 5, 20, 21, 6, 16])] else []) else (bif Nat.beq f 116 then [(0, [1, 13, 14, 15, 12])] else []))) else (bif Nat.blt f 120 then (bif Nat.beq f 119 then [(0, [0, 1, 7, 8])] else []) else (bif Nat.blt f 122 then (bif Nat.beq f 120 then [(0, [4, 0, 6, 5, 18, 137]), (2, [9, 4, 10, 0, 6, 7, 5, 64, 18, 137])] else []) else (bif Nat.beq f 122 then [(0, [6, 5, 8, 0, 25, 26, 27, 7, 95, 24, 57, 23, 22])] else []))))) else (bif Nat.blt f 142 then (bif Nat.blt f 135 then (bif Nat.blt f 132 then (bif Nat.beq f 130 then [(1, [19, 4, 1, 20, 21, 5])] else []) else (bif Nat.blt f 134 then (bif Nat.beq f 132 then [(0, [1, 0, 2, 7])] else []) else (bif Nat.beq f 134 then [(0, [0, 1])] else []))) else (bif Nat.blt f 137 then (bif Nat.beq f 135 then [(0, [0, 1, 6, 7, 8]), (2, [0, 1, 6, 7, 8, 9])] else []) else (bif Nat.blt f 139 then (bif Nat.beq f 137 then [(0, [3, 6, 7, 8, 0])] else []) else (bif Nat.beq f 139 then [(0, [0, 6, 7, 8])] else [])))) else (bif Nat.blt f 166 then (bif Nat.blt f 147 then (bif Nat.beq f 142 then [(0, [0, 1, 7, 8])] else []) else (bif Nat.blt f 149 then (bif Nat.beq f 147 then [(0, [5, 0, 27, 4, 28, 29])] else []) else (bif Nat.beq f 149 then [(0, [1, 0, 12, 13])] else []))) else (bif Nat.blt f 167 then (bif Nat.beq f 166 then [(0, [0, 1])] else []) else (bif Nat.blt f 168 then (bif Nat.beq f 167 then [(0, [0, 3, 4]), (2, [0, 3, 4, 5, 20, 21, 22])] else []) else (bif Nat.beq f 168 then [(0, [0, 1])] else [])))))) else (bif Nat.blt f 219 then (bif Nat.blt f 208 then (bif Nat.blt f 199 then (bif Nat.blt f 177 then (bif Nat.beq f 172 then [(0, [0, 23, 24])] else []) else (bif Nat.blt f 178 then (bif Nat.beq f 177 then [(0, [0, 16, 17, 6, 5, 22])] else []) else (bif Nat.beq f 178 then [(0, [1, 0, 12, 13])] else []))) else (bif Nat.blt f 200 then (bif Nat.beq f 199 then [(0, [0, 3])] else []) else (bif Nat.blt f 206 then (bif Nat.beq f 200 then [(1, [0, 6, 7, 8]), (3, [6, 7, 8, 9, 10])] else []) else (bif Nat.beq f 206 then [(0, [0, 1, 5, 18, 19, 20]), (2, [0, 1, 5, 6, 7, 8, 18, 19, 20, 25, 26, 27])] else [])))) else (bif Nat.blt f 211 then (bif Nat.blt f 209 then (bif Nat.beq f 208 then [(0, [0, 1, 5, 6, 20, 21])] else []) else (bif Nat.blt f 210 then (bif Nat.beq f 209 then [(0, [0, 1, 5])] else []) else (bif Nat.beq f 210 then [(0, [0, 1, 5, 6, 13, 14])] else []))) else (bif Nat.blt f 213 then (bif Nat.beq f 211 then [(0, [3, 24])] else []) else (bif Nat.blt f 218 then (bif Nat.beq f 213 then [(0, [1, 0, 2, 10, 8, 9])] else []) else (bif Nat.beq f 218 then [(1, [0, 1, 5, 6, 7, 8, 9, 10])] else []))))) else (bif Nat.blt f 238 then (bif Nat.blt f 226 then (bif Nat.blt f 224 then (bif Nat.beq f 219 then [(3, [1, 8, 9, 10, 11, 12, 13, 99, 100, 101])] else []) else (bif Nat.blt f 225 then (bif Nat.beq f 224 then [(0, [0, 1, 6, 7, 8])] else []) else (bif Nat.beq f 225 then [(0, [0, 1, 5, 7, 8, 9])] else []))) else (bif Nat.blt f 233 then (bif Nat.beq f 226 then [(0, [0, 1, 7, 8])] else []) else (bif Nat.blt f 234 then (bif Nat.beq f 233 then [(0, [0, 4, 1])] else []) else (bif Nat.beq f 234 then [(0, [14, 12, 16, 11, 0, 10, 4, 3, 15, 1, 13, 98]), (2, [12, 17, 11, 0, 10, 4, 3, 1, 13, 98])] else [])))) else (bif Nat.blt f 244 then (bif Nat.blt f 240 then (bif Nat.beq f 238 then [(2, [7, 1, 0, 5, 6, 10, 8]), (0, [0, 7, 1, 5, 6, 9, 8])] else []) else (bif Nat.blt f 243 then (bif Nat.beq f 240 then [(0, [0, 5, 4, 3])] else []) else (bif Nat.beq f 243 then [(0, [0, 1, 2, 7, 8, 12, 13])] else []))) else (bif Nat.blt f 247 then (bif Nat.beq f 244 then [(0, [0, 1, 4, 8, 9])] else []) else (bif Nat.blt f 254 then (bif Nat.beq f 247 then [(0, [0, 3, 2])] else []) else (bif Nat.beq f 254 then [(2, [4, 8, 7, 6]), (0, [0, 5, 4])] else []))))))))
/-! ### Rows of limbs -/
def row (l : List Nat) : List (List PV) := l.map fun (n : Nat) => [.int .u32 (n : Int)]
theorem row_get {l : List Nat} {i : Nat} (h : i < l.length) : (row l)[i]? = some [.int .u32 (l.getD i 0 : Nat)] := by
  unfold row
  rw [List.getElem?_map, List.getElem?_eq_getElem h]
  simp [List.getD, List.getElem?_eq_getElem h]
theorem row_len (l : List Nat) : (row l).length = l.length := by simp [row]
theorem row_take (l : List Nat) (n : Nat) : (row l).take n = row (l.take n) := by simp [row]
theorem row_drop (l : List Nat) (n : Nat) : (row l).drop n = row (l.drop n) := by simp [row]
theorem row_append (l m : List Nat) : row l ++ row m = row (l ++ m) := by simp [row]
theorem row_snoc (l : List Nat) (x : Nat) : row l ++ [[.int .u32 (x : Int)]] = row (l ++ [x]) := by simp [row]
theorem row_set (l : List Nat) (i x : Nat) : (row l).set i [.int .u32 (x : Int)] = row (l.set i x) := by simp [row, List.map_set]
theorem row_rep (n : Nat) : List.replicate n [PV.int .u32 0] = row (List.replicate n 0) := by simp [row]
def unrow : List (List PV) → Option (List Nat)
  | [] => some []
  | [.int .u32 n] :: r => match unrow r with
    | some l => if 0 ≤ n then some (n.toNat :: l) else none
    | none => none
  | _ => none
theorem unrow_row : ∀ l, unrow (row l) = some l
  | [] => rfl
  | a :: l => by
    have ih := unrow_row l
    unfold row at ih ⊢
    rw [List.map_cons, unrow, ih]
    simp
theorem row_unrow : ∀ {xs : List (List PV)} {l : List Nat}, unrow xs = some l → xs = row l
  | [], l, h => by simp only [unrow, Option.some.injEq] at h; subst h; rfl
  | x :: xs, l, h => by
    unfold unrow at h
    split at h
    · rename_i he; cases he
    · rename_i n r he
      simp only [List.cons.injEq] at he
      obtain ⟨rfl, rfl⟩ := he
      split at h
      · rename_i l' hl
        split at h
        · rename_i h0
          cases h
          rw [row_unrow hl]
          simp only [row, List.map_cons]
          rw [Int.toNat_of_nonneg h0]
        · cases h
      · cases h
    · cases h
def lval : List Nat → Nat
  | [] => 0
  | a :: l => a + 1000000000 * lval l
def limbsN : Nat → Nat → List Nat
  | 0, _ => []
  | n + 1, x => x % 1000000000 :: limbsN n (x / 1000000000)
def okL (l : List Nat) : Bool := l.all fun a => Nat.blt a 1000000000
/-- The digits, by steps that Lean's kernel takes. -/
def decS : Nat → Nat → Bs
  | 0, _ => []
  | k + 1, n => bif Nat.blt n 10 then [UInt8.ofNat (48 + n)] else decS k (n / 10) ++ [UInt8.ofNat (48 + n % 10)]
theorem decS_eq : ∀ (k n : Nat), n < k → decS k n = dec n
  | 0, n, h => by omega
  | k + 1, n, h => by
    rw [decS]
    by_cases h1 : n < 10
    · have : Nat.blt n 10 = true := by simp only [Nat.blt, Nat.ble_eq]; omega
      rw [this, dec_small h1]; rfl
    · have : Nat.blt n 10 = false := by rw [← Bool.not_eq_true]; simp only [Nat.blt, Nat.ble_eq]; omega
      rw [this, dec_big h1, ← decS_eq k (n / 10) (by omega)]; rfl
def decN (n : Nat) : Bs := decS (n + 1) n
theorem decN_eq (n : Nat) : decN n = dec n := decS_eq _ _ (by omega)
/-! ### The contracts that are proved by hand -/
/-- A small number's digits. -/
def itoaC (n : Int) : Option Bs := if 0 ≤ n ∧ n < 1000 then some (decN n.toNat) else none
/-- A node's part of a key. -/
def nodeKey (x : List PV) : Option (List UInt8) :=
  match x with
  | [.int .i64 a, .int .i64 b, .str c, .str d, .int .i64 e] => match itoaC a, itoaC b, itoaC e with
    | some a, some b, some e => some (a ++ 32 :: (b ++ 32 :: (e ++ 32 :: (c ++ 32 :: (d ++ [10])))))
    | _, _, _ => none
  | _ => none
def keyL : List (List PV) → Option (List UInt8)
  | [] => some []
  | x :: xs => match nodeKey x, keyL xs with
    | some a, some b => some (a ++ b)
    | _, _ => none
def keyF (avs : List PV) : Option (PV × List (List PV)) :=
  match avs with
  | [.imm 5 xs] => match keyL xs with
    | some l => if 0 < l.length ∧ l.length ≤ 1000000 then some (.str l, []) else none
    | none => none
  | _ => none
/-! What extend computes: the value of a variable from those of the atoms. -/
def intAt (xs : List (List PV)) (i : Nat) : Option Int := match xs[i]? with | some [.int .i64 z] => some z | _ => none
def boolAt (xs : List (List PV)) (i : Nat) : Option Bool := match xs[i]? with | some [.bool b] => some b | _ => none
def opAt (nd : List (List PV)) (i : Int) : Option Int := if 0 ≤ i then (match nd[i.toNat]? with | some (.int .i64 o :: _) => some o | _ => none) else none
def connAt (nd so : List (List PV)) (i : Int) : Option Bool :=
  match opAt nd i with
  | some o => if o < 1 ∨ 20 < o then none else if o = 1 ∨ o = 2 ∨ o = 6 ∨ o = 7 ∨ o = 8 ∨ o = 9 then some true else if o = 10 then (intAt so i.toNat).map (fun z => decide (z = 1)) else if o = 11 then (intAt so (i.toNat + 1)).map (fun z => decide (z = 1)) else some false
  | none => none
def unInts : List (List PV) → Option (List Int)
  | [] => some []
  | [.int .i64 z] :: r => match unInts r with | some l => some (z :: l) | none => none
  | _ => none
def kidsAt (kr : List (List PV)) (v : Nat) : Option (List Int) := match kr[v]? with | some [.imm 1 l] => if l.length ≤ 1000000 then unInts l else none | _ => none
def connV (o : Int) (bs : List Bool) : Option Bool :=
  if o = 1 then some true else if o = 7 then some (bs.all id) else if o = 8 then some (bs.any id) else
  if o = 9 then (match bs with | a :: b :: _ => some (!a || b) | _ => none) else
  if o = 11 then (match bs with | a :: b :: _ => some (a == b) | _ => none) else
  if o = 10 then (match bs with | a :: b :: c :: _ => some (if a then b else c) | _ => none) else if o = 2 then some false else none
def litB (f : Nat → Option Bool) (k : Int) : Option Bool := if 0 < k then f (k.toNat - 1) else if k < 0 then (f ((-k).toNat - 1)).map (!·) else none
def allB (f : Int → Option Bool) : List Int → Option (List Bool)
  | [] => some []
  | k :: l => match f k, allB f l with | some b, some bs => some (b :: bs) | _, _ => none
def allN (f : Nat → Option Bool) : Nat → Option (List Bool)
  | 0 => some []
  | n + 1 => match allN f n, f n with | some bs, some b => some (bs ++ [b]) | _, _ => none
section
variable (nd so fr kr ar : List (List PV))
def connOf (v : Nat) : Option Bool := match intAt fr v with | some i => connAt nd so i | none => none
/-- How many of the first v variables are atoms. -/
def cntA : Nat → Nat
  | 0 => 0
  | v + 1 => cntA v + (if connOf nd so fr v = some false then 1 else 0)
def vv : Nat → Nat → Option Bool
  | 0, _ => none
  | n + 1, v => match intAt fr v with
    | some i => match connAt nd so i, opAt nd i with
      | some false, _ => boolAt ar (cntA nd so fr v)
      | some true, some o => match kidsAt kr v with
        | some ks => match allB (litB (vv n)) ks with
          | some bs => connV o bs
          | none => none
        | none => none
      | _, _ => none
    | none => none
end
def brow (l : List Bool) : List (List PV) := l.map fun b => [.bool b]
def rowOf : PV → Option (List (List PV))
  | .imm 1 xs => some xs
  | .nils 1 => some []
  | _ => none
def extendF (avs : List PV) : Option (PV × List (List PV)) :=
  match avs with
  | [.iptr [.iptr [.imm 5 nd, _, .imm 1 so] 0, _, .imm 1 fr, .imm 1 kr, _, _] 0, a] =>
    match rowOf a with
    | some ar => if 0 < fr.length ∧ fr.length ≤ 1000000 ∧ nd.length ≤ 1000000 then (match allN (vv nd so fr kr ar 1000000) fr.length with | some bs => some (.own (0, 0) 1 (brow bs), []) | none => none) else none
    | none => none
  | _ => none
def cloneF (avs : List PV) : Option (PV × List (List PV)) :=
  match avs with
  | [.imm 1 []] => some (.imm 1 [], [])
  | [.nils 1] => some (.imm 1 [], [])
  | _ => none
def canonL (l : List Nat) : Bool := okL l && !(l.getLast? == some 0)
def reduceF (avs : List PV) : Option (PV × List (List PV)) :=
  match avs with
  | [.own (0, 0) 1 xs, .imm 1 ys] => match unrow xs, unrow ys with
    | some u, some v => if okL u = true ∧ okL v = true ∧ u.length = v.length + 1 ∧ 2 ≤ v.length ∧ v.length ≤ 16777216 ∧ 1000000000 ≤ 2 * v.getD (v.length - 1) 0 ∧ lval u < 1000000000 * lval v then
        some (.int .u32 (lval u / lval v : Nat), row (limbsN u.length (lval u % lval v))) else none
    | _, _ => none
  | _ => none
/-- Without trailing zeros. -/
def trimL (l : List Nat) : Nat → Nat
  | 0 => 0
  | n + 1 => if l.getD n 0 = 0 then trimL l n else n + 1
def trimF (avs : List PV) : Option (PV × List (List PV)) :=
  match avs with
  | [.own (0, 0) 1 xs] => match unrow xs with
    | some l => if l.length ≤ 1099511627776 then some (.int .i64 (trimL l l.length : Nat), []) else none
    | none => none
  | _ => none
def Xc (f : FuncId) (avs : List PV) : Option (PV × List (List PV)) :=
  bif Nat.beq f 137 then keyF avs else bif Nat.beq f 37 then extendF avs else bif Nat.beq f 91 then cloneF avs else bif Nat.beq f 253 then indexByteF avs else bif Nat.beq f 225 then reduceF avs else bif Nat.beq f 199 then trimF avs else none
def NN : Nat := 4611686018427387904
noncomputable def T (k : Nat) : FuncId → List PV → Option (PV × List (List PV)) := lvl prog Xc keepF lvF NN k
theorem enter {k : Nat} {f : FuncId} {avs : List PV} {r : PV × List (List PV)} {fn : Func} {c : Code}
    (hX : Xc f avs = none) (hf : prog.funcs[f]? = some fn) (hc : fn.body = some c) (hn : ¬ (fn.name = "runtime.NumGoroutine" ∨ (wrB f || prB f) = true)) (hok : codeOK fn.ntmps (boxPos avs) c = true) (hl : (Nat.ble avs.length fn.ntmps && Nat.ble fn.ntmps VS) = true) (hst : avs.all stamp0 = true)
    (h : W prog (T k) (keepF f) (lvF f) NN 0 c (0, avs.zipIdx.map fun q => (q.2, q.1)) (endW (finishT tab fn.results.toList (boxPos avs)) r)) : T (k + 1) f avs = some r :=
  lvl_enter tab_eq hX hf hc hn hok (Nat.le_of_ble_eq_true (Bool.and_eq_true_iff.1 hl).1) (Nat.le_of_ble_eq_true (Bool.and_eq_true_iff.1 hl).2) hst h
theorem byX {k : Nat} {f : FuncId} {avs : List PV} {r : PV × List (List PV)} (h : Xc f avs = some r) : T k f avs = some r := lvl_X h
theorem wrap_i64 {x : Int} (h0 : -9223372036854775808 ≤ x) (h1 : x ≤ 9223372036854775807) : IntKind.i64.wrap x = x := by
  rw [IntKind.wrap_i64]; omega
theorem wrap_u64 {x : Int} (h0 : 0 ≤ x) (h1 : x < 18446744073709551616) : IntKind.u64.wrap x = x := by
  have e : ∀ n : Int, IntKind.u64.wrap n = n % 18446744073709551616 := fun n => by simp [IntKind.wrap, IntKind.bits, IntKind.signed]
  rw [e]; omega
theorem wrap_u32 {x : Int} (h0 : 0 ≤ x) (h1 : x < 4294967296) : IntKind.u32.wrap x = x := by
  have e : ∀ n : Int, IntKind.u32.wrap n = n % 4294967296 := fun n => by simp [IntKind.wrap, IntKind.bits, IntKind.signed]
  rw [e]; omega
theorem wrap_u8 {x : Int} (h0 : 0 ≤ x) (h1 : x < 256) : IntKind.u8.wrap x = x := by
  have e : ∀ n : Int, IntKind.u8.wrap n = n % 256 := fun n => by simp [IntKind.wrap, IntKind.bits, IntKind.signed]
  rw [e]; omega
/-! ### The walk's cascades, each said once: the tactic argument runs where the theorem is used -/
theorem zs0 {A B : Prop} (b : B) (h : B → A := by
  intro b
  repeat (first | refine WX.step tab_eq rfl rfl trivial ?_ | refine WX.step tab_eq rfl rfl (by decide) ?_ | refine WX.nil ?_ | refine W.seq ?_ | refine W.region ?_ | refine W.regionD ?_ | refine W.block ?_ | refine W.skip ?_ | refine W.exit ?_ | refine W.ret ?_ | refine W.condT rfl ?_ | refine W.condF rfl ?_ | refine WX.skip rfl ?_)
  exact b) : A := h b
theorem zs1 {A B C : Prop} (c : C) (b : B) (h : C → B → A := by
  intro c b
  repeat (first | refine WX.step tab_eq rfl rfl trivial ?_ | refine WX.step tab_eq rfl rfl (by decide) ?_ | refine WX.nil ?_ | refine W.seq ?_ | refine W.region ?_ | refine W.regionD ?_ | refine W.block ?_ | refine W.skip ?_ | refine W.exit ?_ | refine W.ret ?_ | refine W.condT rfl ?_ | refine W.condF rfl ?_ | refine WX.skip rfl ?_)
  refine WX.call tab_eq rfl rfl rfl rfl rfl c rfl rfl ?_
  repeat (first | refine WX.step tab_eq rfl rfl trivial ?_ | refine WX.step tab_eq rfl rfl (by decide) ?_ | refine WX.nil ?_ | refine W.seq ?_ | refine W.region ?_ | refine W.regionD ?_ | refine W.block ?_ | refine W.skip ?_ | refine W.exit ?_ | refine W.ret ?_ | refine W.condT rfl ?_ | refine W.condF rfl ?_ | refine WX.skip rfl ?_)
  exact b) : A := h c b
theorem zs2 {A B C : Prop} (c : C) (b : B) (h : C → B → A := by
  intro c b
  refine WX.call tab_eq rfl rfl rfl rfl rfl c rfl rfl ?_
  repeat (first | refine WX.step tab_eq rfl rfl trivial ?_ | refine WX.step tab_eq rfl rfl (by decide) ?_ | refine WX.nil ?_ | refine W.seq ?_ | refine W.region ?_ | refine W.regionD ?_ | refine W.block ?_ | refine W.skip ?_ | refine W.exit ?_ | refine W.ret ?_ | refine W.condT rfl ?_ | refine W.condF rfl ?_ | refine WX.skip rfl ?_)
  exact b) : A := h c b
theorem zs3 {A B C : Prop} (c : C) (b : B) (h : C → B → A := by
  intro c b
  refine WX.call tab_eq rfl rfl rfl rfl rfl c rfl rfl ?_
  exact b) : A := h c b
theorem zd0 {A B : Prop} (b : B) (h : B → A := by
  intro b
  repeat (first | refine WX.stepD tab_eq rfl rfl trivial ?_ | refine WX.stepD tab_eq rfl rfl (by decide) ?_ | refine WX.skipD rfl ?_)
  exact b) : A := h b
theorem zd2 {A B C : Prop} (c : C) (b : B) (h : C → B → A := by
  intro c b
  repeat (first | refine WX.stepD tab_eq rfl rfl trivial ?_ | refine WX.stepD tab_eq rfl rfl (by decide) ?_ | refine WX.skipD rfl ?_)
  refine WX.callD tab_eq rfl rfl rfl rfl rfl c rfl rfl ?_
  repeat (first | refine WX.stepD tab_eq rfl rfl trivial ?_ | refine WX.stepD tab_eq rfl rfl (by decide) ?_ | refine WX.skipD rfl ?_)
  exact b) : A := h c b
theorem zd3 {A B C : Prop} (c : C) (b : B) (h : C → B → A := by
  intro c b
  refine WX.callD tab_eq rfl rfl rfl rfl rfl c rfl rfl ?_
  exact b) : A := h c b
theorem zd4 {A B C : Prop} (c : C) (b : B) (h : C → B → A := by
  intro c b
  refine WX.callD tab_eq rfl rfl rfl rfl rfl c rfl rfl ?_
  repeat (first | refine WX.stepD tab_eq rfl rfl trivial ?_ | refine WX.stepD tab_eq rfl rfl (by decide) ?_ | refine WX.skipD rfl ?_)
  exact b) : A := h c b
theorem zd5 {A B C : Prop} (c : C) (b : B) (h : C → B → A := by
  intro c b
  refine WX.callD tab_eq rfl rfl rfl rfl rfl c rfl rfl ?_
  repeat (first | refine WX.stepD tab_eq rfl rfl trivial ?_ | refine WX.stepD tab_eq rfl rfl (by decide) ?_ | refine WX.skipD rfl ?_)
  refine WX.nilD (by kernel_rfl) ?_
  repeat (first | refine WX.step tab_eq rfl rfl trivial ?_ | refine WX.step tab_eq rfl rfl (by decide) ?_ | refine WX.nil ?_ | refine W.seq ?_ | refine W.region ?_ | refine W.regionD ?_ | refine W.block ?_ | refine W.skip ?_ | refine W.exit ?_ | refine W.ret ?_ | refine W.condT rfl ?_ | refine W.condF rfl ?_ | refine WX.skip rfl ?_)
  exact b) : A := h c b
theorem zd7 {A B : Prop} (b : B) (h : B → A := by
  intro b
  repeat (first | refine WX.stepD tab_eq rfl rfl trivial ?_ | refine WX.stepD tab_eq rfl rfl (by decide) ?_ | refine WX.skipD rfl ?_)
  refine WX.nilD (by kernel_rfl) ?_
  repeat (first | refine WX.step tab_eq rfl rfl trivial ?_ | refine WX.step tab_eq rfl rfl (by decide) ?_ | refine WX.nil ?_ | refine W.seq ?_ | refine W.region ?_ | refine W.regionD ?_ | refine W.block ?_ | refine W.skip ?_ | refine W.exit ?_ | refine W.ret ?_ | refine W.condT rfl ?_ | refine W.condF rfl ?_ | refine WX.skip rfl ?_)
  exact b) : A := h b
theorem zd8 {A B : Prop} (b : B) (h : B → A := by
  intro b
  repeat (first | refine WX.step tab_eq rfl rfl trivial ?_ | refine WX.step tab_eq rfl rfl (by decide) ?_ | refine WX.nil ?_ | refine W.seq ?_ | refine W.region ?_ | refine W.regionD ?_ | refine W.block ?_ | refine W.skip ?_ | refine W.exit ?_ | refine W.ret ?_ | refine W.condT rfl ?_ | refine W.condF rfl ?_ | refine WX.skip rfl ?_)
  repeat (first | refine WX.stepD tab_eq rfl rfl trivial ?_ | refine WX.stepD tab_eq rfl rfl (by decide) ?_ | refine WX.skipD rfl ?_)
  exact b) : A := h b

abbrev te := @tab_eq
abbrev wS := @WX.step
abbrev wD := @WX.stepD
abbrev wC := @WX.call
abbrev wG := @WX.callD
abbrev wI := @WX.idxImm
abbrev wN := @WX.nil
abbrev wq := @W.seq
abbrev wr := @W.region
abbrev wR := @W.regionD
abbrev wb := @W.block
abbrev wk := @W.skip
abbrev we := @W.exit
abbrev wt := @W.ret
abbrev wT := @W.condT
abbrev wF := @W.condF
abbrev wK := @WX.skip
abbrev wL := @WX.skipD
end Go.PE
