/-
  A part of the proof that the law's function returns true and leaves its arguments as they were, for every input (no condition): own lemmas of the proof, in the order of their use.
-/
import Derived.Lib.ItoaNum
set_option linter.all false
namespace Go.PE
abbrev Bs := List UInt8
def isDg (c : UInt8) : Bool := 48 ≤ c.toNat && c.toNat ≤ 57
def dv (c : UInt8) : Nat := c.toNat - 48
def val (s : Bs) : Nat := s.foldl (fun n c => n * 10 + dv c) 0
def dec (n : Nat) : Bs := Lib.decDigits n
def numeral (s : Bs) : Bool := s.all isDg && (s == [48] || (s != [] && s.head? != some 48))
theorem val_nil : val [] = 0 := rfl
theorem foldl_dv (s : Bs) (n : Nat) : s.foldl (fun n c => n * 10 + dv c) n = n * 10 ^ s.length + val s := by
 induction s generalizing n with
 | nil => simp [val]
 | cons c s ih =>
  unfold val
  simp only [List.foldl_cons, List.length_cons]
  rw [ih, ih (0 * 10 + dv c), Nat.pow_succ]
  simp only [Nat.zero_mul, Nat.zero_add, Nat.add_mul]
  rw [Nat.mul_assoc n 10, Nat.mul_comm 10]
  omega
theorem val_append (s t : Bs) : val (s ++ t) = val s * 10 ^ t.length + val t := by
 unfold val
 rw [List.foldl_append, foldl_dv]
 rfl
theorem val_cons (c : UInt8) (s : Bs) : val (c :: s) = dv c * 10 ^ s.length + val s := by
 rw [show c :: s = [c] ++ s from rfl, val_append]
 simp [val]
theorem val_snoc (s : Bs) (c : UInt8) : val (s ++ [c]) = val s * 10 + dv c := by
 rw [val_append]; simp [val]
theorem dv_lt {c : UInt8} (h : isDg c = true) : dv c < 10 := by
 unfold isDg at h; unfold dv; simp at h; omega
theorem val_lt : ∀ {s : Bs}, s.all isDg = true → val s < 10 ^ s.length
 | [], _ => by simp [val]
 | c :: s, h => by
  rw [List.all_cons, Bool.and_eq_true] at h
  have h1 := dv_lt h.1
  have h2 := val_lt h.2
  rw [val_cons, List.length_cons, Nat.pow_succ]
  have : dv c * 10 ^ s.length ≤ 9 * 10 ^ s.length := Nat.mul_le_mul_right _ (by omega)
  omega
theorem dec_small {n : Nat} (h : n < 10) : dec n = [UInt8.ofNat (48 + n)] := by
 unfold dec; rw [Lib.decDigits, dif_pos h]
theorem dec_big {n : Nat} (h : ¬ n < 10) : dec n = dec (n / 10) ++ [UInt8.ofNat (48 + n % 10)] := by
 unfold dec; rw [Lib.decDigits, dif_neg h]
theorem dg_nat {k : Nat} (h : k < 10) : (UInt8.ofNat (48 + k)).toNat = 48 + k := by
 rw [UInt8.toNat_ofNat', Nat.mod_eq_of_lt (by omega)]
theorem dg_dv {k : Nat} (h : k < 10) : dv (UInt8.ofNat (48 + k)) = k := by
 unfold dv
 rw [dg_nat h]
 omega
theorem dg_isDg {k : Nat} (h : k < 10) : isDg (UInt8.ofNat (48 + k)) = true := by
 unfold isDg
 rw [dg_nat h]
 rw [Bool.and_eq_true, decide_eq_true_eq, decide_eq_true_eq]; omega
theorem dg_of {c : UInt8} (h : isDg c = true) : UInt8.ofNat (48 + dv c) = c := by
 unfold isDg at h; unfold dv; simp at h
 apply UInt8.toNat.inj
 rw [UInt8.toNat_ofNat', Nat.mod_eq_of_lt (by omega)]
 omega
theorem val_dec (n : Nat) : val (dec n) = n := by
 induction n using Nat.strongRecOn with
 | _ n ih =>
  by_cases h : n < 10
  ·rw [dec_small h]; show 0 * 10 + dv _ = _; rw [dg_dv h]; omega
  ·rw [dec_big h, val_snoc, ih _ (by omega), dg_dv (by omega)]
   omega
theorem dec_all (n : Nat) : (dec n).all isDg = true := by
 induction n using Nat.strongRecOn with
 | _ n ih =>
  by_cases h : n < 10
  ·rw [dec_small h]; show (isDg _ && true) = true; rw [dg_isDg h]; rfl
  ·rw [dec_big h, List.all_append, ih _ (by omega)]
   show (true && (isDg _ && true)) = true
   rw [dg_isDg (show n % 10 < 10 by omega)]; rfl
theorem dec_ne (n : Nat) : dec n ≠ [] := by
 by_cases h : n < 10
 ·rw [dec_small h]; simp
 ·rw [dec_big h]; simp
theorem dec_zero : dec 0 = [48] := by rw [dec_small (by omega)]; rfl
theorem dec_head (n : Nat) (h : 0 < n) : (dec n).head? ≠ some 48 := by
 induction n using Nat.strongRecOn with
 | _ n ih =>
  by_cases h10 : n < 10
  ·rw [dec_small h10]
   simp only [List.head?_cons, ne_eq, Option.some.injEq]
   intro hc
   have := congrArg UInt8.toNat hc
   rw [dg_nat h10] at this
   have h48 : (48 : UInt8).toNat = 48 := rfl
   omega
  ·rw [dec_big h10, List.head?_append]
   have := ih (n / 10) (by omega) (by omega)
   cases hd : (dec (n / 10)).head? with
   | none => rw [List.head?_eq_none_iff] at hd; exact absurd hd (dec_ne _)
   | some c => rw [hd] at this; simpa using this
theorem dec_numeral (n : Nat) : numeral (dec n) = true := by
 unfold numeral
 rw [dec_all, Bool.true_and, Bool.or_eq_true]
 by_cases h : n = 0
 ·subst h; left; rw [dec_zero]; rfl
 ·right
  rw [Bool.and_eq_true]
  exact ⟨by simpa using dec_ne n, by simpa using dec_head n (by omega)⟩
theorem dec_len_pos (n : Nat) : 0 < (dec n).length := List.length_pos_iff.2 (dec_ne n)
theorem val_pos_of_head : ∀ {s : Bs}, s.all isDg = true → s ≠ [] → s.head? ≠ some 48 → 10 ^ (s.length - 1) ≤ val s
 | [], _, h, _ => absurd rfl h
 | c :: s, h, _, hh => by
  rw [List.all_cons, Bool.and_eq_true] at h
  rw [val_cons, List.length_cons, Nat.add_sub_cancel]
  have : 1 ≤ dv c := by
   have h1 := h.1
   unfold isDg at h1; unfold dv; simp at h1
   have : c.toNat ≠ 48 := fun hc => hh (by simp; exact UInt8.toNat.inj (by simpa using hc))
   omega
  have := Nat.mul_le_mul_right (10 ^ s.length) this
  omega
theorem dec_val_aux : ∀ (s : Bs), s.all isDg = true → s ≠ [] → s.head? ≠ some 48 → dec (val s) = s := by
 intro s
 induction hn : s.length using Nat.strongRecOn generalizing s with
 | _ n ih =>
  intro h1 h2 h3
  obtain ⟨t, c, rfl⟩ : ∃ t c, s = t ++ [c] := ⟨s.dropLast, s.getLast h2, (List.dropLast_concat_getLast h2).symm⟩
  rw [List.all_append, Bool.and_eq_true] at h1
  have hc : isDg c = true := by simpa using h1.2
  have hd := dv_lt hc
  rw [val_snoc]
  by_cases ht : t = []
  ·subst ht
   rw [val_nil, Nat.zero_mul, Nat.zero_add, dec_small hd, dg_of hc]
   rfl
  ·have hh : t.head? ≠ some 48 := by
    intro hx; apply h3; rw [List.head?_append, hx]; rfl
   have hp := val_pos_of_head h1.1 ht hh
   have hpos : 0 < val t := Nat.lt_of_lt_of_le (Nat.pow_pos (by omega)) hp
   rw [dec_big (by omega)]
   rw [show (val t * 10 + dv c) / 10 = val t by omega, show (val t * 10 + dv c) % 10 = dv c by omega, dg_of hc]
   rw [ih t.length (by rw [← hn]; simp) t rfl h1.1 ht hh]
theorem dec_val {s : Bs} (h : numeral s = true) : dec (val s) = s := by
 unfold numeral at h
 rw [Bool.and_eq_true, Bool.or_eq_true] at h
 obtain ⟨h1, h2 | h2⟩ := h
 ·have : s = [48] := by simpa using h2
  subst this
  rw [show val [48] = 0 from rfl, dec_zero]
 ·rw [Bool.and_eq_true] at h2
  exact dec_val_aux s h1 (by simpa using h2.1) (by simpa using h2.2)
theorem dec_inj {n m : Nat} (h : dec n = dec m) : n = m := by
 have := congrArg val h; rwa [val_dec, val_dec] at this
theorem dec_lt_pow (n : Nat) : n < 10 ^ (dec n).length := by
 have := val_lt (dec_all n); rwa [val_dec] at this
theorem dec_len_le {n k : Nat} (hk : 0 < k) (h : n < 10 ^ k) : (dec n).length ≤ k := by
 by_cases h0 : n = 0
 ·subst h0; rw [dec_zero]; exact hk
 ·have := val_pos_of_head (dec_all n) (dec_ne n) (dec_head n (by omega))
  rw [val_dec] at this
  have h2 := Nat.lt_of_le_of_lt this h
  have := (Nat.pow_lt_pow_iff_right (show 1 < 10 by omega)).1 h2
  omega
theorem dec_len_mono {n m : Nat} (h : n ≤ m) : (dec n).length ≤ (dec m).length :=
 dec_len_le (dec_len_pos m) (Nat.lt_of_le_of_lt h (dec_lt_pow m))
def qt (neg : Bool) (n d : Nat) : Bs := (if neg && n != 0 then [45] else []) ++ dec n ++ (if d = 1 then [] else 47 :: dec d)
def rs (q : Rat) : Bs := qt (decide (q.num < 0)) q.num.natAbs q.den
def sg (neg : Bool) (n : Nat) : Int := if neg then -(n : Int) else n
theorem sg_natAbs (neg : Bool) (n : Nat) : (sg neg n).natAbs = n := by unfold sg; cases neg <;> simp
theorem sg_lt (neg : Bool) (n : Nat) : sg neg n < 0 ↔ neg = true ∧ n ≠ 0 := by unfold sg; cases neg <;> simp <;> omega
theorem qt_congr {neg neg' : Bool} {n d : Nat} (h : n ≠ 0 → neg = neg') : qt neg n d = qt neg' n d := by
 unfold qt
 by_cases hn : n = 0
 ·subst hn; simp
 ·rw [h hn]
theorem rs_mkRat (neg : Bool) (n d : Nat) (hd : d ≠ 0) : rs (mkRat (sg neg n) d) = qt neg (n / n.gcd d) (d / n.gcd d) := by
 unfold rs
 rw [Rat.num_mkRat, Rat.den_mkRat, if_neg hd, if_neg hd, sg_natAbs, Nat.gcd_comm d n]
 have hg : 0 < n.gcd d := Nat.gcd_pos_of_pos_right _ (by omega)
 have h1 : (sg neg n / (n.gcd d : Int)).natAbs = n / n.gcd d := by
  rw [Int.natAbs_ediv_of_dvd, sg_natAbs, Int.natAbs_natCast]
  rw [← Int.dvd_natAbs, sg_natAbs, Int.natCast_dvd_natCast]
  exact Nat.gcd_dvd_left n d
 rw [h1]
 apply qt_congr
 intro hn
 have hn0 : n ≠ 0 := by rintro rfl; simp at hn
 cases neg with
 | false =>
  have : ¬ (sg false n / (n.gcd d : Int) < 0) := by
   have : 0 ≤ sg false n / (n.gcd d : Int) := Int.ediv_nonneg (by simp [sg]) (by omega)
   omega
  simpa using this
 | true =>
  have : sg true n / (n.gcd d : Int) < 0 := Int.ediv_neg_of_neg_of_pos (by rw [sg_lt]; exact ⟨rfl, hn0⟩) (by omega)
  simpa using this
theorem rs_self (q : Rat) : mkRat (sg (decide (q.num < 0)) q.num.natAbs) q.den = q := by
 have : sg (decide (q.num < 0)) q.num.natAbs = q.num := by
  unfold sg
  by_cases h : q.num < 0
  ·simp [h]; omega
  ·simp [h]; omega
 rw [this, Rat.mkRat_self]
theorem dg_ne {c : UInt8} (h : isDg c = true) : c ≠ 45 ∧ c ≠ 47 := by
 constructor <;> (rintro rfl; revert h; decide)
theorem dec_mem {n : Nat} {c : UInt8} (h : c ∈ dec n) : isDg c = true := List.all_eq_true.1 (dec_all n) c h
def cutS (s : Bs) : Bs × Bs × Bool :=
 match s with
 | [] => ([], [], false)
 | c :: s => if c = 47 then ([], s, true) else ((c :: (cutS s).1), (cutS s).2.1, (cutS s).2.2)
theorem cutS_none : ∀ {s : Bs}, 47 ∉ s → cutS s = (s, [], false)
 | [], _ => rfl
 | c :: s, h => by
  rw [List.mem_cons, not_or] at h
  rw [cutS, if_neg (fun e => h.1 e.symm), cutS_none h.2]
theorem cutS_some : ∀ {s : Bs} (t : Bs), 47 ∉ s → cutS (s ++ 47 :: t) = (s, t, true)
 | [], t, _ => by simp [cutS]
 | c :: s, t, h => by
  rw [List.mem_cons, not_or] at h
  rw [List.cons_append, cutS, if_neg (fun e => h.1 e.symm), cutS_some t h.2]
theorem cutS_spec (s : Bs) : 47 ∉ (cutS s).1 ∧ s = (cutS s).1 ++ (if (cutS s).2.2 then 47 :: (cutS s).2.1 else []) ∧ ((cutS s).2.2 = false → (cutS s).2.1 = []) := by
 induction s with
 | nil => simp [cutS]
 | cons c s ih =>
  rw [cutS]
  by_cases h : c = 47
  ·subst h; simp
  ·rw [if_neg h]
   refine ⟨?_, ?_, ih.2.2⟩
   ·simp only [List.mem_cons, not_or]; exact ⟨fun e => h e.symm, ih.1⟩
   ·rw [List.cons_append, ← ih.2.1]
def cutM (s : Bs) : Bs × Bool := match s with | c :: t => if c = 45 then (t, true) else (c :: t, false) | [] => ([], false)
def rd (s : Bs) : Option Rat :=
 let m := cutM s
 let c := cutS m.1
 if numeral c.1 && !(c.1 == [48] && (m.2 || c.2.2)) then
  if c.2.2 then
   if numeral c.2.1 && decide (2 ≤ val c.2.1) && decide ((val c.1).gcd (val c.2.1) = 1) then some (mkRat (sg m.2 (val c.1)) (val c.2.1)) else none
  else some (mkRat (sg m.2 (val c.1)) 1)
 else none
theorem slash_dec (n : Nat) : (47 : UInt8) ∉ dec n := fun h => (dg_ne (dec_mem h)).2 rfl
theorem cutM_dec (n : Nat) (t : Bs) : cutM (dec n ++ t) = (dec n ++ t, false) := by
 cases h : dec n with
 | nil => exact absurd h (dec_ne n)
 | cons c s =>
  have := (dg_ne (dec_mem (n := n) (c := c) (by rw [h]; simp))).1
  simp [cutM, this]
theorem cutS_dec (n : Nat) (d : Nat) : cutS (dec n ++ (if d = 1 then [] else 47 :: dec d)) = (dec n, if d = 1 then [] else dec d, decide (d ≠ 1)) := by
 by_cases h : d = 1
 ·simp only [h, if_true, List.append_nil]; rw [cutS_none (slash_dec n)]; rfl
 ·rw [if_neg h, cutS_some _ (slash_dec n)]; simp [h]
theorem rd_rs (q : Rat) : rd (rs q) = some q := by
 have hm : cutM (rs q) = (dec q.num.natAbs ++ (if q.den = 1 then [] else 47 :: dec q.den), decide (q.num < 0)) := by
  unfold rs qt
  by_cases h : q.num < 0
  ·have : (decide (q.num < 0) && q.num.natAbs != 0) = true := by rw [decide_eq_true h, Bool.true_and, bne_iff_ne]; omega
   rw [this]
   simp [cutM, h]
  ·have : (decide (q.num < 0) && q.num.natAbs != 0) = false := by simp [h]
   rw [this]
   simp only [Bool.false_eq_true, if_false, List.nil_append]
   rw [cutM_dec]
   simp [h]
 unfold rd
 simp only [hm]
 simp only [cutS_dec, dec_numeral, Bool.true_and, val_dec]
 have hz : (dec q.num.natAbs == [48]) = decide (q.num = 0) := by
  by_cases h : q.num = 0
  ·simp [h, dec_zero]
  ·have : dec q.num.natAbs ≠ [48] := fun e => by
    rw [← dec_zero] at e
    have := dec_inj e
    omega
   simp [h, this]
 rw [hz]
 have hden : q.num = 0 → q.den = 1 := fun h => by
  have := q.reduced
  rw [h] at this
  simpa [Nat.Coprime] using this
 by_cases hd : q.den = 1
 ·have : (decide (q.num = 0) && (decide (q.num < 0) || decide (q.den ≠ 1))) = false := by
   by_cases h0 : q.num = 0 <;> simp [h0, hd]
  rw [this]
  simp only [Bool.not_false, if_true, hd, ne_eq, not_true, decide_false, Bool.false_eq_true, if_false]
  rw [← hd, rs_self]
 ·have h0 : q.num ≠ 0 := fun h => hd (hden h)
  have : (decide (q.num = 0) && (decide (q.num < 0) || decide (q.den ≠ 1))) = false := by simp [h0]
  rw [this]
  have h2 : 2 ≤ q.den := by have := q.den_pos; omega
  have hg : q.num.natAbs.gcd q.den = 1 := q.reduced
  simp only [Bool.not_false, if_true, hd, ne_eq, not_false_eq_true, decide_true, if_false, dec_numeral, val_dec, h2, hg, Bool.and_self]
  rw [rs_self]
theorem rs_inj {p q : Rat} (h : rs p = rs q) : p = q := by
 have := congrArg rd h
 rw [rd_rs, rd_rs] at this
 exact Option.some.inj this
theorem cutM_spec (s : Bs) : s = (if (cutM s).2 then [45] else []) ++ (cutM s).1 := by
 unfold cutM
 split
 ·split
  ·rename_i h; subst h; rfl
  ·rfl
 ·rfl
theorem rs_rd {s : Bs} {q : Rat} (h : rd s = some q) : s = rs q := by
 unfold rd at h
 simp only at h
 have hs := cutM_spec s
 have hc := cutS_spec (cutM s).1
 generalize cutM s = m at hs hc h
 obtain ⟨t, neg⟩ := m
 simp only at hs hc h
 generalize cutS t = c at hc h
 obtain ⟨a, b, f⟩ := c
 simp only at hc h
 obtain ⟨hc1, hc2, hc3⟩ := hc
 split at h
 ·rename_i h1
  rw [Bool.and_eq_true] at h1
  obtain ⟨h1, h2⟩ := h1
  have ha := dec_val h1
  have hneg : neg = true → val a ≠ 0 := by
   rintro rfl hv
   rw [hv, dec_zero] at ha
   rw [← ha] at h2
   simp at h2
  cases f with
  | true =>
   simp only [if_true] at h
   split at h
   ·rename_i h3
    rw [Bool.and_eq_true, Bool.and_eq_true] at h3
    obtain ⟨⟨h3, h4⟩, h5⟩ := h3
    have hb := dec_val h3
    simp only [decide_eq_true_eq] at h4 h5
    cases h
    rw [rs_mkRat _ _ _ (by omega), h5, Nat.div_one, Nat.div_one]
    unfold qt
    rw [if_neg (show ¬ val b = 1 by omega), ha, hb, hs, hc2]
    cases neg with
    | false => simp
    | true => simp [hneg rfl]
   ·cases h
  | false =>
   simp only [Bool.false_eq_true, if_false, Option.some.injEq] at h
   subst h
   rw [rs_mkRat _ _ _ (by omega), Nat.gcd_one_right, Nat.div_one, Nat.div_one]
   unfold qt
   rw [ha, hs, hc2]
   cases neg with
   | false => simp
   | true => simp [hneg rfl]
 ·cases h
end Go.PE
