/-
  A part of the proof that the law's function returns true and leaves its arguments as they were, for every input (no condition): own lemmas of the proof, in the order of their use.
-/
import Derived.Test.YtggpmnlmbfogeaaGreatDoorX18
import Derived.Test.YtggpmnlmbfogeaaGreatDoorX12
import Derived.Test.YtggpmnlmbfogeaaGreatDoorX16
set_option linter.all false
namespace Go.PE
open Go.RowKit Go.Proofs.Tryz
set_option maxRecDepth 100000
variable {k : Nat}
theorem hasPrefix_T (s p : Bs) (hp : p.length < 4611686018427387904) : T (k + 1) 244 [.str s, .str p] = some (.bool (decide (p.length ≤ s.length) && decide (s.take p.length = p)), []) := by
 refine enter rfl func244 rfl (by decide) (by kernel_rfl) rfl rfl ?_
 refine zs0 ?_
 refine WX.boolM rfl rfl (fun hb => ?_) (fun hb => ?_)
 ·have hb := of_decide_eq_true hb
  have hb' : p.length ≤ s.length := by omega
  refine zs0 ?_
  refine wS te rfl rfl (by omega) ?_
  refine zs0 ?_
  rw [decide_eq_true hb', Int.toNat_natCast]
  rfl
 ·have hb := of_decide_eq_false hb
  have hb' : ¬ p.length ≤ s.length := by omega
  refine zs0 ?_
  rw [decide_eq_false hb']
  rfl
theorem cutPrefix1_T (s : Bs) : T (k + 2) 192 [.str s, .str [45]] = some (.tup [.str (cutM s).1, .bool (cutM s).2], []) := by
 have hh := hasPrefix_T (k := k) s [45] (by simp)
 refine enter rfl func192 rfl (by decide) (by kernel_rfl) rfl rfl ?_
 refine zs1 hh ?_
 refine W.cond rfl (fun hc => ?_) (fun hc => ?_)
 ·have hc : (cutM s) = (s, false) := by
   unfold cutM
   split
   ·rename_i c t
    split
    ·rename_i h; subst h; simp at hc
    ·rfl
   ·rfl
  refine zs0 ?_
  rw [hc]
  rfl
 ·have hc : s = 45 :: (cutM s).1 ∧ (cutM s).2 = true := by
   unfold cutM
   split
   ·rename_i c t
    split
    ·rename_i h; subst h; exact ⟨rfl, rfl⟩
    ·rename_i h; exfalso; simp at hc; exact h hc
   ·simp at hc
  refine zs0 ?_
  refine wS te rfl rfl (by rw [hc.1]; simp; omega) ?_
  refine zs0 ?_
  rw [hc.2]
  have : List.drop (1 : Int).toNat s = (cutM s).1 := by
   conv => lhs; rw [hc.1]
   rfl
  rw [← this]
  rfl
theorem cutPrefix_T (s : Bs) : T (k + 3) 106 [.str s, .str [45]] = some (.tup [.str (cutM s).1, .bool (cutM s).2], []) := by
 refine enter rfl func106 rfl (by decide) (by kernel_rfl) rfl rfl ?_
 refine zs1 (cutPrefix1_T s) ?_
 rfl
theorem ib_ge (s : Bs) (c : UInt8) : -1 ≤ Lib.indexByte s c ∧ Lib.indexByte s c < s.length := by
 induction s with
 | nil => simp [Lib.indexByte]
 | cons b l ih =>
  rw [Lib.indexByte]
  split
  ·simp <;> omega
  ·split
   ·simp <;> omega
   ·simp <;> omega
theorem ib_cut (s : Bs) : cutS s = if Lib.indexByte s 47 = -1 then (s, [], false) else (s.take (Lib.indexByte s 47).toNat, s.drop ((Lib.indexByte s 47).toNat + 1), true) := by
 induction s with
 | nil => rfl
 | cons b l ih =>
  rw [cutS, Lib.indexByte]
  by_cases h : b = 47
  ·subst h; simp
  ·have hb : (b == 47) = false := by simpa using h
   rw [if_neg h, hb, ih]
   have := ib_ge l 47
   by_cases h1 : Lib.indexByte l 47 = -1
   ·simp [h1]
   ·have h2 : (Lib.indexByte l 47 == -1) = false := by simpa using h1
    simp only [if_neg h1, h2, Bool.false_eq_true, if_false]
    rw [if_neg (by omega), show (Lib.indexByte l 47 + 1).toNat = (Lib.indexByte l 47).toNat + 1 by omega]
    simp
theorem indexByte_T (s : Bs) (c : UInt8) : T (k + 1) 322 [.str s, .int .u8 c.toNat] = some (.int .i64 (Lib.indexByte s c), []) := by
 refine enter rfl func322 rfl (by decide) (by kernel_rfl) rfl rfl ?_
 refine zs0 ?_
 have : T k 334 [.str s, .int .u8 (c.toNat : Nat)] = some (.int .i64 (Lib.indexByte s c), []) := by
  refine byX ?_
  show indexByteF [.str s, .int .u8 (c.toNat : Nat)] = _
  simp only [indexByteF]
  have : ((c.toNat : Nat) : Int).toNat.toUInt8 = c := by
   rw [Int.toNat_natCast]; exact UInt8.ofNat_toNat
  rw [this]
 refine zs2 this ?_
 rfl
theorem index_T (s : Bs) : T (k + 2) 303 [.str s, .str [47]] = some (.int .i64 (Lib.indexByte s 47), []) := by
 refine enter rfl func303 rfl (by decide) (by kernel_rfl) rfl rfl ?_
 refine zs0 ?_
 refine W.cond rfl (fun hc => ?_) (fun hc => ?_)
 ·have hc : ([47] : Bs) = s := of_decide_eq_true hc
  subst hc
  refine zs0 ?_
  rfl
 ·refine zs1 (indexByte_T s 47) ?_
  rfl
theorem cut1_T (s : Bs) (hs : s.length < 4611686018427387904) : T (k + 3) 270 [.str s, .str [47]] = some (.tup [.str (cutS s).1, .str (cutS s).2.1, .bool (cutS s).2.2], []) := by
 have hib := ib_ge s 47
 have hcut := ib_cut s
 refine enter rfl func270 rfl (by decide) (by kernel_rfl) rfl rfl ?_
 refine zs1 (index_T s) ?_
 generalize Lib.indexByte s 47 = i at *
 refine W.cond rfl (fun hc => ?_) (fun hc => ?_)
 ·have hc := of_decide_eq_true hc
  rw [if_neg (by omega)] at hcut
  refine zd8 ?_
  refine wD te rfl rfl (by omega) ?_
  refine zd0 ?_
  rw [wrap_i64 (by simp; omega) (by simp; omega)]
  refine wD te rfl rfl (by simp; omega) ?_
  refine zd7 ?_
  rw [hcut, show (i.toNat + 1) = (i + ([47] : Bs).length).toNat by simp; omega]
  rfl
 ·have hc := of_decide_eq_false hc
  rw [if_pos (by omega)] at hcut
  refine zs0 ?_
  rw [hcut]
  rfl
theorem cut_T (s : Bs) (hs : s.length < 4611686018427387904) : T (k + 4) 229 [.str s, .str [47]] = some (.tup [.str (cutS s).1, .str (cutS s).2.1, .bool (cutS s).2.2], []) := by
 refine enter rfl func229 rfl (by decide) (by kernel_rfl) rfl rfl ?_
 refine zs1 (cut1_T s hs) ?_
 rfl
theorem numeral_T (s : Bs) (hs : s.length < 4611686018427387904) : T (k + 1) 107 [.str s] = some (.bool (numeral s), []) := by
 refine enter rfl func107 rfl (by decide) (by kernel_rfl) rfl rfl ?_
 refine zs0 ?_
 refine wS te rfl rfl (by omega) ?_
 refine zs0 ?_
 rw [bytes_len]
 refine W.loop (fun e m => ∃ (i : Nat), e = [(0, .str s), (6, .imm 1 (bytesPV s)), (7, .int .i64 s.length), (8, .int .i64 i)] ∧ i ≤ s.length ∧ (s.take i).all isDg = true ∧ m = s.length - i) s.length ?_ ?_ ?_
 ·exact ⟨0, rfl, by omega, rfl, by omega⟩
 ·show _ < 4611686018427387904; omega
 ·rintro e m ⟨i, rfl, hi, hd, rfl⟩
  refine zs0 ?_
  refine W.cond rfl (fun hlt => ?_) (fun hlt => ?_)
  ·have hlt := of_decide_eq_true hlt
   have hg := bytes_get (s := s) (i := i) (by omega)
   have htk : s.take (i + 1) = s.take i ++ [s.getD i 0] := by
    rw [List.take_succ_eq_append_getElem (by omega)]
    simp [List.getD, List.getElem?_eq_getElem (show i < s.length by omega)]
   have hbad : isDg (s.getD i 0) = false → numeral s = false := by
    intro h
    unfold numeral
    have : s.all isDg = false := by
     have hc : [s.getD i 0].all isDg = false := by
      show (isDg (s.getD i 0) && true) = false
      rw [h]; rfl
     conv => lhs; rw [← List.take_append_drop (i + 1) s]
     rw [List.all_append, htk, List.all_append, hc, Bool.and_false, Bool.false_and]
    rw [this, Bool.false_and]
   have hdg : isDg (s.getD i 0) = (decide (48 ≤ (s.getD i 0).toNat) && decide ((s.getD i 0).toNat ≤ 57)) := rfl
   have hgood : isDg (s.getD i 0) = true → (s.take (i + 1)).all isDg = true := by
    intro h
    rw [htk, List.all_append, hd]
    show (true && (isDg (s.getD i 0) && true)) = true
    rw [h]; rfl
   generalize s.getD i 0 = c at *
   refine zs0 ?_
   refine wI te rfl rfl rfl rfl rfl rfl (by omega) (hg) ?_
   refine zs0 ?_
   refine WX.boolM rfl rfl (fun hb => ?_) (fun hb => ?_)
   ·have hb := of_decide_eq_true hb
    have hz : numeral s = false := hbad (by rw [hdg, decide_eq_false (by omega), Bool.false_and])
    refine zs0 ?_
    rw [hz]
    rfl
   ·have hb := of_decide_eq_false hb
    refine zs0 ?_
    refine W.cond rfl (fun hb2 => ?_) (fun hb2 => ?_)
    ·have hb2 := of_decide_eq_true hb2
     have hz : numeral s = false := hbad (by rw [hdg, decide_eq_false (p := c.toNat ≤ 57) (by omega), Bool.and_false])
     refine zs0 ?_
     rw [hz]
     rfl
    ·have hb2 := of_decide_eq_false hb2
     have hz := hgood (by rw [hdg, decide_eq_true (by omega), decide_eq_true (by omega)]; rfl)
     refine zs0 ?_
     rw [wrap_i64 (x := (i : Int) + 1) (by omega) (by omega)]
     show ∃ m', _
     exact ⟨s.length - (i + 1), by omega, i + 1, rfl, by omega, hz, rfl⟩
  ·have hlt := of_decide_eq_false hlt
   have hie : i = s.length := by omega
   subst hie
   rw [List.take_length] at hd
   refine zs0 ?_
   refine WX.boolM rfl rfl (fun hb => ?_) (fun hb => ?_)
   ·have hb : s = [48] := of_decide_eq_true hb
    refine zs0 ?_
    subst hb
    rfl
   ·have hb : ¬ s = [48] := of_decide_eq_false hb
    refine zs0 ?_
    refine WX.boolM rfl rfl (fun hb2 => ?_) (fun hb2 => ?_)
    ·have hb2 : s ≠ [] := of_decide_eq_true hb2
     refine zs0 ?_
     refine wS te rfl rfl (by exact ⟨by omega, by have := List.length_pos_iff.2 hb2; omega⟩) ?_
     refine zs0 ?_
     have hn : numeral s = decide (((s.getD (0 : Int).toNat 0).toNat : Int) ≠ 48) := by
      unfold numeral
      rw [hd, Bool.true_and]
      obtain ⟨c, t, rfl⟩ : ∃ c t, s = c :: t := by
       cases s with
       | nil => exact absurd rfl hb2
       | cons c t => exact ⟨c, t, rfl⟩
      have e1 : ((c :: t == [48])) = false := by simpa using hb
      have e2 : ((c :: t != [])) = true := rfl
      rw [e1, e2, Bool.false_or, Bool.true_and]
      show (some c != some 48) = decide ((c.toNat : Int) ≠ 48)
      by_cases h : c = 48
      ·subst h; rfl
      ·have : ¬ c.toNat = 48 := fun hc => h (UInt8.toNat.inj hc)
       rw [decide_eq_true (by omega)]
       simpa using h
     rw [hn]
     rfl
    ·have hb2 : ¬ s ≠ [] := of_decide_eq_false hb2
     have : s = [] := by simpa using hb2
     subst this
     refine zs0 ?_
     rfl
end Go.PE
namespace Go.PE
open Go.RowKit Go.Proofs.Tryz
set_option maxRecDepth 100000
variable {k : Nat}
theorem parseUint_T (s : Bs) (hd : s.all isDg = true) (h0 : s ≠ []) (hl : s.length ≤ 9) : T (k + 1) 304 [.str s, .int .i64 10, .int .i64 64] = some (.tup [.int .u64 (val s : Nat), .nili], []) := by
 refine enter rfl func304 rfl (by decide) (by kernel_rfl) rfl rfl ?_
 refine zs0 ?_
 refine W.cond rfl (fun hc => ?_) (fun hc => ?_)
 ·exact absurd (of_decide_eq_true hc) h0
 ·clear hc
  refine zs0 ?_
  refine wS te rfl rfl (by omega) ?_
  refine zs0 ?_
  refine W.loop (fun e m => ∃ (i v : Nat), e = [(1, .int .i64 10), (8, .bool false), (9, .str s), (10, .int .u64 1844674407370955162), (11, .int .u64 18446744073709551615), (12, .bool false), (13, .int .u64 v), (99, .imm 1 (bytesPV s)), (100, .int .i64 s.length), (101, .int .i64 i)] ∧
   i ≤ s.length ∧ v = val (s.take i) ∧ m = s.length - i) s.length ?_ ?_ ?_
  ·refine ⟨0, 0, ?_, by omega, rfl, by omega⟩
   rw [bytes_len]
   rfl
  ·show _ < 4611686018427387904; omega
  ·rintro e m ⟨i, v, rfl, hi, hv, rfl⟩
   have hvl : v < 10 ^ i := by
    have := val_lt (all_take hd i)
    rw [List.length_take, Nat.min_eq_left hi] at this
    rw [hv]; exact this
   refine zs0 ?_
   refine W.cond rfl (fun hlt => ?_) (fun hlt => ?_)
   ·have hlt := of_decide_eq_true hlt
    have hg := bytes_get (s := s) (i := i) (by omega)
    have hdc := isDg_nat (all_getD hd (i := i) (by omega))
    have hvl2 : v < 100000000 := Nat.lt_of_lt_of_le hvl (Nat.pow_le_pow_right (n := 10) (by omega) (show i ≤ 8 by omega))
    have hdv : dv (s.getD i 0) = (s.getD i 0).toNat - 48 := rfl
    have hts := val_take_succ (s := s) (i := i) (by omega)
    generalize (s.getD i 0).toNat = c at *
    refine zs0 ?_
    refine wI te rfl rfl rfl rfl rfl rfl (by omega) (hg) ?_
    refine zs0 ?_
    refine WX.boolM rfl rfl (fun hb => ?_) (fun hb => ?_)
    ·have hb := of_decide_eq_true hb
     omega
    ·clear hb
     refine zs0 ?_
     refine WX.boolM rfl rfl (fun hb => ?_) (fun hb => ?_)
     ·clear hb
      refine zs0 ?_
      refine W.cond rfl (fun hb2 => ?_) (fun hb2 => ?_)
      ·clear hb2
       refine zs0 ?_
       rw [wrap_u8 (x := (c : Int) - 48) (by omega) (by omega)]
       refine zs0 ?_
       refine W.cond rfl (fun hb3 => ?_) (fun hb3 => ?_)
       ·have hb3 : IntKind.u8.wrap 10 ≤ (c : Int) - 48 := of_decide_eq_true hb3
        rw [wrap_u8 (by omega) (by omega)] at hb3
        omega
       ·clear hb3
        refine zs0 ?_
        refine W.cond rfl (fun hb4 => ?_) (fun hb4 => ?_)
        ·have hb4 := of_decide_eq_true hb4
         omega
        ·clear hb4
         refine zs0 ?_
         rw [wrap_u64 (x := 10) (by omega) (by omega), wrap_u64 (x := (v : Int) * 10) (by omega) (by omega), wrap_u64 (x := (c : Int) - 48) (by omega) (by omega), wrap_u64 (x := (v : Int) * 10 + (c - 48)) (by omega) (by omega)]
         refine WX.boolM rfl rfl (fun hb5 => ?_) (fun hb5 => ?_)
         ·have hb5 := of_decide_eq_true hb5
          omega
         ·clear hb5
          refine zs0 ?_
          refine W.cond rfl (fun hb6 => ?_) (fun hb6 => ?_)
          ·have hb6 := of_decide_eq_true hb6
           omega
          ·clear hb6
           refine zs0 ?_
           rw [wrap_i64 (x := (i : Int) + 1) (by omega) (by omega), show (v : Int) * 10 + (c - 48) = ((v * 10 + (c - 48) : Nat) : Int) by omega]
           show ∃ m', _
           refine ⟨s.length - (i + 1), by omega, i + 1, v * 10 + (c - 48), rfl, by omega, ?_, rfl⟩
           rw [hts, ← hv, hdv]
      ·have hb2 := of_decide_eq_false hb2
       omega
     ·have hb := of_decide_eq_false hb
      omega
   ·have hlt := of_decide_eq_false hlt
    have hie : i = s.length := by omega
    subst hie
    rw [List.take_length] at hv
    refine zs0 ?_
    rw [hv]
    rfl
theorem parseInt1_T (s : Bs) (hd : s.all isDg = true) (h0 : s ≠ []) (hl : s.length ≤ 9) : T (k + 2) 271 [.str s, .int .i64 10, .int .i64 64] = some (.tup [.int .i64 (val s : Nat), .nili], []) := by
 have hvl : val s < 1000000000 := by
  have := val_lt hd
  exact Nat.lt_of_lt_of_le this (Nat.pow_le_pow_right (n := 10) (by omega) hl)
 have hpos := List.length_pos_iff.2 h0
 have hdc := isDg_nat (all_getD hd (i := 0) hpos)
 have hu := parseUint_T (k := k) s hd h0 hl
 generalize hc0 : (s.getD 0 0).toNat = c at *
 refine enter rfl func271 rfl (by decide) (by kernel_rfl) rfl rfl ?_
 refine zs0 ?_
 refine W.cond rfl (fun hc => ?_) (fun hc => ?_)
 ·exact absurd (of_decide_eq_true hc) h0
 ·clear hc
  refine zs0 ?_
  refine wS te rfl rfl (by omega) ?_
  rw [show (0 : Int).toNat = 0 from rfl, hc0]
  refine zs0 ?_
  refine W.cond rfl (fun hc => ?_) (fun hc => ?_)
  ·have hc := of_decide_eq_true hc
   omega
  ·clear hc
   refine zs0 ?_
   refine W.cond rfl (fun hc => ?_) (fun hc => ?_)
   ·have hc := of_decide_eq_true hc
    omega
   ·clear hc
    refine zs1 hu ?_
    rw [show IntKind.u64.wrap (1 * 2 ^ min (IntKind.u64.wrap (IntKind.i64.wrap (64 - 1))).toNat IntKind.u64.bits) = 9223372036854775808 by decide]
    refine W.cond rfl (fun hc => ?_) (fun hc => ?_)
    ·have hc : (9223372036854775808 : Int) ≤ (val s : Nat) := of_decide_eq_true hc
     omega
    ·clear hc
     refine zs0 ?_
     rw [wrap_i64 (x := (val s : Nat)) (by omega) (by omega)]
     rfl
theorem parseInt_T (s : Bs) (hd : s.all isDg = true) (h0 : s ≠ []) (hl : s.length ≤ 9) : T (k + 3) 230 [.str s, .int .i64 10, .int .i64 64] = some (.tup [.int .i64 (val s : Nat), .nili], []) := by
 refine enter rfl func230 rfl (by decide) (by kernel_rfl) rfl rfl ?_
 refine zs1 (parseInt1_T s hd h0 hl) ?_
 rfl
end Go.PE
namespace Go.PE
open Go.RowKit
section
variable {P : Program} {Φ : FuncId → List PV → Option (PV × List (List PV))}
def finish0 (P : Program) (rs : List ResultVar) (bp : List Nat) (e : Env) : Option (PV × List (List PV)) :=
 match resFrz e rs with
 | none => none
 | some u => match resVals P (apply u e) rs, outsOf (apply u e) bp with
  | some vs, some outs => if nodupB (u.map (·.1)) && nodupB (resSlots rs ++ bp) then some (one vs, outs) else none
  | _, _ => none
def funcBody0 (P : Program) (Φ : FuncId → List PV → Option (PV × List (List PV))) (keep : List Nat) (lv : Nat → List Nat) (n nt : Nat) (c : Code) (rs : List ResultVar) (avs : List PV) : Option (PV × List (List PV)) :=
 if avs.length ≤ nt ∧ nt ≤ VS ∧ codeOK nt (boxPos avs) c = true ∧ avs.all stamp0 = true then
  match exec P Φ keep lv n 0 c (0, avs.zipIdx.map fun q => (q.2, q.1)) with
  | some (.exit _, _) => none
  | some (_, _, e) => finish0 P rs (boxPos avs) (lookup e)
  | none => none
 else none
theorem body_meets0 (hm : P.follows .mixedOrders = true) (hM : ∀ g, Meets P g (Φ g)) {f : FuncId} {fn : Func} (hf : P.funcs[f]? = some fn) {c : Code} (hc : fn.body = some c) (hn : fn.name ≠ "runtime.NumGoroutine")
    (keep : List Nat) (lv : Nat → List Nat) (n : Nat) : MeetsN P f (funcBody0 P Φ keep lv n fn.ntmps c fn.results.toList) := by
  intro w Fz args avs bs r outs hgl hfz hnd hbs hreps hF o a0 next Q hnext
  unfold funcBody0 at hF
  split at hF
  · rename_i hcond
    obtain ⟨hlen, hnt, hcode, hst⟩ := hcond
    have henter : (callFunc f args).run P w = .ok (.enter f args) w := by
      simp [callFunc, hf, hn, hc]
    rw [henter, Oper.upon_enter]
    have hal : args.toList.length = avs.length := hreps.length
    have has : args.size = avs.length := by rw [← hal]; simp
    obtain ⟨g, g1, g2, g3, g4, g5⟩ := hreps.blocks hnd
    let act : Act := { tmps := args ++ Array.replicate (fn.ntmps - args.size) undef, defers := [] }
    let C : Ctx := { B := ⟨w, bs, Fz, undef⟩, nt := fn.ntmps, K := fun t => t ∈ boxPos avs, T := fun t => args.getD t undef }
    let B : Base := ⟨w, bs, Fz, undef⟩
    have htm : ∀ i, i < args.size → tmOf B act i = args.getD i undef := by
      intro i hi
      rw [tmOf_ne B act (by omega)]
      show (args ++ Array.replicate (fn.ntmps - args.size) undef).getD i undef = _
      rw [Array.getD_eq_getD_getElem?, Array.getD_eq_getD_getElem?, Array.getElem?_append_left hi]
    have hsat : Sat C (fun s => s.1 ≤ 0) (lookup (avs.zipIdx.map fun q => (q.2, q.1))) act w := by
      refine ⟨⟨Fz, g, ?_⟩, ?_, hnt, rfl, fun t ht => ?_⟩
      · refine { rep := ?_, glob := hgl, nodup := g3, disj := g4, notFz := fun s b hb => (hbs b (g5 s b hb)).1, lt := fun s b hb => (hbs b (g5 s b hb)).2, fzlt := hfz, mine := fun s b hb => .inl (g5 s b hb), fz0 := fun _ h => h, fzo := fun _ h => .inl h,
                 stamps := ?_, os := rfl, tape := rfl, output := rfl, size := Nat.le_refl _, frame := fun _ _ _ => rfl }
        · intro s
          unfold SlotRep
          rw [lookup_args]
          by_cases hs : s < avs.length
          · have h1 : avs[s]? = some avs[s] := List.getElem?_eq_getElem hs
            have h2 : args.toList[s]? = some (args.getD s undef) := by
              rw [Array.getD_eq_getD_getElem?]
              simp [show s < args.size by omega]
            have hR := g1 s _ _ h2 h1
            rw [h1, Option.getD_some, htm s (by omega)]
            generalize args.getD s undef = av at hR ⊢
            generalize g s = gs at hR ⊢
            cases hv : avs[s] with
            | dead =>
              rw [hv] at hR
              rw [if_pos (show isRef .dead = true from rfl)]
              cases hR with
              | plain h => cases h
              | dead v => exact ⟨rfl, trivial⟩
            | loc => rw [hv] at hR; cases hR with | plain h => cases h
            | eloc => rw [hv] at hR; cases hR with | plain h => cases h
            | snap => rw [hv] at hR; cases hR with | plain h => cases h
            | _ => rw [hv] at hR; exact hR
          · rw [List.getElem?_eq_none (by omega), Option.getD_none, if_pos (show isRef .dead = true from rfl)]
            exact ⟨g2 s (by omega), trivial⟩
        · intro s st hs
          rw [lookup_args] at hs
          by_cases hlt : s < avs.length
          · rw [List.getElem?_eq_getElem hlt, Option.getD_some] at hs
            rw [List.all_eq_true] at hst
            have := hst _ (List.getElem_mem hlt)
            unfold stamp0 at this
            rw [List.all_eq_true] at this
            have := this st hs
            simp at this
            omega
          · rw [List.getElem?_eq_none (by omega), Option.getD_none] at hs
            simp [stampsOf, stamps1] at hs
      · show (args ++ Array.replicate (fn.ntmps - args.size) undef).size = fn.ntmps
        simp; omega
      · have := (boxPos_box ht).2
        exact htm t (by omega)
    have fin : ∀ (ex : Ex) (rid : Nat) (e : List (Nat × PV)), exec P Φ keep lv n 0 c (0, avs.zipIdx.map fun q => (q.2, q.1)) = some (ex, rid, e) → (∀ id, ex ≠ .exit id) → finish0 P fn.results.toList (boxPos avs) (lookup e) = some (r, outs) →
        Calls P f args w fun
          | .returned v, w'' => next (a0.put o.dst v) w''
          | .panicked chain, w'' => Q (.panic chain) a0 w''
          | .outgrown, _ => LetsOut Q := by
      intro ex rid e hex hne hfin
      refine calls_of_wp hf hc ?_
      refine code_sound (C := C) hm hM (ks := boxPos avs) rfl lv n c 0 _ 0 rid _ e ex act w hcode hex hsat fun a' w' H' => ?_
      unfold finish0 at hfin
      split at hfin
      · cases hfin
      · rename_i u hu
        split at hfin
        · rename_i vs os hvs hos
          split at hfin
          · rename_i hnd2
            simp only [Option.some.injEq, Prod.mk.injEq] at hfin
            obtain ⟨rfl, rfl⟩ := hfin
            rw [Bool.and_eq_true, nodupB_iff, nodupB_iff] at hnd2
            obtain ⟨⟨Fz1, ob1, I1⟩, k1, _, k2, k3⟩ := H'
            obtain ⟨Fz2, ob2, I2⟩ := Inv.resFrz fn.results.toList [] Fz1 ob1 u I1 (fun q hq => by cases hq) hu (by simpa using hnd2.1)
            rw [List.nil_append] at I2
            obtain ⟨v, j1, j2, j3⟩ := run_results I2 hvs
            have hbx := outs_reps I2 hos
            have hflat := I2.flat_nodup ((resSlots fn.results.toList ++ boxPos avs).map fun i => (i, ((0, 0) : Stamp))) (by simpa [Function.comp_def] using hnd2.2)
            have hpost : Post w Fz bs (boxVals args.toList avs) (one vs) os v w' := by
              refine ⟨I2.os, I2.tape, I2.output, I2.size, fun b hb hn => I2.frame b hb hn, j3, Fz2, (resSlots fn.results.toList).flatMap ob2, (boxPos avs).flatMap ob2, fun b hb => I2.fz0 b hb, fun b hb => ?_, fun b hb => ?_, ?_, j2, ?_⟩
              · rcases I2.fzo b hb with h | h | h
                · exact .inl h
                · exact .inr (.inl h)
                · exact .inr (.inr ⟨h, I2.fzlt b hb⟩)
              · rw [← List.flatMap_append] at hb
                obtain ⟨i, hi, hb⟩ := List.mem_flatMap.1 hb
                refine ⟨?_, I2.notFz i b hb⟩
                rcases I2.mine i b hb with h | h
                · exact .inl h
                · exact .inr ⟨h, I2.lt i b hb⟩
              · rw [← List.flatMap_append]
                simpa [List.flatMap_map] using hflat
              · have hmap : (boxPos avs).map (tmOf B a') = boxVals args.toList avs := by
                  rw [boxVals_pos (args := args.toList) (avs := avs) 0 (fun t => args.getD t undef) (fun i v hv => by
                    rw [Nat.zero_add, Array.getD_eq_getD_getElem?]
                    have : args[i]? = some v := by simpa using hv
                    rw [this]; rfl) hal]
                  exact List.map_congr_left fun t ht => k3 t ht
                rw [← hmap]
                exact hbx
            have hres := hnext v w' hpost
            cases ex with
            | exit id => exact absurd rfl (hne id)
            | normal => exact ⟨k2, v, j1, hres⟩
            | ret => exact ⟨k2, v, j1, hres⟩
          · cases hfin
        · cases hfin
    split at hF
    · cases hF
    · rename_i ex rid e hne hex
      exact fin ex rid e hex (fun id h => hne id h) hF
    · cases hF
  · cases hF
end
end Go.PE
namespace Go.PE
open Go.RowKit Go.Proofs.Tryz
set_option maxRecDepth 100000
theorem const_body (kd : Int) (s : Bs) : funcBody0 prog (fun _ _ => none) [] (fun _ => []) 0 f176.ntmps (f176.body.getD .skip) f176.results.toList [.int .i64 kd, .str s] = some (.agg [.int .i64 kd, .nils 2, .str s], []) := by
 rfl
theorem const_meets : Meets prog 176 constF := by
 have h := body_meets0 (P := prog) (Φ := fun _ _ => none) mixed_ok (fun g => none_meets g) func176 (c := f176.body.getD .skip) rfl (by decide) [] (fun _ => []) 0
 refine ⟨fun _ _ => ?_, ⟨fun h => absurd h (by decide), fun _ h => absurd h (by decide)⟩⟩
 intro w Fz args avs bs r outs h1 h2 h3 h4 h5 hF
 refine h w Fz args avs bs r outs h1 h2 h3 h4 h5 ?_
 unfold constF at hF
 split at hF
 ·rw [← hF]
  exact const_body _ _
 ·cases hF
end Go.PE
