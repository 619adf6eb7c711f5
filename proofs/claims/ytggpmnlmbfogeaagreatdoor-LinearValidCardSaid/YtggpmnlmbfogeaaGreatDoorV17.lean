/-
  A part of the proof that the law's function returns true and leaves its arguments as they were, for every input (no condition): own lemmas of the proof, in the order of their use.
-/
import Derived.Test.YtggpmnlmbfogeaaGreatDoorV16
set_option linter.all false
namespace Go.PE
open Go.RowKit Go.Proofs.Tryz
set_option maxRecDepth 100000
variable {k : Nat}
theorem hasPrefix_T (s p : Bs) (hp : p.length < 4611686018427387904) : T (k + 1) 244 [.str s, .str p] = some (.bool (decide (p.length ≤ s.length) && decide (s.take p.length = p)), []) := by
  refine enter rfl func244 rfl (by decide) (by kernel_rfl) rfl rfl ?_
  repeat (first | refine WX.step tab_eq rfl rfl trivial ?_ | refine WX.step tab_eq rfl rfl (by decide) ?_ | refine WX.nil ?_ | refine W.seq ?_ | refine W.region ?_ | refine W.regionD ?_ | refine W.block ?_ | refine W.skip ?_ | refine W.exit ?_ | refine W.ret ?_ | refine W.condT rfl ?_ | refine W.condF rfl ?_ | refine WX.skip rfl ?_)
  refine WX.boolM rfl rfl (fun hb => ?_) (fun hb => ?_)
  · have hb := of_decide_eq_true hb
    have hb' : p.length ≤ s.length := by omega
    repeat (first | refine WX.step tab_eq rfl rfl trivial ?_ | refine WX.step tab_eq rfl rfl (by decide) ?_ | refine WX.nil ?_ | refine W.seq ?_ | refine W.region ?_ | refine W.regionD ?_ | refine W.block ?_ | refine W.skip ?_ | refine W.exit ?_ | refine W.ret ?_ | refine W.condT rfl ?_ | refine W.condF rfl ?_ | refine WX.skip rfl ?_)
    refine WX.step tab_eq rfl rfl (by omega) ?_
    repeat (first | refine WX.step tab_eq rfl rfl trivial ?_ | refine WX.step tab_eq rfl rfl (by decide) ?_ | refine WX.nil ?_ | refine W.seq ?_ | refine W.region ?_ | refine W.regionD ?_ | refine W.block ?_ | refine W.skip ?_ | refine W.exit ?_ | refine W.ret ?_ | refine W.condT rfl ?_ | refine W.condF rfl ?_ | refine WX.skip rfl ?_)
    rw [decide_eq_true hb', Int.toNat_natCast]
    rfl
  · have hb := of_decide_eq_false hb
    have hb' : ¬ p.length ≤ s.length := by omega
    repeat (first | refine WX.step tab_eq rfl rfl trivial ?_ | refine WX.step tab_eq rfl rfl (by decide) ?_ | refine WX.nil ?_ | refine W.seq ?_ | refine W.region ?_ | refine W.regionD ?_ | refine W.block ?_ | refine W.skip ?_ | refine W.exit ?_ | refine W.ret ?_ | refine W.condT rfl ?_ | refine W.condF rfl ?_ | refine WX.skip rfl ?_)
    rw [decide_eq_false hb']
    rfl
theorem cutPrefix1_T (s : Bs) : T (k + 2) 192 [.str s, .str [45]] = some (.tup [.str (cutM s).1, .bool (cutM s).2], []) := by
  have hh := hasPrefix_T (k := k) s [45] (by simp)
  refine enter rfl func192 rfl (by decide) (by kernel_rfl) rfl rfl ?_
  repeat (first | refine WX.step tab_eq rfl rfl trivial ?_ | refine WX.step tab_eq rfl rfl (by decide) ?_ | refine WX.nil ?_ | refine W.seq ?_ | refine W.region ?_ | refine W.regionD ?_ | refine W.block ?_ | refine W.skip ?_ | refine W.exit ?_ | refine W.ret ?_ | refine W.condT rfl ?_ | refine W.condF rfl ?_ | refine WX.skip rfl ?_)
  refine WX.call tab_eq rfl rfl rfl rfl rfl (hh) rfl rfl ?_
  repeat (first | refine WX.step tab_eq rfl rfl trivial ?_ | refine WX.step tab_eq rfl rfl (by decide) ?_ | refine WX.nil ?_ | refine W.seq ?_ | refine W.region ?_ | refine W.regionD ?_ | refine W.block ?_ | refine W.skip ?_ | refine W.exit ?_ | refine W.ret ?_ | refine W.condT rfl ?_ | refine W.condF rfl ?_ | refine WX.skip rfl ?_)
  refine W.cond rfl (fun hc => ?_) (fun hc => ?_)
  · have hc : (cutM s) = (s, false) := by
      unfold cutM
      split
      · rename_i c t
        split
        · rename_i h; subst h; simp at hc
        · rfl
      · rfl
    repeat (first | refine WX.step tab_eq rfl rfl trivial ?_ | refine WX.step tab_eq rfl rfl (by decide) ?_ | refine WX.nil ?_ | refine W.seq ?_ | refine W.region ?_ | refine W.regionD ?_ | refine W.block ?_ | refine W.skip ?_ | refine W.exit ?_ | refine W.ret ?_ | refine W.condT rfl ?_ | refine W.condF rfl ?_ | refine WX.skip rfl ?_)
    rw [hc]
    rfl
  · have hc : s = 45 :: (cutM s).1 ∧ (cutM s).2 = true := by
      unfold cutM
      split
      · rename_i c t
        split
        · rename_i h; subst h; exact ⟨rfl, rfl⟩
        · rename_i h; exfalso; simp at hc; exact h hc
      · simp at hc
    repeat (first | refine WX.step tab_eq rfl rfl trivial ?_ | refine WX.step tab_eq rfl rfl (by decide) ?_ | refine WX.nil ?_ | refine W.seq ?_ | refine W.region ?_ | refine W.regionD ?_ | refine W.block ?_ | refine W.skip ?_ | refine W.exit ?_ | refine W.ret ?_ | refine W.condT rfl ?_ | refine W.condF rfl ?_ | refine WX.skip rfl ?_)
    refine WX.step tab_eq rfl rfl (by rw [hc.1]; simp; omega) ?_
    repeat (first | refine WX.step tab_eq rfl rfl trivial ?_ | refine WX.step tab_eq rfl rfl (by decide) ?_ | refine WX.nil ?_ | refine W.seq ?_ | refine W.region ?_ | refine W.regionD ?_ | refine W.block ?_ | refine W.skip ?_ | refine W.exit ?_ | refine W.ret ?_ | refine W.condT rfl ?_ | refine W.condF rfl ?_ | refine WX.skip rfl ?_)
    rw [hc.2]
    have : List.drop (1 : Int).toNat s = (cutM s).1 := by
      conv => lhs; rw [hc.1]
      rfl
    rw [← this]
    rfl
theorem cutPrefix_T (s : Bs) : T (k + 3) 106 [.str s, .str [45]] = some (.tup [.str (cutM s).1, .bool (cutM s).2], []) := by
  refine enter rfl func106 rfl (by decide) (by kernel_rfl) rfl rfl ?_
  repeat (first | refine WX.step tab_eq rfl rfl trivial ?_ | refine WX.step tab_eq rfl rfl (by decide) ?_ | refine WX.nil ?_ | refine W.seq ?_ | refine W.region ?_ | refine W.regionD ?_ | refine W.block ?_ | refine W.skip ?_ | refine W.exit ?_ | refine W.ret ?_ | refine W.condT rfl ?_ | refine W.condF rfl ?_ | refine WX.skip rfl ?_)
  refine WX.call tab_eq rfl rfl rfl rfl rfl (cutPrefix1_T s) rfl rfl ?_
  repeat (first | refine WX.step tab_eq rfl rfl trivial ?_ | refine WX.step tab_eq rfl rfl (by decide) ?_ | refine WX.nil ?_ | refine W.seq ?_ | refine W.region ?_ | refine W.regionD ?_ | refine W.block ?_ | refine W.skip ?_ | refine W.exit ?_ | refine W.ret ?_ | refine W.condT rfl ?_ | refine W.condF rfl ?_ | refine WX.skip rfl ?_)
  rfl
theorem ib_ge (s : Bs) (c : UInt8) : -1 ≤ Lib.indexByte s c ∧ Lib.indexByte s c < s.length := by
  induction s with
  | nil => simp [Lib.indexByte]
  | cons b l ih =>
    rw [Lib.indexByte]
    split
    · simp <;> omega
    · split
      · simp <;> omega
      · simp <;> omega
theorem ib_cut (s : Bs) : cutS s = if Lib.indexByte s 47 = -1 then (s, [], false) else (s.take (Lib.indexByte s 47).toNat, s.drop ((Lib.indexByte s 47).toNat + 1), true) := by
  induction s with
  | nil => rfl
  | cons b l ih =>
    rw [cutS, Lib.indexByte]
    by_cases h : b = 47
    · subst h; simp
    · have hb : (b == 47) = false := by simpa using h
      rw [if_neg h, hb, ih]
      have := ib_ge l 47
      by_cases h1 : Lib.indexByte l 47 = -1
      · simp [h1]
      · have h2 : (Lib.indexByte l 47 == -1) = false := by simpa using h1
        simp only [if_neg h1, h2, Bool.false_eq_true, if_false]
        rw [if_neg (by omega), show (Lib.indexByte l 47 + 1).toNat = (Lib.indexByte l 47).toNat + 1 by omega]
        simp
theorem indexByte_T (s : Bs) (c : UInt8) : T (k + 1) 322 [.str s, .int .u8 c.toNat] = some (.int .i64 (Lib.indexByte s c), []) := by
  refine enter rfl func322 rfl (by decide) (by kernel_rfl) rfl rfl ?_
  repeat (first | refine WX.step tab_eq rfl rfl trivial ?_ | refine WX.step tab_eq rfl rfl (by decide) ?_ | refine WX.nil ?_ | refine W.seq ?_ | refine W.region ?_ | refine W.regionD ?_ | refine W.block ?_ | refine W.skip ?_ | refine W.exit ?_ | refine W.ret ?_ | refine W.condT rfl ?_ | refine W.condF rfl ?_ | refine WX.skip rfl ?_)
  have : T k 334 [.str s, .int .u8 (c.toNat : Nat)] = some (.int .i64 (Lib.indexByte s c), []) := by
    refine byX ?_
    show indexByteF [.str s, .int .u8 (c.toNat : Nat)] = _
    simp only [indexByteF]
    have : ((c.toNat : Nat) : Int).toNat.toUInt8 = c := by
      rw [Int.toNat_natCast]; exact UInt8.ofNat_toNat
    rw [this]
  refine WX.call tab_eq rfl rfl rfl rfl rfl (this) rfl rfl ?_
  repeat (first | refine WX.step tab_eq rfl rfl trivial ?_ | refine WX.step tab_eq rfl rfl (by decide) ?_ | refine WX.nil ?_ | refine W.seq ?_ | refine W.region ?_ | refine W.regionD ?_ | refine W.block ?_ | refine W.skip ?_ | refine W.exit ?_ | refine W.ret ?_ | refine W.condT rfl ?_ | refine W.condF rfl ?_ | refine WX.skip rfl ?_)
  rfl
theorem index_T (s : Bs) : T (k + 2) 303 [.str s, .str [47]] = some (.int .i64 (Lib.indexByte s 47), []) := by
  refine enter rfl func303 rfl (by decide) (by kernel_rfl) rfl rfl ?_
  repeat (first | refine WX.step tab_eq rfl rfl trivial ?_ | refine WX.step tab_eq rfl rfl (by decide) ?_ | refine WX.nil ?_ | refine W.seq ?_ | refine W.region ?_ | refine W.regionD ?_ | refine W.block ?_ | refine W.skip ?_ | refine W.exit ?_ | refine W.ret ?_ | refine W.condT rfl ?_ | refine W.condF rfl ?_ | refine WX.skip rfl ?_)
  refine W.cond rfl (fun hc => ?_) (fun hc => ?_)
  · have hc : ([47] : Bs) = s := of_decide_eq_true hc
    subst hc
    repeat (first | refine WX.step tab_eq rfl rfl trivial ?_ | refine WX.step tab_eq rfl rfl (by decide) ?_ | refine WX.nil ?_ | refine W.seq ?_ | refine W.region ?_ | refine W.regionD ?_ | refine W.block ?_ | refine W.skip ?_ | refine W.exit ?_ | refine W.ret ?_ | refine W.condT rfl ?_ | refine W.condF rfl ?_ | refine WX.skip rfl ?_)
    rfl
  · repeat (first | refine WX.step tab_eq rfl rfl trivial ?_ | refine WX.step tab_eq rfl rfl (by decide) ?_ | refine WX.nil ?_ | refine W.seq ?_ | refine W.region ?_ | refine W.regionD ?_ | refine W.block ?_ | refine W.skip ?_ | refine W.exit ?_ | refine W.ret ?_ | refine W.condT rfl ?_ | refine W.condF rfl ?_ | refine WX.skip rfl ?_)
    refine WX.call tab_eq rfl rfl rfl rfl rfl (indexByte_T s 47) rfl rfl ?_
    repeat (first | refine WX.step tab_eq rfl rfl trivial ?_ | refine WX.step tab_eq rfl rfl (by decide) ?_ | refine WX.nil ?_ | refine W.seq ?_ | refine W.region ?_ | refine W.regionD ?_ | refine W.block ?_ | refine W.skip ?_ | refine W.exit ?_ | refine W.ret ?_ | refine W.condT rfl ?_ | refine W.condF rfl ?_ | refine WX.skip rfl ?_)
    rfl
theorem cut1_T (s : Bs) (hs : s.length < 4611686018427387904) : T (k + 3) 270 [.str s, .str [47]] = some (.tup [.str (cutS s).1, .str (cutS s).2.1, .bool (cutS s).2.2], []) := by
  have hib := ib_ge s 47
  have hcut := ib_cut s
  refine enter rfl func270 rfl (by decide) (by kernel_rfl) rfl rfl ?_
  repeat (first | refine WX.step tab_eq rfl rfl trivial ?_ | refine WX.step tab_eq rfl rfl (by decide) ?_ | refine WX.nil ?_ | refine W.seq ?_ | refine W.region ?_ | refine W.regionD ?_ | refine W.block ?_ | refine W.skip ?_ | refine W.exit ?_ | refine W.ret ?_ | refine W.condT rfl ?_ | refine W.condF rfl ?_ | refine WX.skip rfl ?_)
  refine WX.call tab_eq rfl rfl rfl rfl rfl (index_T s) rfl rfl ?_
  repeat (first | refine WX.step tab_eq rfl rfl trivial ?_ | refine WX.step tab_eq rfl rfl (by decide) ?_ | refine WX.nil ?_ | refine W.seq ?_ | refine W.region ?_ | refine W.regionD ?_ | refine W.block ?_ | refine W.skip ?_ | refine W.exit ?_ | refine W.ret ?_ | refine W.condT rfl ?_ | refine W.condF rfl ?_ | refine WX.skip rfl ?_)
  generalize Lib.indexByte s 47 = i at *
  refine W.cond rfl (fun hc => ?_) (fun hc => ?_)
  · have hc := of_decide_eq_true hc
    rw [if_neg (by omega)] at hcut
    repeat (first | refine WX.step tab_eq rfl rfl trivial ?_ | refine WX.step tab_eq rfl rfl (by decide) ?_ | refine WX.nil ?_ | refine W.seq ?_ | refine W.region ?_ | refine W.regionD ?_ | refine W.block ?_ | refine W.skip ?_ | refine W.exit ?_ | refine W.ret ?_ | refine W.condT rfl ?_ | refine W.condF rfl ?_ | refine WX.skip rfl ?_)
    repeat (first | refine WX.stepD tab_eq rfl rfl trivial ?_ | refine WX.stepD tab_eq rfl rfl (by decide) ?_ | refine WX.skipD rfl ?_)
    refine WX.stepD tab_eq rfl rfl (by omega) ?_
    repeat (first | refine WX.stepD tab_eq rfl rfl trivial ?_ | refine WX.stepD tab_eq rfl rfl (by decide) ?_ | refine WX.skipD rfl ?_)
    rw [wrap_i64 (by simp; omega) (by simp; omega)]
    refine WX.stepD tab_eq rfl rfl (by simp; omega) ?_
    repeat (first | refine WX.stepD tab_eq rfl rfl trivial ?_ | refine WX.stepD tab_eq rfl rfl (by decide) ?_ | refine WX.skipD rfl ?_)
    refine WX.nilD (by kernel_rfl) ?_
    repeat (first | refine WX.step tab_eq rfl rfl trivial ?_ | refine WX.step tab_eq rfl rfl (by decide) ?_ | refine WX.nil ?_ | refine W.seq ?_ | refine W.region ?_ | refine W.regionD ?_ | refine W.block ?_ | refine W.skip ?_ | refine W.exit ?_ | refine W.ret ?_ | refine W.condT rfl ?_ | refine W.condF rfl ?_ | refine WX.skip rfl ?_)
    rw [hcut, show (i.toNat + 1) = (i + ([47] : Bs).length).toNat by simp; omega]
    rfl
  · have hc := of_decide_eq_false hc
    rw [if_pos (by omega)] at hcut
    repeat (first | refine WX.step tab_eq rfl rfl trivial ?_ | refine WX.step tab_eq rfl rfl (by decide) ?_ | refine WX.nil ?_ | refine W.seq ?_ | refine W.region ?_ | refine W.regionD ?_ | refine W.block ?_ | refine W.skip ?_ | refine W.exit ?_ | refine W.ret ?_ | refine W.condT rfl ?_ | refine W.condF rfl ?_ | refine WX.skip rfl ?_)
    rw [hcut]
    rfl
theorem cut_T (s : Bs) (hs : s.length < 4611686018427387904) : T (k + 4) 229 [.str s, .str [47]] = some (.tup [.str (cutS s).1, .str (cutS s).2.1, .bool (cutS s).2.2], []) := by
  refine enter rfl func229 rfl (by decide) (by kernel_rfl) rfl rfl ?_
  repeat (first | refine WX.step tab_eq rfl rfl trivial ?_ | refine WX.step tab_eq rfl rfl (by decide) ?_ | refine WX.nil ?_ | refine W.seq ?_ | refine W.region ?_ | refine W.regionD ?_ | refine W.block ?_ | refine W.skip ?_ | refine W.exit ?_ | refine W.ret ?_ | refine W.condT rfl ?_ | refine W.condF rfl ?_ | refine WX.skip rfl ?_)
  refine WX.call tab_eq rfl rfl rfl rfl rfl (cut1_T s hs) rfl rfl ?_
  repeat (first | refine WX.step tab_eq rfl rfl trivial ?_ | refine WX.step tab_eq rfl rfl (by decide) ?_ | refine WX.nil ?_ | refine W.seq ?_ | refine W.region ?_ | refine W.regionD ?_ | refine W.block ?_ | refine W.skip ?_ | refine W.exit ?_ | refine W.ret ?_ | refine W.condT rfl ?_ | refine W.condF rfl ?_ | refine WX.skip rfl ?_)
  rfl
theorem numeral_T (s : Bs) (hs : s.length < 4611686018427387904) : T (k + 1) 107 [.str s] = some (.bool (numeral s), []) := by
  refine enter rfl func107 rfl (by decide) (by kernel_rfl) rfl rfl ?_
  repeat (first | refine WX.step tab_eq rfl rfl trivial ?_ | refine WX.step tab_eq rfl rfl (by decide) ?_ | refine WX.nil ?_ | refine W.seq ?_ | refine W.region ?_ | refine W.regionD ?_ | refine W.block ?_ | refine W.skip ?_ | refine W.exit ?_ | refine W.ret ?_ | refine W.condT rfl ?_ | refine W.condF rfl ?_ | refine WX.skip rfl ?_)
  refine WX.step tab_eq rfl rfl (by omega) ?_
  repeat (first | refine WX.step tab_eq rfl rfl trivial ?_ | refine WX.step tab_eq rfl rfl (by decide) ?_ | refine WX.nil ?_ | refine W.seq ?_ | refine W.region ?_ | refine W.regionD ?_ | refine W.block ?_ | refine W.skip ?_ | refine W.exit ?_ | refine W.ret ?_ | refine W.condT rfl ?_ | refine W.condF rfl ?_ | refine WX.skip rfl ?_)
  rw [bytes_len]
  refine W.loop (fun e m => ∃ (i : Nat), e = [(0, .str s), (6, .imm 1 (bytesPV s)), (7, .int .i64 s.length), (8, .int .i64 i)] ∧ i ≤ s.length ∧ (s.take i).all isDg = true ∧ m = s.length - i) s.length ?_ ?_ ?_
  · exact ⟨0, rfl, by omega, rfl, by omega⟩
  · show _ < 4611686018427387904; omega
  · rintro e m ⟨i, rfl, hi, hd, rfl⟩
    repeat (first | refine WX.step tab_eq rfl rfl trivial ?_ | refine WX.step tab_eq rfl rfl (by decide) ?_ | refine WX.nil ?_ | refine W.seq ?_ | refine W.region ?_ | refine W.regionD ?_ | refine W.block ?_ | refine W.skip ?_ | refine W.exit ?_ | refine W.ret ?_ | refine W.condT rfl ?_ | refine W.condF rfl ?_ | refine WX.skip rfl ?_)
    refine W.cond rfl (fun hlt => ?_) (fun hlt => ?_)
    · have hlt := of_decide_eq_true hlt
      have hg := bytes_get (s := s) (i := i) (by omega)
      have htk : s.take (i + 1) = s.take i ++ [s.getD i 0] := by
        rw [List.take_succ_eq_append_getElem (by omega)]
        simp [List.getD, List.getElem?_eq_getElem (show i < s.length by omega)]
      have hbad : isDg (s.getD i 0) = false → numeral s = false := by
        intro h
        unfold numeral
        have : s.all isDg = false := by
          have hc : [s.getD i 0].all isDg = false := by
            show (isDg (s.getD i 0) && true) = false
            rw [h]; rfl
          conv => lhs; rw [← List.take_append_drop (i + 1) s]
          rw [List.all_append, htk, List.all_append, hc, Bool.and_false, Bool.false_and]
        rw [this, Bool.false_and]
      have hdg : isDg (s.getD i 0) = (decide (48 ≤ (s.getD i 0).toNat) && decide ((s.getD i 0).toNat ≤ 57)) := rfl
      have hgood : isDg (s.getD i 0) = true → (s.take (i + 1)).all isDg = true := by
        intro h
        rw [htk, List.all_append, hd]
        show (true && (isDg (s.getD i 0) && true)) = true
        rw [h]; rfl
      generalize s.getD i 0 = c at *
      repeat (first | refine WX.step tab_eq rfl rfl trivial ?_ | refine WX.step tab_eq rfl rfl (by decide) ?_ | refine WX.nil ?_ | refine W.seq ?_ | refine W.region ?_ | refine W.regionD ?_ | refine W.block ?_ | refine W.skip ?_ | refine W.exit ?_ | refine W.ret ?_ | refine W.condT rfl ?_ | refine W.condF rfl ?_ | refine WX.skip rfl ?_)
      refine WX.idxImm tab_eq rfl rfl rfl rfl rfl rfl (by omega) (hg) ?_
      repeat (first | refine WX.step tab_eq rfl rfl trivial ?_ | refine WX.step tab_eq rfl rfl (by decide) ?_ | refine WX.nil ?_ | refine W.seq ?_ | refine W.region ?_ | refine W.regionD ?_ | refine W.block ?_ | refine W.skip ?_ | refine W.exit ?_ | refine W.ret ?_ | refine W.condT rfl ?_ | refine W.condF rfl ?_ | refine WX.skip rfl ?_)
      refine WX.boolM rfl rfl (fun hb => ?_) (fun hb => ?_)
      · have hb := of_decide_eq_true hb
        have hz : numeral s = false := hbad (by rw [hdg, decide_eq_false (by omega), Bool.false_and])
        repeat (first | refine WX.step tab_eq rfl rfl trivial ?_ | refine WX.step tab_eq rfl rfl (by decide) ?_ | refine WX.nil ?_ | refine W.seq ?_ | refine W.region ?_ | refine W.regionD ?_ | refine W.block ?_ | refine W.skip ?_ | refine W.exit ?_ | refine W.ret ?_ | refine W.condT rfl ?_ | refine W.condF rfl ?_ | refine WX.skip rfl ?_)
        rw [hz]
        rfl
      · have hb := of_decide_eq_false hb
        repeat (first | refine WX.step tab_eq rfl rfl trivial ?_ | refine WX.step tab_eq rfl rfl (by decide) ?_ | refine WX.nil ?_ | refine W.seq ?_ | refine W.region ?_ | refine W.regionD ?_ | refine W.block ?_ | refine W.skip ?_ | refine W.exit ?_ | refine W.ret ?_ | refine W.condT rfl ?_ | refine W.condF rfl ?_ | refine WX.skip rfl ?_)
        refine W.cond rfl (fun hb2 => ?_) (fun hb2 => ?_)
        · have hb2 := of_decide_eq_true hb2
          have hz : numeral s = false := hbad (by rw [hdg, decide_eq_false (p := c.toNat ≤ 57) (by omega), Bool.and_false])
          repeat (first | refine WX.step tab_eq rfl rfl trivial ?_ | refine WX.step tab_eq rfl rfl (by decide) ?_ | refine WX.nil ?_ | refine W.seq ?_ | refine W.region ?_ | refine W.regionD ?_ | refine W.block ?_ | refine W.skip ?_ | refine W.exit ?_ | refine W.ret ?_ | refine W.condT rfl ?_ | refine W.condF rfl ?_ | refine WX.skip rfl ?_)
          rw [hz]
          rfl
        · have hb2 := of_decide_eq_false hb2
          have hz := hgood (by rw [hdg, decide_eq_true (by omega), decide_eq_true (by omega)]; rfl)
          repeat (first | refine WX.step tab_eq rfl rfl trivial ?_ | refine WX.step tab_eq rfl rfl (by decide) ?_ | refine WX.nil ?_ | refine W.seq ?_ | refine W.region ?_ | refine W.regionD ?_ | refine W.block ?_ | refine W.skip ?_ | refine W.exit ?_ | refine W.ret ?_ | refine W.condT rfl ?_ | refine W.condF rfl ?_ | refine WX.skip rfl ?_)
          rw [wrap_i64 (x := (i : Int) + 1) (by omega) (by omega)]
          show ∃ m', _
          exact ⟨s.length - (i + 1), by omega, i + 1, rfl, by omega, hz, rfl⟩
    · have hlt := of_decide_eq_false hlt
      have hie : i = s.length := by omega
      subst hie
      rw [List.take_length] at hd
      repeat (first | refine WX.step tab_eq rfl rfl trivial ?_ | refine WX.step tab_eq rfl rfl (by decide) ?_ | refine WX.nil ?_ | refine W.seq ?_ | refine W.region ?_ | refine W.regionD ?_ | refine W.block ?_ | refine W.skip ?_ | refine W.exit ?_ | refine W.ret ?_ | refine W.condT rfl ?_ | refine W.condF rfl ?_ | refine WX.skip rfl ?_)
      refine WX.boolM rfl rfl (fun hb => ?_) (fun hb => ?_)
      · have hb : s = [48] := of_decide_eq_true hb
        repeat (first | refine WX.step tab_eq rfl rfl trivial ?_ | refine WX.step tab_eq rfl rfl (by decide) ?_ | refine WX.nil ?_ | refine W.seq ?_ | refine W.region ?_ | refine W.regionD ?_ | refine W.block ?_ | refine W.skip ?_ | refine W.exit ?_ | refine W.ret ?_ | refine W.condT rfl ?_ | refine W.condF rfl ?_ | refine WX.skip rfl ?_)
        subst hb
        rfl
      · have hb : ¬ s = [48] := of_decide_eq_false hb
        repeat (first | refine WX.step tab_eq rfl rfl trivial ?_ | refine WX.step tab_eq rfl rfl (by decide) ?_ | refine WX.nil ?_ | refine W.seq ?_ | refine W.region ?_ | refine W.regionD ?_ | refine W.block ?_ | refine W.skip ?_ | refine W.exit ?_ | refine W.ret ?_ | refine W.condT rfl ?_ | refine W.condF rfl ?_ | refine WX.skip rfl ?_)
        refine WX.boolM rfl rfl (fun hb2 => ?_) (fun hb2 => ?_)
        · have hb2 : s ≠ [] := of_decide_eq_true hb2
          repeat (first | refine WX.step tab_eq rfl rfl trivial ?_ | refine WX.step tab_eq rfl rfl (by decide) ?_ | refine WX.nil ?_ | refine W.seq ?_ | refine W.region ?_ | refine W.regionD ?_ | refine W.block ?_ | refine W.skip ?_ | refine W.exit ?_ | refine W.ret ?_ | refine W.condT rfl ?_ | refine W.condF rfl ?_ | refine WX.skip rfl ?_)
          refine WX.step tab_eq rfl rfl (by exact ⟨by omega, by have := List.length_pos_iff.2 hb2; omega⟩) ?_
          repeat (first | refine WX.step tab_eq rfl rfl trivial ?_ | refine WX.step tab_eq rfl rfl (by decide) ?_ | refine WX.nil ?_ | refine W.seq ?_ | refine W.region ?_ | refine W.regionD ?_ | refine W.block ?_ | refine W.skip ?_ | refine W.exit ?_ | refine W.ret ?_ | refine W.condT rfl ?_ | refine W.condF rfl ?_ | refine WX.skip rfl ?_)
          have hn : numeral s = decide (((s.getD (0 : Int).toNat 0).toNat : Int) ≠ 48) := by
            unfold numeral
            rw [hd, Bool.true_and]
            obtain ⟨c, t, rfl⟩ : ∃ c t, s = c :: t := by
              cases s with
              | nil => exact absurd rfl hb2
              | cons c t => exact ⟨c, t, rfl⟩
            have e1 : ((c :: t == [48])) = false := by simpa using hb
            have e2 : ((c :: t != [])) = true := rfl
            rw [e1, e2, Bool.false_or, Bool.true_and]
            show (some c != some 48) = decide ((c.toNat : Int) ≠ 48)
            by_cases h : c = 48
            · subst h; rfl
            · have : ¬ c.toNat = 48 := fun hc => h (UInt8.toNat.inj hc)
              rw [decide_eq_true (by omega)]
              simpa using h
          rw [hn]
          rfl
        · have hb2 : ¬ s ≠ [] := of_decide_eq_false hb2
          have : s = [] := by simpa using hb2
          subst this
          repeat (first | refine WX.step tab_eq rfl rfl trivial ?_ | refine WX.step tab_eq rfl rfl (by decide) ?_ | refine WX.nil ?_ | refine W.seq ?_ | refine W.region ?_ | refine W.regionD ?_ | refine W.block ?_ | refine W.skip ?_ | refine W.exit ?_ | refine W.ret ?_ | refine W.condT rfl ?_ | refine W.condF rfl ?_ | refine WX.skip rfl ?_)
          rfl
end Go.PE
namespace Go.PE
open Go.RowKit Go.Proofs.Tryz
set_option maxRecDepth 100000
variable {k : Nat}
theorem parseUint_T (s : Bs) (hd : s.all isDg = true) (h0 : s ≠ []) (hl : s.length ≤ 9) : T (k + 1) 304 [.str s, .int .i64 10, .int .i64 64] = some (.tup [.int .u64 (val s : Nat), .nili], []) := by
  refine enter rfl func304 rfl (by decide) (by kernel_rfl) rfl rfl ?_
  repeat (first | refine WX.step tab_eq rfl rfl trivial ?_ | refine WX.step tab_eq rfl rfl (by decide) ?_ | refine WX.nil ?_ | refine W.seq ?_ | refine W.region ?_ | refine W.regionD ?_ | refine W.block ?_ | refine W.skip ?_ | refine W.exit ?_ | refine W.ret ?_ | refine W.condT rfl ?_ | refine W.condF rfl ?_ | refine WX.skip rfl ?_)
  refine W.cond rfl (fun hc => ?_) (fun hc => ?_)
  · exact absurd (of_decide_eq_true hc) h0
  · clear hc
    repeat (first | refine WX.step tab_eq rfl rfl trivial ?_ | refine WX.step tab_eq rfl rfl (by decide) ?_ | refine WX.nil ?_ | refine W.seq ?_ | refine W.region ?_ | refine W.regionD ?_ | refine W.block ?_ | refine W.skip ?_ | refine W.exit ?_ | refine W.ret ?_ | refine W.condT rfl ?_ | refine W.condF rfl ?_ | refine WX.skip rfl ?_)
    refine WX.step tab_eq rfl rfl (by omega) ?_
    repeat (first | refine WX.step tab_eq rfl rfl trivial ?_ | refine WX.step tab_eq rfl rfl (by decide) ?_ | refine WX.nil ?_ | refine W.seq ?_ | refine W.region ?_ | refine W.regionD ?_ | refine W.block ?_ | refine W.skip ?_ | refine W.exit ?_ | refine W.ret ?_ | refine W.condT rfl ?_ | refine W.condF rfl ?_ | refine WX.skip rfl ?_)
    refine W.loop (fun e m => ∃ (i v : Nat), e = [(1, .int .i64 10), (8, .bool false), (9, .str s), (10, .int .u64 1844674407370955162), (11, .int .u64 18446744073709551615), (12, .bool false), (13, .int .u64 v), (99, .imm 1 (bytesPV s)), (100, .int .i64 s.length), (101, .int .i64 i)] ∧
      i ≤ s.length ∧ v = val (s.take i) ∧ m = s.length - i) s.length ?_ ?_ ?_
    · refine ⟨0, 0, ?_, by omega, rfl, by omega⟩
      rw [bytes_len]
      rfl
    · show _ < 4611686018427387904; omega
    · rintro e m ⟨i, v, rfl, hi, hv, rfl⟩
      have hvl : v < 10 ^ i := by
        have := val_lt (all_take hd i)
        rw [List.length_take, Nat.min_eq_left hi] at this
        rw [hv]; exact this
      repeat (first | refine WX.step tab_eq rfl rfl trivial ?_ | refine WX.step tab_eq rfl rfl (by decide) ?_ | refine WX.nil ?_ | refine W.seq ?_ | refine W.region ?_ | refine W.regionD ?_ | refine W.block ?_ | refine W.skip ?_ | refine W.exit ?_ | refine W.ret ?_ | refine W.condT rfl ?_ | refine W.condF rfl ?_ | refine WX.skip rfl ?_)
      refine W.cond rfl (fun hlt => ?_) (fun hlt => ?_)
      · have hlt := of_decide_eq_true hlt
        have hg := bytes_get (s := s) (i := i) (by omega)
        have hdc := isDg_nat (all_getD hd (i := i) (by omega))
        have hvl2 : v < 100000000 := Nat.lt_of_lt_of_le hvl (Nat.pow_le_pow_right (n := 10) (by omega) (show i ≤ 8 by omega))
        have hdv : dv (s.getD i 0) = (s.getD i 0).toNat - 48 := rfl
        have hts := val_take_succ (s := s) (i := i) (by omega)
        generalize (s.getD i 0).toNat = c at *
        repeat (first | refine WX.step tab_eq rfl rfl trivial ?_ | refine WX.step tab_eq rfl rfl (by decide) ?_ | refine WX.nil ?_ | refine W.seq ?_ | refine W.region ?_ | refine W.regionD ?_ | refine W.block ?_ | refine W.skip ?_ | refine W.exit ?_ | refine W.ret ?_ | refine W.condT rfl ?_ | refine W.condF rfl ?_ | refine WX.skip rfl ?_)
        refine WX.idxImm tab_eq rfl rfl rfl rfl rfl rfl (by omega) (hg) ?_
        repeat (first | refine WX.step tab_eq rfl rfl trivial ?_ | refine WX.step tab_eq rfl rfl (by decide) ?_ | refine WX.nil ?_ | refine W.seq ?_ | refine W.region ?_ | refine W.regionD ?_ | refine W.block ?_ | refine W.skip ?_ | refine W.exit ?_ | refine W.ret ?_ | refine W.condT rfl ?_ | refine W.condF rfl ?_ | refine WX.skip rfl ?_)
        refine WX.boolM rfl rfl (fun hb => ?_) (fun hb => ?_)
        · have hb := of_decide_eq_true hb
          omega
        · clear hb
          repeat (first | refine WX.step tab_eq rfl rfl trivial ?_ | refine WX.step tab_eq rfl rfl (by decide) ?_ | refine WX.nil ?_ | refine W.seq ?_ | refine W.region ?_ | refine W.regionD ?_ | refine W.block ?_ | refine W.skip ?_ | refine W.exit ?_ | refine W.ret ?_ | refine W.condT rfl ?_ | refine W.condF rfl ?_ | refine WX.skip rfl ?_)
          refine WX.boolM rfl rfl (fun hb => ?_) (fun hb => ?_)
          · clear hb
            repeat (first | refine WX.step tab_eq rfl rfl trivial ?_ | refine WX.step tab_eq rfl rfl (by decide) ?_ | refine WX.nil ?_ | refine W.seq ?_ | refine W.region ?_ | refine W.regionD ?_ | refine W.block ?_ | refine W.skip ?_ | refine W.exit ?_ | refine W.ret ?_ | refine W.condT rfl ?_ | refine W.condF rfl ?_ | refine WX.skip rfl ?_)
            refine W.cond rfl (fun hb2 => ?_) (fun hb2 => ?_)
            · clear hb2
              repeat (first | refine WX.step tab_eq rfl rfl trivial ?_ | refine WX.step tab_eq rfl rfl (by decide) ?_ | refine WX.nil ?_ | refine W.seq ?_ | refine W.region ?_ | refine W.regionD ?_ | refine W.block ?_ | refine W.skip ?_ | refine W.exit ?_ | refine W.ret ?_ | refine W.condT rfl ?_ | refine W.condF rfl ?_ | refine WX.skip rfl ?_)
              rw [wrap_u8 (x := (c : Int) - 48) (by omega) (by omega)]
              repeat (first | refine WX.step tab_eq rfl rfl trivial ?_ | refine WX.step tab_eq rfl rfl (by decide) ?_ | refine WX.nil ?_ | refine W.seq ?_ | refine W.region ?_ | refine W.regionD ?_ | refine W.block ?_ | refine W.skip ?_ | refine W.exit ?_ | refine W.ret ?_ | refine W.condT rfl ?_ | refine W.condF rfl ?_ | refine WX.skip rfl ?_)
              refine W.cond rfl (fun hb3 => ?_) (fun hb3 => ?_)
              · have hb3 : IntKind.u8.wrap 10 ≤ (c : Int) - 48 := of_decide_eq_true hb3
                rw [wrap_u8 (by omega) (by omega)] at hb3
                omega
              · clear hb3
                repeat (first | refine WX.step tab_eq rfl rfl trivial ?_ | refine WX.step tab_eq rfl rfl (by decide) ?_ | refine WX.nil ?_ | refine W.seq ?_ | refine W.region ?_ | refine W.regionD ?_ | refine W.block ?_ | refine W.skip ?_ | refine W.exit ?_ | refine W.ret ?_ | refine W.condT rfl ?_ | refine W.condF rfl ?_ | refine WX.skip rfl ?_)
                refine W.cond rfl (fun hb4 => ?_) (fun hb4 => ?_)
                · have hb4 := of_decide_eq_true hb4
                  omega
                · clear hb4
                  repeat (first | refine WX.step tab_eq rfl rfl trivial ?_ | refine WX.step tab_eq rfl rfl (by decide) ?_ | refine WX.nil ?_ | refine W.seq ?_ | refine W.region ?_ | refine W.regionD ?_ | refine W.block ?_ | refine W.skip ?_ | refine W.exit ?_ | refine W.ret ?_ | refine W.condT rfl ?_ | refine W.condF rfl ?_ | refine WX.skip rfl ?_)
                  rw [wrap_u64 (x := 10) (by omega) (by omega), wrap_u64 (x := (v : Int) * 10) (by omega) (by omega), wrap_u64 (x := (c : Int) - 48) (by omega) (by omega), wrap_u64 (x := (v : Int) * 10 + (c - 48)) (by omega) (by omega)]
                  refine WX.boolM rfl rfl (fun hb5 => ?_) (fun hb5 => ?_)
                  · have hb5 := of_decide_eq_true hb5
                    omega
                  · clear hb5
                    repeat (first | refine WX.step tab_eq rfl rfl trivial ?_ | refine WX.step tab_eq rfl rfl (by decide) ?_ | refine WX.nil ?_ | refine W.seq ?_ | refine W.region ?_ | refine W.regionD ?_ | refine W.block ?_ | refine W.skip ?_ | refine W.exit ?_ | refine W.ret ?_ | refine W.condT rfl ?_ | refine W.condF rfl ?_ | refine WX.skip rfl ?_)
                    refine W.cond rfl (fun hb6 => ?_) (fun hb6 => ?_)
                    · have hb6 := of_decide_eq_true hb6
                      omega
                    · clear hb6
                      repeat (first | refine WX.step tab_eq rfl rfl trivial ?_ | refine WX.step tab_eq rfl rfl (by decide) ?_ | refine WX.nil ?_ | refine W.seq ?_ | refine W.region ?_ | refine W.regionD ?_ | refine W.block ?_ | refine W.skip ?_ | refine W.exit ?_ | refine W.ret ?_ | refine W.condT rfl ?_ | refine W.condF rfl ?_ | refine WX.skip rfl ?_)
                      rw [wrap_i64 (x := (i : Int) + 1) (by omega) (by omega), show (v : Int) * 10 + (c - 48) = ((v * 10 + (c - 48) : Nat) : Int) by omega]
                      show ∃ m', _
                      refine ⟨s.length - (i + 1), by omega, i + 1, v * 10 + (c - 48), rfl, by omega, ?_, rfl⟩
                      rw [hts, ← hv, hdv]
            · have hb2 := of_decide_eq_false hb2
              omega
          · have hb := of_decide_eq_false hb
            omega
      · have hlt := of_decide_eq_false hlt
        have hie : i = s.length := by omega
        subst hie
        rw [List.take_length] at hv
        repeat (first | refine WX.step tab_eq rfl rfl trivial ?_ | refine WX.step tab_eq rfl rfl (by decide) ?_ | refine WX.nil ?_ | refine W.seq ?_ | refine W.region ?_ | refine W.regionD ?_ | refine W.block ?_ | refine W.skip ?_ | refine W.exit ?_ | refine W.ret ?_ | refine W.condT rfl ?_ | refine W.condF rfl ?_ | refine WX.skip rfl ?_)
        rw [hv]
        rfl
theorem parseInt1_T (s : Bs) (hd : s.all isDg = true) (h0 : s ≠ []) (hl : s.length ≤ 9) : T (k + 2) 271 [.str s, .int .i64 10, .int .i64 64] = some (.tup [.int .i64 (val s : Nat), .nili], []) := by
  have hvl : val s < 1000000000 := by
    have := val_lt hd
    exact Nat.lt_of_lt_of_le this (Nat.pow_le_pow_right (n := 10) (by omega) hl)
  have hpos := List.length_pos_iff.2 h0
  have hdc := isDg_nat (all_getD hd (i := 0) hpos)
  have hu := parseUint_T (k := k) s hd h0 hl
  generalize hc0 : (s.getD 0 0).toNat = c at *
  refine enter rfl func271 rfl (by decide) (by kernel_rfl) rfl rfl ?_
  repeat (first | refine WX.step tab_eq rfl rfl trivial ?_ | refine WX.step tab_eq rfl rfl (by decide) ?_ | refine WX.nil ?_ | refine W.seq ?_ | refine W.region ?_ | refine W.regionD ?_ | refine W.block ?_ | refine W.skip ?_ | refine W.exit ?_ | refine W.ret ?_ | refine W.condT rfl ?_ | refine W.condF rfl ?_ | refine WX.skip rfl ?_)
  refine W.cond rfl (fun hc => ?_) (fun hc => ?_)
  · exact absurd (of_decide_eq_true hc) h0
  · clear hc
    repeat (first | refine WX.step tab_eq rfl rfl trivial ?_ | refine WX.step tab_eq rfl rfl (by decide) ?_ | refine WX.nil ?_ | refine W.seq ?_ | refine W.region ?_ | refine W.regionD ?_ | refine W.block ?_ | refine W.skip ?_ | refine W.exit ?_ | refine W.ret ?_ | refine W.condT rfl ?_ | refine W.condF rfl ?_ | refine WX.skip rfl ?_)
    refine WX.step tab_eq rfl rfl (by omega) ?_
    rw [show (0 : Int).toNat = 0 from rfl, hc0]
    repeat (first | refine WX.step tab_eq rfl rfl trivial ?_ | refine WX.step tab_eq rfl rfl (by decide) ?_ | refine WX.nil ?_ | refine W.seq ?_ | refine W.region ?_ | refine W.regionD ?_ | refine W.block ?_ | refine W.skip ?_ | refine W.exit ?_ | refine W.ret ?_ | refine W.condT rfl ?_ | refine W.condF rfl ?_ | refine WX.skip rfl ?_)
    refine W.cond rfl (fun hc => ?_) (fun hc => ?_)
    · have hc := of_decide_eq_true hc
      omega
    · clear hc
      repeat (first | refine WX.step tab_eq rfl rfl trivial ?_ | refine WX.step tab_eq rfl rfl (by decide) ?_ | refine WX.nil ?_ | refine W.seq ?_ | refine W.region ?_ | refine W.regionD ?_ | refine W.block ?_ | refine W.skip ?_ | refine W.exit ?_ | refine W.ret ?_ | refine W.condT rfl ?_ | refine W.condF rfl ?_ | refine WX.skip rfl ?_)
      refine W.cond rfl (fun hc => ?_) (fun hc => ?_)
      · have hc := of_decide_eq_true hc
        omega
      · clear hc
        repeat (first | refine WX.step tab_eq rfl rfl trivial ?_ | refine WX.step tab_eq rfl rfl (by decide) ?_ | refine WX.nil ?_ | refine W.seq ?_ | refine W.region ?_ | refine W.regionD ?_ | refine W.block ?_ | refine W.skip ?_ | refine W.exit ?_ | refine W.ret ?_ | refine W.condT rfl ?_ | refine W.condF rfl ?_ | refine WX.skip rfl ?_)
        refine WX.call tab_eq rfl rfl rfl rfl rfl (hu) rfl rfl ?_
        repeat (first | refine WX.step tab_eq rfl rfl trivial ?_ | refine WX.step tab_eq rfl rfl (by decide) ?_ | refine WX.nil ?_ | refine W.seq ?_ | refine W.region ?_ | refine W.regionD ?_ | refine W.block ?_ | refine W.skip ?_ | refine W.exit ?_ | refine W.ret ?_ | refine W.condT rfl ?_ | refine W.condF rfl ?_ | refine WX.skip rfl ?_)
        rw [show IntKind.u64.wrap (1 * 2 ^ min (IntKind.u64.wrap (IntKind.i64.wrap (64 - 1))).toNat IntKind.u64.bits) = 9223372036854775808 by decide]
        refine W.cond rfl (fun hc => ?_) (fun hc => ?_)
        · have hc : (9223372036854775808 : Int) ≤ (val s : Nat) := of_decide_eq_true hc
          omega
        · clear hc
          repeat (first | refine WX.step tab_eq rfl rfl trivial ?_ | refine WX.step tab_eq rfl rfl (by decide) ?_ | refine WX.nil ?_ | refine W.seq ?_ | refine W.region ?_ | refine W.regionD ?_ | refine W.block ?_ | refine W.skip ?_ | refine W.exit ?_ | refine W.ret ?_ | refine W.condT rfl ?_ | refine W.condF rfl ?_ | refine WX.skip rfl ?_)
          rw [wrap_i64 (x := (val s : Nat)) (by omega) (by omega)]
          rfl
theorem parseInt_T (s : Bs) (hd : s.all isDg = true) (h0 : s ≠ []) (hl : s.length ≤ 9) : T (k + 3) 230 [.str s, .int .i64 10, .int .i64 64] = some (.tup [.int .i64 (val s : Nat), .nili], []) := by
  refine enter rfl func230 rfl (by decide) (by kernel_rfl) rfl rfl ?_
  repeat (first | refine WX.step tab_eq rfl rfl trivial ?_ | refine WX.step tab_eq rfl rfl (by decide) ?_ | refine WX.nil ?_ | refine W.seq ?_ | refine W.region ?_ | refine W.regionD ?_ | refine W.block ?_ | refine W.skip ?_ | refine W.exit ?_ | refine W.ret ?_ | refine W.condT rfl ?_ | refine W.condF rfl ?_ | refine WX.skip rfl ?_)
  refine WX.call tab_eq rfl rfl rfl rfl rfl (parseInt1_T s hd h0 hl) rfl rfl ?_
  repeat (first | refine WX.step tab_eq rfl rfl trivial ?_ | refine WX.step tab_eq rfl rfl (by decide) ?_ | refine WX.nil ?_ | refine W.seq ?_ | refine W.region ?_ | refine W.regionD ?_ | refine W.block ?_ | refine W.skip ?_ | refine W.exit ?_ | refine W.ret ?_ | refine W.condT rfl ?_ | refine W.condF rfl ?_ | refine WX.skip rfl ?_)
  rfl
end Go.PE
namespace Go.PE
open Go.RowKit Go.Proofs.Tryz
set_option maxRecDepth 100000
variable {k : Nat}
def smP (neg : Bool) (num den : Bs) (frac : Bool) : Int × Int × Bool :=
  if 9 < num.length then (0, 0, false) else if 9 < den.length then (0, 0, false) else if numeral num = false then (0, 0, false) else if num = [48] ∧ (neg = true ∨ frac = true) then (0, 0, false) else
  if frac = true then (if numeral den = false then (0, 0, false) else if val den < 2 then (0, 0, false) else if Nat.gcd (val num) (val den) ≠ 1 then (0, 0, false) else (sg neg (val num), val den, true))
  else (sg neg (val num), 1, true)
theorem numeral_all {s : Bs} (h : numeral s = true) : s.all isDg = true := by
  unfold numeral at h; rw [Bool.and_eq_true] at h; exact h.1
theorem numeral_ne {s : Bs} (h : numeral s = true) : s ≠ [] := by
  rintro rfl; revert h; decide
theorem val_lt9 {s : Bs} (h : s.all isDg = true) (hl : s.length ≤ 9) : val s < 1000000000 := by
  have := val_lt h
  exact Nat.lt_of_lt_of_le this (Nat.pow_le_pow_right (n := 10) (by omega) hl)
theorem wneg (n : Nat) (h : n < 1000000000) : IntKind.i64.wrap (0 - (n : Int)) = sg true n := by
  rw [wrap_i64 (by omega) (by omega)]; show _ = -(n : Int); omega
theorem smallP_T (a m num den : Bs) (neg frac : Bool) (h1 : T (k + 4) 106 [.str a, .str [45]] = some (.tup [.str m, .bool neg], [])) (h2 : T (k + 4) 229 [.str m, .str [47]] = some (.tup [.str num, .str den, .bool frac], []))
    (hnum : num.length < 4611686018427387904) (hden : den.length < 4611686018427387904) :
    T (k + 5) 163 [.str a] = some (.tup [.agg [.int .i64 (smP neg num den frac).1, .int .i64 (smP neg num den frac).2.1], .bool (smP neg num den frac).2.2], []) := by
  have h3 := numeral_T (k := k + 3) num hnum
  have h4 := numeral_T (k := k + 3) den hden
  refine enter rfl func163 rfl (by decide) (by kernel_rfl) rfl rfl ?_
  repeat (first | refine WX.step tab_eq rfl rfl trivial ?_ | refine WX.step tab_eq rfl rfl (by decide) ?_ | refine WX.nil ?_ | refine W.seq ?_ | refine W.region ?_ | refine W.regionD ?_ | refine W.block ?_ | refine W.skip ?_ | refine W.exit ?_ | refine W.ret ?_ | refine W.condT rfl ?_ | refine W.condF rfl ?_ | refine WX.skip rfl ?_)
  refine WX.call tab_eq rfl rfl rfl rfl rfl (h1) rfl rfl ?_
  repeat (first | refine WX.step tab_eq rfl rfl trivial ?_ | refine WX.step tab_eq rfl rfl (by decide) ?_ | refine WX.nil ?_ | refine W.seq ?_ | refine W.region ?_ | refine W.regionD ?_ | refine W.block ?_ | refine W.skip ?_ | refine W.exit ?_ | refine W.ret ?_ | refine W.condT rfl ?_ | refine W.condF rfl ?_ | refine WX.skip rfl ?_)
  refine WX.call tab_eq rfl rfl rfl rfl rfl (h2) rfl rfl ?_
  repeat (first | refine WX.step tab_eq rfl rfl trivial ?_ | refine WX.step tab_eq rfl rfl (by decide) ?_ | refine WX.nil ?_ | refine W.seq ?_ | refine W.region ?_ | refine W.regionD ?_ | refine W.block ?_ | refine W.skip ?_ | refine W.exit ?_ | refine W.ret ?_ | refine W.condT rfl ?_ | refine W.condF rfl ?_ | refine WX.skip rfl ?_)
  refine WX.boolM rfl rfl (fun b1 => ?_) (fun b1 => ?_)
  · have b1 := of_decide_eq_true b1
    repeat (first | refine WX.step tab_eq rfl rfl trivial ?_ | refine WX.step tab_eq rfl rfl (by decide) ?_ | refine WX.nil ?_ | refine W.seq ?_ | refine W.region ?_ | refine W.regionD ?_ | refine W.block ?_ | refine W.skip ?_ | refine W.exit ?_ | refine W.ret ?_ | refine W.condT rfl ?_ | refine W.condF rfl ?_ | refine WX.skip rfl ?_)
    have : smP neg num den frac = (0, 0, false) := by unfold smP; rw [if_pos (by omega)]
    rw [this]
    rfl
  · have b1 := of_decide_eq_false b1
    repeat (first | refine WX.step tab_eq rfl rfl trivial ?_ | refine WX.step tab_eq rfl rfl (by decide) ?_ | refine WX.nil ?_ | refine W.seq ?_ | refine W.region ?_ | refine W.regionD ?_ | refine W.block ?_ | refine W.skip ?_ | refine W.exit ?_ | refine W.ret ?_ | refine W.condT rfl ?_ | refine W.condF rfl ?_ | refine WX.skip rfl ?_)
    refine WX.boolM rfl rfl (fun b2 => ?_) (fun b2 => ?_)
    · have b2 := of_decide_eq_true b2
      repeat (first | refine WX.step tab_eq rfl rfl trivial ?_ | refine WX.step tab_eq rfl rfl (by decide) ?_ | refine WX.nil ?_ | refine W.seq ?_ | refine W.region ?_ | refine W.regionD ?_ | refine W.block ?_ | refine W.skip ?_ | refine W.exit ?_ | refine W.ret ?_ | refine W.condT rfl ?_ | refine W.condF rfl ?_ | refine WX.skip rfl ?_)
      have : smP neg num den frac = (0, 0, false) := by unfold smP; rw [if_neg (by omega), if_pos (by omega)]
      rw [this]
      rfl
    · have b2 : ¬ (9 : Int) < den.length := of_decide_eq_false b2
      repeat (first | refine WX.step tab_eq rfl rfl trivial ?_ | refine WX.step tab_eq rfl rfl (by decide) ?_ | refine WX.nil ?_ | refine W.seq ?_ | refine W.region ?_ | refine W.regionD ?_ | refine W.block ?_ | refine W.skip ?_ | refine W.exit ?_ | refine W.ret ?_ | refine W.condT rfl ?_ | refine W.condF rfl ?_ | refine WX.skip rfl ?_)
      refine WX.call tab_eq rfl rfl rfl rfl rfl (h3) rfl rfl ?_
      repeat (first | refine WX.step tab_eq rfl rfl trivial ?_ | refine WX.step tab_eq rfl rfl (by decide) ?_ | refine WX.nil ?_ | refine W.seq ?_ | refine W.region ?_ | refine W.regionD ?_ | refine W.block ?_ | refine W.skip ?_ | refine W.exit ?_ | refine W.ret ?_ | refine W.condT rfl ?_ | refine W.condF rfl ?_ | refine WX.skip rfl ?_)
      refine WX.boolM rfl rfl (fun b3 => ?_) (fun b3 => ?_)
      · have b3 : numeral num = false := by cases h : numeral num <;> simp_all
        repeat (first | refine WX.step tab_eq rfl rfl trivial ?_ | refine WX.step tab_eq rfl rfl (by decide) ?_ | refine WX.nil ?_ | refine W.seq ?_ | refine W.region ?_ | refine W.regionD ?_ | refine W.block ?_ | refine W.skip ?_ | refine W.exit ?_ | refine W.ret ?_ | refine W.condT rfl ?_ | refine W.condF rfl ?_ | refine WX.skip rfl ?_)
        have : smP neg num den frac = (0, 0, false) := by unfold smP; rw [if_neg (by omega), if_neg (by omega), if_pos b3]
        rw [this]
        rfl
      · have b3 : numeral num = true := by cases h : numeral num <;> simp_all
        repeat (first | refine WX.step tab_eq rfl rfl trivial ?_ | refine WX.step tab_eq rfl rfl (by decide) ?_ | refine WX.nil ?_ | refine W.seq ?_ | refine W.region ?_ | refine W.regionD ?_ | refine W.block ?_ | refine W.skip ?_ | refine W.exit ?_ | refine W.ret ?_ | refine W.condT rfl ?_ | refine W.condF rfl ?_ | refine WX.skip rfl ?_)
        have h5 := parseInt_T (k := k + 1) num (numeral_all b3) (numeral_ne b3) (by omega)
        have v5 := val_lt9 (numeral_all b3) (by omega)
        refine WX.boolM rfl rfl (fun b4 => ?_) (fun b4 => ?_)
        · have b4 := of_decide_eq_true b4
          cases neg
          · cases frac
            · repeat (first | refine WX.step tab_eq rfl rfl trivial ?_ | refine WX.step tab_eq rfl rfl (by decide) ?_ | refine WX.nil ?_ | refine W.seq ?_ | refine W.region ?_ | refine W.regionD ?_ | refine W.block ?_ | refine W.skip ?_ | refine W.exit ?_ | refine W.ret ?_ | refine W.condT rfl ?_ | refine W.condF rfl ?_ | refine WX.skip rfl ?_)
              refine WX.call tab_eq rfl rfl rfl rfl rfl (h5) rfl rfl ?_
              repeat (first | refine WX.step tab_eq rfl rfl trivial ?_ | refine WX.step tab_eq rfl rfl (by decide) ?_ | refine WX.nil ?_ | refine W.seq ?_ | refine W.region ?_ | refine W.regionD ?_ | refine W.block ?_ | refine W.skip ?_ | refine W.exit ?_ | refine W.ret ?_ | refine W.condT rfl ?_ | refine W.condF rfl ?_ | refine WX.skip rfl ?_)
              have : smP false num den false = ((val num : Int), 1, true) := by
                unfold smP; rw [if_neg (by omega), if_neg (by omega), if_neg (by simp [b3]), if_neg (by simp)]; rfl
              rw [this]
              rfl
            · repeat (first | refine WX.step tab_eq rfl rfl trivial ?_ | refine WX.step tab_eq rfl rfl (by decide) ?_ | refine WX.nil ?_ | refine W.seq ?_ | refine W.region ?_ | refine W.regionD ?_ | refine W.block ?_ | refine W.skip ?_ | refine W.exit ?_ | refine W.ret ?_ | refine W.condT rfl ?_ | refine W.condF rfl ?_ | refine WX.skip rfl ?_)
              have : smP false num den true = (0, 0, false) := by unfold smP; rw [if_neg (by omega), if_neg (by omega), if_neg (by simp [b3]), if_pos ⟨b4, Or.inr rfl⟩]
              rw [this]
              rfl
          · repeat (first | refine WX.step tab_eq rfl rfl trivial ?_ | refine WX.step tab_eq rfl rfl (by decide) ?_ | refine WX.nil ?_ | refine W.seq ?_ | refine W.region ?_ | refine W.regionD ?_ | refine W.block ?_ | refine W.skip ?_ | refine W.exit ?_ | refine W.ret ?_ | refine W.condT rfl ?_ | refine W.condF rfl ?_ | refine WX.skip rfl ?_)
            have : smP true num den frac = (0, 0, false) := by unfold smP; rw [if_neg (by omega), if_neg (by omega), if_neg (by simp [b3]), if_pos ⟨b4, Or.inl rfl⟩]
            rw [this]
            rfl
        · have b4 := of_decide_eq_false b4
          repeat (first | refine WX.step tab_eq rfl rfl trivial ?_ | refine WX.step tab_eq rfl rfl (by decide) ?_ | refine WX.nil ?_ | refine W.seq ?_ | refine W.region ?_ | refine W.regionD ?_ | refine W.block ?_ | refine W.skip ?_ | refine W.exit ?_ | refine W.ret ?_ | refine W.condT rfl ?_ | refine W.condF rfl ?_ | refine WX.skip rfl ?_)
          refine WX.call tab_eq rfl rfl rfl rfl rfl (h5) rfl rfl ?_
          cases frac
          · repeat (first | refine WX.step tab_eq rfl rfl trivial ?_ | refine WX.step tab_eq rfl rfl (by decide) ?_ | refine WX.nil ?_ | refine W.seq ?_ | refine W.region ?_ | refine W.regionD ?_ | refine W.block ?_ | refine W.skip ?_ | refine W.exit ?_ | refine W.ret ?_ | refine W.condT rfl ?_ | refine W.condF rfl ?_ | refine WX.skip rfl ?_)
            have : smP neg num den false = (sg neg (val num), 1, true) := by
              unfold smP; rw [if_neg (by omega), if_neg (by omega), if_neg (by simp [b3]), if_neg (fun h => b4 h.1)]; rfl
            rw [this]
            cases neg
            · repeat (first | refine WX.step tab_eq rfl rfl trivial ?_ | refine WX.step tab_eq rfl rfl (by decide) ?_ | refine WX.nil ?_ | refine W.seq ?_ | refine W.region ?_ | refine W.regionD ?_ | refine W.block ?_ | refine W.skip ?_ | refine W.exit ?_ | refine W.ret ?_ | refine W.condT rfl ?_ | refine W.condF rfl ?_ | refine WX.skip rfl ?_)
              rfl
            · repeat (first | refine WX.step tab_eq rfl rfl trivial ?_ | refine WX.step tab_eq rfl rfl (by decide) ?_ | refine WX.nil ?_ | refine W.seq ?_ | refine W.region ?_ | refine W.regionD ?_ | refine W.block ?_ | refine W.skip ?_ | refine W.exit ?_ | refine W.ret ?_ | refine W.condT rfl ?_ | refine W.condF rfl ?_ | refine WX.skip rfl ?_)
              rw [wneg _ v5]
              rfl
          · repeat (first | refine WX.step tab_eq rfl rfl trivial ?_ | refine WX.step tab_eq rfl rfl (by decide) ?_ | refine WX.nil ?_ | refine W.seq ?_ | refine W.region ?_ | refine W.regionD ?_ | refine W.block ?_ | refine W.skip ?_ | refine W.exit ?_ | refine W.ret ?_ | refine W.condT rfl ?_ | refine W.condF rfl ?_ | refine WX.skip rfl ?_)
            refine WX.call tab_eq rfl rfl rfl rfl rfl (h4) rfl rfl ?_
            repeat (first | refine WX.step tab_eq rfl rfl trivial ?_ | refine WX.step tab_eq rfl rfl (by decide) ?_ | refine WX.nil ?_ | refine W.seq ?_ | refine W.region ?_ | refine W.regionD ?_ | refine W.block ?_ | refine W.skip ?_ | refine W.exit ?_ | refine W.ret ?_ | refine W.condT rfl ?_ | refine W.condF rfl ?_ | refine WX.skip rfl ?_)
            refine W.cond rfl (fun b6 => ?_) (fun b6 => ?_)
            · have b6 : numeral den = false := by cases h : numeral den <;> simp_all
              repeat (first | refine WX.step tab_eq rfl rfl trivial ?_ | refine WX.step tab_eq rfl rfl (by decide) ?_ | refine WX.nil ?_ | refine W.seq ?_ | refine W.region ?_ | refine W.regionD ?_ | refine W.block ?_ | refine W.skip ?_ | refine W.exit ?_ | refine W.ret ?_ | refine W.condT rfl ?_ | refine W.condF rfl ?_ | refine WX.skip rfl ?_)
              have : smP neg num den true = (0, 0, false) := by unfold smP; rw [if_neg (by omega), if_neg (by omega), if_neg (by simp [b3]), if_neg (fun h => b4 h.1), if_pos rfl, if_pos b6]
              rw [this]
              rfl
            · have b6 : numeral den = true := by cases h : numeral den <;> simp_all
              have h7 := parseInt_T (k := k + 1) den (numeral_all b6) (numeral_ne b6) (by omega)
              have v7 := val_lt9 (numeral_all b6) (by omega)
              repeat (first | refine WX.step tab_eq rfl rfl trivial ?_ | refine WX.step tab_eq rfl rfl (by decide) ?_ | refine WX.nil ?_ | refine W.seq ?_ | refine W.region ?_ | refine W.regionD ?_ | refine W.block ?_ | refine W.skip ?_ | refine W.exit ?_ | refine W.ret ?_ | refine W.condT rfl ?_ | refine W.condF rfl ?_ | refine WX.skip rfl ?_)
              refine WX.call tab_eq rfl rfl rfl rfl rfl (h7) rfl rfl ?_
              repeat (first | refine WX.step tab_eq rfl rfl trivial ?_ | refine WX.step tab_eq rfl rfl (by decide) ?_ | refine WX.nil ?_ | refine W.seq ?_ | refine W.region ?_ | refine W.regionD ?_ | refine W.block ?_ | refine W.skip ?_ | refine W.exit ?_ | refine W.ret ?_ | refine W.condT rfl ?_ | refine W.condF rfl ?_ | refine WX.skip rfl ?_)
              refine WX.boolM rfl rfl (fun b8 => ?_) (fun b8 => ?_)
              · have b8 := of_decide_eq_true b8
                repeat (first | refine WX.step tab_eq rfl rfl trivial ?_ | refine WX.step tab_eq rfl rfl (by decide) ?_ | refine WX.nil ?_ | refine W.seq ?_ | refine W.region ?_ | refine W.regionD ?_ | refine W.block ?_ | refine W.skip ?_ | refine W.exit ?_ | refine W.ret ?_ | refine W.condT rfl ?_ | refine W.condF rfl ?_ | refine WX.skip rfl ?_)
                have : smP neg num den true = (0, 0, false) := by unfold smP; rw [if_neg (by omega), if_neg (by omega), if_neg (by simp [b3]), if_neg (fun h => b4 h.1), if_pos rfl, if_neg (by simp [b6]), if_pos (by omega)]
                rw [this]
                rfl
              · have b8 := of_decide_eq_false b8
                repeat (first | refine WX.step tab_eq rfl rfl trivial ?_ | refine WX.step tab_eq rfl rfl (by decide) ?_ | refine WX.nil ?_ | refine W.seq ?_ | refine W.region ?_ | refine W.regionD ?_ | refine W.block ?_ | refine W.skip ?_ | refine W.exit ?_ | refine W.ret ?_ | refine W.condT rfl ?_ | refine W.condF rfl ?_ | refine WX.skip rfl ?_)
                refine WX.call tab_eq rfl rfl rfl rfl rfl (divisor_T (k := k + 3) (val num) (val den) (by omega) (by omega)) rfl rfl ?_
                repeat (first | refine WX.step tab_eq rfl rfl trivial ?_ | refine WX.step tab_eq rfl rfl (by decide) ?_ | refine WX.nil ?_ | refine W.seq ?_ | refine W.region ?_ | refine W.regionD ?_ | refine W.block ?_ | refine W.skip ?_ | refine W.exit ?_ | refine W.ret ?_ | refine W.condT rfl ?_ | refine W.condF rfl ?_ | refine WX.skip rfl ?_)
                refine W.cond rfl (fun b9 => ?_) (fun b9 => ?_)
                · have b9 : Nat.gcd (val num) (val den) ≠ 1 := by
                    intro h; rw [h] at b9; revert b9; simp
                  repeat (first | refine WX.step tab_eq rfl rfl trivial ?_ | refine WX.step tab_eq rfl rfl (by decide) ?_ | refine WX.nil ?_ | refine W.seq ?_ | refine W.region ?_ | refine W.regionD ?_ | refine W.block ?_ | refine W.skip ?_ | refine W.exit ?_ | refine W.ret ?_ | refine W.condT rfl ?_ | refine W.condF rfl ?_ | refine WX.skip rfl ?_)
                  have : smP neg num den true = (0, 0, false) := by
                    unfold smP; rw [if_neg (by omega), if_neg (by omega), if_neg (by simp [b3]), if_neg (fun h => b4 h.1), if_pos rfl, if_neg (by simp [b6]), if_neg (by omega), if_pos b9]
                  rw [this]
                  rfl
                · have b9 : Nat.gcd (val num) (val den) = 1 := by
                    simp at b9; omega
                  have : smP neg num den true = (sg neg (val num), (val den : Int), true) := by
                    unfold smP; rw [if_neg (by omega), if_neg (by omega), if_neg (by simp [b3]), if_neg (fun h => b4 h.1), if_pos rfl, if_neg (by simp [b6]), if_neg (by omega), if_neg (by omega)]
                  rw [this]
                  repeat (first | refine WX.step tab_eq rfl rfl trivial ?_ | refine WX.step tab_eq rfl rfl (by decide) ?_ | refine WX.nil ?_ | refine W.seq ?_ | refine W.region ?_ | refine W.regionD ?_ | refine W.block ?_ | refine W.skip ?_ | refine W.exit ?_ | refine W.ret ?_ | refine W.condT rfl ?_ | refine W.condF rfl ?_ | refine WX.skip rfl ?_)
                  cases neg
                  · repeat (first | refine WX.step tab_eq rfl rfl trivial ?_ | refine WX.step tab_eq rfl rfl (by decide) ?_ | refine WX.nil ?_ | refine W.seq ?_ | refine W.region ?_ | refine W.regionD ?_ | refine W.block ?_ | refine W.skip ?_ | refine W.exit ?_ | refine W.ret ?_ | refine W.condT rfl ?_ | refine W.condF rfl ?_ | refine WX.skip rfl ?_)
                    rfl
                  · repeat (first | refine WX.step tab_eq rfl rfl trivial ?_ | refine WX.step tab_eq rfl rfl (by decide) ?_ | refine WX.nil ?_ | refine W.seq ?_ | refine W.region ?_ | refine W.regionD ?_ | refine W.block ?_ | refine W.skip ?_ | refine W.exit ?_ | refine W.ret ?_ | refine W.condT rfl ?_ | refine W.condF rfl ?_ | refine WX.skip rfl ?_)
                    rw [wneg _ v5]
                    rfl
def smV (a : Bs) : Int × Int × Bool := smP (cutM a).2 (cutS (cutM a).1).1 (cutS (cutM a).1).2.1 (cutS (cutM a).1).2.2
theorem cutM_len (s : Bs) : (cutM s).1.length ≤ s.length := by
  have h := congrArg List.length (cutM_spec s)
  rw [List.length_append] at h; omega
theorem cutS_len (s : Bs) : (cutS s).1.length ≤ s.length ∧ (cutS s).2.1.length ≤ s.length := by
  induction s with
  | nil => simp [cutS]
  | cons c s ih =>
    rw [cutS]
    split
    · simp
    · simp only [List.length_cons]; omega
theorem smallOf_T (a : Bs) (h : a.length < 4611686018427387904) :
    T (k + 5) 163 [.str a] = some (.tup [.agg [.int .i64 (smV a).1, .int .i64 (smV a).2.1], .bool (smV a).2.2], []) := by
  have h0 := cutM_len a
  have h1 := cutS_len (cutM a).1
  exact smallP_T a _ _ _ _ _ (cutPrefix_T (k := k + 1) a) (cut_T (k := k) (cutM a).1 (by omega)) (by omega) (by omega)
end Go.PE
