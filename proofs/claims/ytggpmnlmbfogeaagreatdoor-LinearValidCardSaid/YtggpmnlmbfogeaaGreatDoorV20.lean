/-
  A part of the proof that the law's function returns true and leaves its arguments as they were, for every input (no condition): own lemmas of the proof, in the order of their use.
-/
import Derived.Test.YtggpmnlmbfogeaaGreatDoorV19
set_option linter.all false
namespace Go.PE
open Go.RowKit Go.Proofs.Tryz
set_option maxRecDepth 100000
variable {k : Nat}
def cs1 : Code → Code | .seq a _ => a | c => c
def cs2 : Code → Code | .seq _ b => b | c => c
def bodyOf (f : Func) : Code := f.body.getD .skip
def okP (s : Bs) (neg : Bool) (num den : Bs) : Bool :=
  (num.all isDg && decide (num ≠ [])) && ((den.all isDg && decide (den ≠ [])) && (decide (den ≠ [48]) && (decide (dec (val num) = num) && (decide (dec (val den) = den) &&
    decide (qt neg (val num / (val num).gcd (val den)) (val den / (val num).gcd (val den)) = s)))))
def paX (s : Bs) (neg : Bool) (num den : Bs) : List PV := if okP s neg num den then [.bool neg, .str num, .str den] else [.bool false, .str [], .str []]
theorem paX_no {s num den : Bs} {neg : Bool} (h : okP s neg num den = false) : paX s neg num den = [.bool false, .str [], .str []] := by
  unfold paX; rw [h]; rfl
theorem paX_yes {s num den : Bs} {neg : Bool} (h : okP s neg num den = true) : paX s neg num den = [.bool neg, .str num, .str den] := by
  unfold paX; rw [h]; rfl
theorem not_true {b : Bool} (h : (!b) = true) : b = false := by cases b <;> simp_all
theorem not_false {b : Bool} (h : (!b) = false) : b = true := by cases b <;> simp_all
theorem text_qt (neg : Bool) (n d : Nat) (h : d ≠ 0) :
    (if (neg && decide (n ≠ 0)) = true then [45] else []) ++ dec (n / n.gcd d) ++ (if dec (d / n.gcd d) = [49] then [] else 47 :: dec (d / n.gcd d)) = qt neg (n / n.gcd d) (d / n.gcd d) := by
  unfold qt
  have h1 : (n / n.gcd d != 0) = decide (n ≠ 0) := by
    by_cases h0 : n = 0
    · subst h0; simp
    · have hg : 0 < n.gcd d := Nat.gcd_pos_of_pos_right n (by omega)
      have := Nat.div_pos (Nat.le_of_dvd (by omega) (Nat.gcd_dvd_left n d)) hg
      have h2 : n / n.gcd d ≠ 0 := by omega
      rw [decide_eq_true h0]
      exact bne_iff_ne.2 h2
  have h2 : dec (d / n.gcd d) = [49] ↔ d / n.gcd d = 1 := by
    rw [show ([49] : Bs) = dec 1 by rw [dec_small (by omega)]; rfl]
    exact ⟨dec_inj, fun h => by rw [h]⟩
  rw [h1]
  congr 1
  by_cases h3 : d / n.gcd d = 1
  · rw [if_pos h3, if_pos (h2.2 h3)]
  · rw [if_neg h3, if_neg (fun h => h3 (h2.1 h))]
theorem parseLoop (s m : Bs) (neg : Bool) (hm : m.length < 268435456) (p : Nat) (e : List (Nat × PV)) (s2 s4 : Stamp) (h0 : lookup e 0 = .str s) (h2 : lookup e 2 = .box s2 [.bool false, .str [], .str []])
    (h4 : lookup e 4 = .box s4 [.bool neg, .str [], .str [49]]) (h5 : lookup e 5 = .str m) :
    W prog (T (k + 5)) (keepF 96) (lvF 96) NN 0 (cs2 (cs2 (cs2 (cs2 (bodyOf f96))))) (p, e)
      (endW (finishT tab f96.results.toList (boxPos [.str s])) (.tup [.agg (paX s neg (cutS m).1 (if (cutS m).2.2 then (cutS m).2.1 else [49])), .bool (okP s neg (cutS m).1 (if (cutS m).2.2 then (cutS m).2.1 else [49]))], [])) := by
  refine W.seq ?_
  repeat (first | refine WX.step tab_eq rfl rfl trivial ?_ | refine WX.step tab_eq rfl rfl (by decide) ?_ | refine WX.nil ?_ | refine W.seq ?_ | refine W.region ?_ | refine W.regionD ?_ | refine W.block ?_ | refine W.skip ?_ | refine W.exit ?_ | refine W.ret ?_ | refine W.condT rfl ?_ | refine W.condF rfl ?_ | refine WX.skip rfl ?_)
  refine W.loop (fun e m' => ∃ (i : Nat), e = [(0, .str s), (2, .box (0, 0) [.bool false, .str [], .str []]), (4, .box (0, 0) [.bool neg, .str [], .str [49]]), (5, .str m), (6, .int .i64 i)] ∧ i ≤ m.length ∧ 47 ∉ m.take i ∧ m' = m.length - i) m.length ?_ ?_ ?_
  · refine ⟨0, ?_, by omega, by simp, by omega⟩
    show [(0, canonV _ _ (lookup e 0)), (2, canonV _ _ (lookup e 2)), (4, canonV _ _ (lookup e 4)), (5, canonV _ _ (lookup e 5)), (6, _)] = _
    rw [h0, h2, h4, h5]
    rfl
  · show _ < 4611686018427387904; omega
  · rintro e m' ⟨i, rfl, hi, hn, rfl⟩
    repeat (first | refine WX.step tab_eq rfl rfl trivial ?_ | refine WX.step tab_eq rfl rfl (by decide) ?_ | refine WX.nil ?_ | refine W.seq ?_ | refine W.region ?_ | refine W.regionD ?_ | refine W.block ?_ | refine W.skip ?_ | refine W.exit ?_ | refine W.ret ?_ | refine W.condT rfl ?_ | refine W.condF rfl ?_ | refine WX.skip rfl ?_)
    refine W.cond rfl (fun hlt => ?_) (fun hlt => ?_)
    · have hlt := of_decide_eq_true hlt
      repeat (first | refine WX.step tab_eq rfl rfl trivial ?_ | refine WX.step tab_eq rfl rfl (by decide) ?_ | refine WX.nil ?_ | refine W.seq ?_ | refine W.region ?_ | refine W.regionD ?_ | refine W.block ?_ | refine W.skip ?_ | refine W.exit ?_ | refine W.ret ?_ | refine W.condT rfl ?_ | refine W.condF rfl ?_ | refine WX.skip rfl ?_)
      refine WX.step tab_eq rfl rfl (by constructor <;> omega) ?_
      repeat (first | refine WX.step tab_eq rfl rfl trivial ?_ | refine WX.step tab_eq rfl rfl (by decide) ?_ | refine WX.nil ?_ | refine W.seq ?_ | refine W.region ?_ | refine W.regionD ?_ | refine W.block ?_ | refine W.skip ?_ | refine W.exit ?_ | refine W.ret ?_ | refine W.condT rfl ?_ | refine W.condF rfl ?_ | refine WX.skip rfl ?_)
      refine W.cond rfl (fun b1 => ?_) (fun b1 => ?_)
      · have b1 : m.getD i 0 = 47 := UInt8.toNat_inj.1 (Int.ofNat_inj.1 (of_decide_eq_true b1))
        have hsplit : m = m.take i ++ 47 :: m.drop (i + 1) := by
          conv => lhs; rw [← List.take_append_drop (i + 1) m, take_dg (by omega), b1]
          simp
        have hcut : cutS m = (m.take i, m.drop (i + 1), true) := by
          conv => lhs; rw [hsplit]
          exact cutS_some _ hn
        rw [hcut]
        repeat (first | refine WX.step tab_eq rfl rfl trivial ?_ | refine WX.step tab_eq rfl rfl (by decide) ?_ | refine WX.nil ?_ | refine W.seq ?_ | refine W.region ?_ | refine W.regionD ?_ | refine W.block ?_ | refine W.skip ?_ | refine W.exit ?_ | refine W.ret ?_ | refine W.condT rfl ?_ | refine W.condF rfl ?_ | refine WX.skip rfl ?_)
        repeat (first | refine WX.stepD tab_eq rfl rfl trivial ?_ | refine WX.stepD tab_eq rfl rfl (by decide) ?_ | refine WX.skipD rfl ?_)
        rw [wrap_i64 (x := (i : Int) + 1) (by omega) (by omega)]
        refine WX.stepD tab_eq rfl rfl (by constructor <;> omega) ?_
        repeat (first | refine WX.stepD tab_eq rfl rfl trivial ?_ | refine WX.stepD tab_eq rfl rfl (by decide) ?_ | refine WX.skipD rfl ?_)
        refine WX.stepD tab_eq rfl rfl (by constructor <;> omega) ?_
        repeat (first | refine WX.stepD tab_eq rfl rfl trivial ?_ | refine WX.stepD tab_eq rfl rfl (by decide) ?_ | refine WX.skipD rfl ?_)
        refine WX.nilD (by kernel_rfl) ?_
        rw [Int.toNat_natCast, show ((i : Int) + 1).toNat = i + 1 by omega]
        generalize hnum : m.take i = num at *
        generalize hden : m.drop (i + 1) = den at *
        repeat (first | refine WX.step tab_eq rfl rfl trivial ?_ | refine WX.step tab_eq rfl rfl (by decide) ?_ | refine WX.nil ?_ | refine W.seq ?_ | refine W.region ?_ | refine W.regionD ?_ | refine W.block ?_ | refine W.skip ?_ | refine W.exit ?_ | refine W.ret ?_ | refine W.condT rfl ?_ | refine W.condF rfl ?_ | refine WX.skip rfl ?_)
        repeat (first | refine WX.stepD tab_eq rfl rfl trivial ?_ | refine WX.stepD tab_eq rfl rfl (by decide) ?_ | refine WX.skipD rfl ?_)
        have hn1 : num.length < 268435456 := by rw [← hnum, List.length_take]; omega
        have hd1 : den.length < 268435456 := by rw [← hden, List.length_drop]; omega
        show _
        simp only [if_true]
        repeat (first | refine WX.stepD tab_eq rfl rfl trivial ?_ | refine WX.stepD tab_eq rfl rfl (by decide) ?_ | refine WX.skipD rfl ?_)
        refine WX.callD tab_eq rfl rfl rfl rfl rfl (digits_T (k := k + 4) num (by omega)) rfl rfl ?_
        repeat (first | refine WX.stepD tab_eq rfl rfl trivial ?_ | refine WX.stepD tab_eq rfl rfl (by decide) ?_ | refine WX.skipD rfl ?_)
        refine WX.boolMD rfl rfl (fun c1 => ?_) (fun c1 => ?_)
        · have hk : okP s neg num den = false := by
            unfold okP; rw [show (num.all isDg && decide (num ≠ [])) = false from not_true c1, Bool.false_and]
          repeat (first | refine WX.stepD tab_eq rfl rfl trivial ?_ | refine WX.stepD tab_eq rfl rfl (by decide) ?_ | refine WX.skipD rfl ?_)
          refine WX.nilD (by kernel_rfl) ?_
          repeat (first | refine WX.step tab_eq rfl rfl trivial ?_ | refine WX.step tab_eq rfl rfl (by decide) ?_ | refine WX.nil ?_ | refine W.seq ?_ | refine W.region ?_ | refine W.regionD ?_ | refine W.block ?_ | refine W.skip ?_ | refine W.exit ?_ | refine W.ret ?_ | refine W.condT rfl ?_ | refine W.condF rfl ?_ | refine WX.skip rfl ?_)
          rw [paX_no hk, hk]
          rfl
        · have c1 := not_false c1
          repeat (first | refine WX.stepD tab_eq rfl rfl trivial ?_ | refine WX.stepD tab_eq rfl rfl (by decide) ?_ | refine WX.skipD rfl ?_)
          refine WX.callD tab_eq rfl rfl rfl rfl rfl (digits_T (k := k + 4) den (by first | omega | simp)) rfl rfl ?_
          repeat (first | refine WX.stepD tab_eq rfl rfl trivial ?_ | refine WX.stepD tab_eq rfl rfl (by decide) ?_ | refine WX.skipD rfl ?_)
          refine WX.boolMD rfl rfl (fun c2 => ?_) (fun c2 => ?_)
          · have hk : okP s neg num den = false := by
              unfold okP; rw [c1, show (den.all isDg && decide (den ≠ [])) = false from not_true c2, Bool.false_and, Bool.and_false]
            repeat (first | refine WX.stepD tab_eq rfl rfl trivial ?_ | refine WX.stepD tab_eq rfl rfl (by decide) ?_ | refine WX.skipD rfl ?_)
            refine WX.nilD (by kernel_rfl) ?_
            repeat (first | refine WX.step tab_eq rfl rfl trivial ?_ | refine WX.step tab_eq rfl rfl (by decide) ?_ | refine WX.nil ?_ | refine W.seq ?_ | refine W.region ?_ | refine W.regionD ?_ | refine W.block ?_ | refine W.skip ?_ | refine W.exit ?_ | refine W.ret ?_ | refine W.condT rfl ?_ | refine W.condF rfl ?_ | refine WX.skip rfl ?_)
            rw [paX_no hk, hk]
            rfl
          · have c2 := not_false c2
            have n1 : num.all isDg = true := by rw [Bool.and_eq_true] at c1; exact c1.1
            have n2 : num ≠ [] := by rw [Bool.and_eq_true] at c1; exact of_decide_eq_true c1.2
            have n3 : (den : Bs).all isDg = true := by rw [Bool.and_eq_true] at c2; exact c2.1
            have n4 : (den : Bs) ≠ [] := by rw [Bool.and_eq_true] at c2; exact of_decide_eq_true c2.2
            repeat (first | refine WX.stepD tab_eq rfl rfl trivial ?_ | refine WX.stepD tab_eq rfl rfl (by decide) ?_ | refine WX.skipD rfl ?_)
            refine WX.boolMD rfl rfl (fun c3 => ?_) (fun c3 => ?_)
            · have hk : okP s neg num den = false := by
                unfold okP; rw [c1, c2, show decide ((den : Bs) ≠ [48]) = false from decide_eq_false (fun h => h (of_decide_eq_true c3))]; simp
              repeat (first | refine WX.stepD tab_eq rfl rfl trivial ?_ | refine WX.stepD tab_eq rfl rfl (by decide) ?_ | refine WX.skipD rfl ?_)
              refine WX.nilD (by kernel_rfl) ?_
              repeat (first | refine WX.step tab_eq rfl rfl trivial ?_ | refine WX.step tab_eq rfl rfl (by decide) ?_ | refine WX.nil ?_ | refine W.seq ?_ | refine W.region ?_ | refine W.regionD ?_ | refine W.block ?_ | refine W.skip ?_ | refine W.exit ?_ | refine W.ret ?_ | refine W.condT rfl ?_ | refine W.condF rfl ?_ | refine WX.skip rfl ?_)
              rw [paX_no hk, hk]
              rfl
            · have c3 : (den : Bs) ≠ [48] := of_decide_eq_false c3
              repeat (first | refine WX.stepD tab_eq rfl rfl trivial ?_ | refine WX.stepD tab_eq rfl rfl (by decide) ?_ | refine WX.skipD rfl ?_)
              refine WX.callD tab_eq rfl rfl rfl rfl rfl (rtrim_T (k := k + 4) num n1 n2 (by omega)) rfl rfl ?_
              repeat (first | refine WX.stepD tab_eq rfl rfl trivial ?_ | refine WX.stepD tab_eq rfl rfl (by decide) ?_ | refine WX.skipD rfl ?_)
              refine WX.boolMD rfl rfl (fun c4 => ?_) (fun c4 => ?_)
              · have hk : okP s neg num den = false := by
                  unfold okP; rw [show decide (dec (val num) = num) = false from decide_eq_false (of_decide_eq_true c4)]; simp
                repeat (first | refine WX.stepD tab_eq rfl rfl trivial ?_ | refine WX.stepD tab_eq rfl rfl (by decide) ?_ | refine WX.skipD rfl ?_)
                refine WX.nilD (by kernel_rfl) ?_
                repeat (first | refine WX.step tab_eq rfl rfl trivial ?_ | refine WX.step tab_eq rfl rfl (by decide) ?_ | refine WX.nil ?_ | refine W.seq ?_ | refine W.region ?_ | refine W.regionD ?_ | refine W.block ?_ | refine W.skip ?_ | refine W.exit ?_ | refine W.ret ?_ | refine W.condT rfl ?_ | refine W.condF rfl ?_ | refine WX.skip rfl ?_)
                rw [paX_no hk, hk]
                rfl
              · have c4 : dec (val num) = num := Decidable.not_not.1 (of_decide_eq_false c4)
                repeat (first | refine WX.stepD tab_eq rfl rfl trivial ?_ | refine WX.stepD tab_eq rfl rfl (by decide) ?_ | refine WX.skipD rfl ?_)
                refine WX.callD tab_eq rfl rfl rfl rfl rfl (rtrim_T (k := k + 4) den n3 n4 (by first | omega | simp)) rfl rfl ?_
                repeat (first | refine WX.stepD tab_eq rfl rfl trivial ?_ | refine WX.stepD tab_eq rfl rfl (by decide) ?_ | refine WX.skipD rfl ?_)
                refine WX.boolMD rfl rfl (fun c5 => ?_) (fun c5 => ?_)
                · have hk : okP s neg num den = false := by
                    unfold okP; rw [show decide (dec (val den) = den) = false from decide_eq_false (of_decide_eq_true c5)]; simp
                  repeat (first | refine WX.stepD tab_eq rfl rfl trivial ?_ | refine WX.stepD tab_eq rfl rfl (by decide) ?_ | refine WX.skipD rfl ?_)
                  refine WX.nilD (by kernel_rfl) ?_
                  repeat (first | refine WX.step tab_eq rfl rfl trivial ?_ | refine WX.step tab_eq rfl rfl (by decide) ?_ | refine WX.nil ?_ | refine W.seq ?_ | refine W.region ?_ | refine W.regionD ?_ | refine W.block ?_ | refine W.skip ?_ | refine W.exit ?_ | refine W.ret ?_ | refine W.condT rfl ?_ | refine W.condF rfl ?_ | refine WX.skip rfl ?_)
                  rw [paX_no hk, hk]
                  rfl
                · have c5 : dec (val den) = den := Decidable.not_not.1 (of_decide_eq_false c5)
                  have d0 : val den ≠ 0 := by intro h; rw [h, dec_zero] at c5; exact c3 c5.symm
                  have hr := rreduce_T (k := k) neg (val num) (val den) d0 (by rw [c4]; omega) (by rw [c5]; omega)
                  have ht := text_qt neg (val num) (val den) d0
                  have hx := rtext_T (k := k + 4) (neg && decide (val num ≠ 0)) (dec (val num / (val num).gcd (val den))) (dec (val den / (val num).gcd (val den))) (by have := dec_len_mono (Nat.div_le_self (val num) ((val num).gcd (val den))); rw [c4] at this; omega) (by have := dec_len_mono (Nat.div_le_self (val den) ((val num).gcd (val den))); rw [c5] at this; omega)
                  rw [ht] at hx
                  rw [c4, c5] at hr
                  have hok : okP s neg num den = decide (qt neg (val num / (val num).gcd (val den)) (val den / (val num).gcd (val den)) = s) := by
                    unfold okP; rw [c1, c2, decide_eq_true c3, decide_eq_true c4, decide_eq_true c5]; rfl
                  generalize qt neg _ _ = q at *
                  generalize dec (val num / (val num).gcd (val den)) = g1 at *
                  generalize dec (val den / (val num).gcd (val den)) = g2 at *
                  repeat (first | refine WX.stepD tab_eq rfl rfl trivial ?_ | refine WX.stepD tab_eq rfl rfl (by decide) ?_ | refine WX.skipD rfl ?_)
                  refine WX.callD tab_eq rfl rfl rfl rfl rfl (hr) rfl rfl ?_
                  repeat (first | refine WX.stepD tab_eq rfl rfl trivial ?_ | refine WX.stepD tab_eq rfl rfl (by decide) ?_ | refine WX.skipD rfl ?_)
                  refine WX.callD tab_eq rfl rfl rfl rfl rfl (hx) rfl rfl ?_
                  repeat (first | refine WX.stepD tab_eq rfl rfl trivial ?_ | refine WX.stepD tab_eq rfl rfl (by decide) ?_ | refine WX.skipD rfl ?_)
                  refine WX.nilD (by kernel_rfl) ?_
                  repeat (first | refine WX.step tab_eq rfl rfl trivial ?_ | refine WX.step tab_eq rfl rfl (by decide) ?_ | refine WX.nil ?_ | refine W.seq ?_ | refine W.region ?_ | refine W.regionD ?_ | refine W.block ?_ | refine W.skip ?_ | refine W.exit ?_ | refine W.ret ?_ | refine W.condT rfl ?_ | refine W.condF rfl ?_ | refine WX.skip rfl ?_)
                  refine W.cond rfl (fun c6 => ?_) (fun c6 => ?_)
                  · have hk : okP s neg num den = false := by
                      rw [hok]; exact decide_eq_false (of_decide_eq_true c6)
                    repeat (first | refine WX.step tab_eq rfl rfl trivial ?_ | refine WX.step tab_eq rfl rfl (by decide) ?_ | refine WX.nil ?_ | refine W.seq ?_ | refine W.region ?_ | refine W.regionD ?_ | refine W.block ?_ | refine W.skip ?_ | refine W.exit ?_ | refine W.ret ?_ | refine W.condT rfl ?_ | refine W.condF rfl ?_ | refine WX.skip rfl ?_)
                    rw [paX_no hk, hk]
                    rfl
                  · have hk : okP s neg num den = true := by
                      rw [hok]; exact decide_eq_true (Decidable.not_not.1 (of_decide_eq_false c6))
                    repeat (first | refine WX.step tab_eq rfl rfl trivial ?_ | refine WX.step tab_eq rfl rfl (by decide) ?_ | refine WX.nil ?_ | refine W.seq ?_ | refine W.region ?_ | refine W.regionD ?_ | refine W.block ?_ | refine W.skip ?_ | refine W.exit ?_ | refine W.ret ?_ | refine W.condT rfl ?_ | refine W.condF rfl ?_ | refine WX.skip rfl ?_)
                    rw [paX_yes hk, hk]
                    rfl
      · repeat (first | refine WX.step tab_eq rfl rfl trivial ?_ | refine WX.step tab_eq rfl rfl (by decide) ?_ | refine WX.nil ?_ | refine W.seq ?_ | refine W.region ?_ | refine W.regionD ?_ | refine W.block ?_ | refine W.skip ?_ | refine W.exit ?_ | refine W.ret ?_ | refine W.condT rfl ?_ | refine W.condF rfl ?_ | refine WX.skip rfl ?_)
        rw [wrap_i64 (x := (i : Int) + 1) (by omega) (by omega)]
        show ∃ m', _
        refine ⟨m.length - (i + 1), by omega, i + 1, rfl, by omega, ?_, rfl⟩
        rw [take_dg (by omega)]
        have b1 : m.getD i 0 ≠ 47 := by
          intro h
          have := of_decide_eq_false b1
          apply this
          show ((m.getD i 0).toNat : Int) = 47
          rw [h]; rfl
        simp [hn]
        exact fun h => b1 h.symm
    · have hlt := of_decide_eq_false hlt
      have hie : i = m.length := by omega
      subst hie
      rw [List.take_length] at hn
      have hcut : cutS m = (m, [], false) := cutS_none hn
      rw [hcut]
      simp only [Bool.false_eq_true, if_false]
      generalize hden : ([49] : Bs) = den at *
      have hd1 : den.length < 268435456 := by rw [← hden]; simp
      repeat (first | refine WX.step tab_eq rfl rfl trivial ?_ | refine WX.step tab_eq rfl rfl (by decide) ?_ | refine WX.nil ?_ | refine W.seq ?_ | refine W.region ?_ | refine W.regionD ?_ | refine W.block ?_ | refine W.skip ?_ | refine W.exit ?_ | refine W.ret ?_ | refine W.condT rfl ?_ | refine W.condF rfl ?_ | refine WX.skip rfl ?_)
      repeat (first | refine WX.stepD tab_eq rfl rfl trivial ?_ | refine WX.stepD tab_eq rfl rfl (by decide) ?_ | refine WX.skipD rfl ?_)
      refine WX.callD tab_eq rfl rfl rfl rfl rfl (digits_T (k := k + 4) m (by omega)) rfl rfl ?_
      repeat (first | refine WX.stepD tab_eq rfl rfl trivial ?_ | refine WX.stepD tab_eq rfl rfl (by decide) ?_ | refine WX.skipD rfl ?_)
      refine WX.boolMD rfl rfl (fun c1 => ?_) (fun c1 => ?_)
      · have hk : okP s neg m den = false := by
          unfold okP; rw [show (m.all isDg && decide (m ≠ [])) = false from not_true c1, Bool.false_and]
        repeat (first | refine WX.stepD tab_eq rfl rfl trivial ?_ | refine WX.stepD tab_eq rfl rfl (by decide) ?_ | refine WX.skipD rfl ?_)
        refine WX.nilD (by kernel_rfl) ?_
        repeat (first | refine WX.step tab_eq rfl rfl trivial ?_ | refine WX.step tab_eq rfl rfl (by decide) ?_ | refine WX.nil ?_ | refine W.seq ?_ | refine W.region ?_ | refine W.regionD ?_ | refine W.block ?_ | refine W.skip ?_ | refine W.exit ?_ | refine W.ret ?_ | refine W.condT rfl ?_ | refine W.condF rfl ?_ | refine WX.skip rfl ?_)
        rw [paX_no hk, hk]
        rfl
      · have c1 := not_false c1
        repeat (first | refine WX.stepD tab_eq rfl rfl trivial ?_ | refine WX.stepD tab_eq rfl rfl (by decide) ?_ | refine WX.skipD rfl ?_)
        refine WX.callD tab_eq rfl rfl rfl rfl rfl (digits_T (k := k + 4) den (by first | omega | simp)) rfl rfl ?_
        repeat (first | refine WX.stepD tab_eq rfl rfl trivial ?_ | refine WX.stepD tab_eq rfl rfl (by decide) ?_ | refine WX.skipD rfl ?_)
        refine WX.boolMD rfl rfl (fun c2 => ?_) (fun c2 => ?_)
        · have hk : okP s neg m den = false := by
            unfold okP; rw [c1, show (den.all isDg && decide (den ≠ [])) = false from not_true c2, Bool.false_and, Bool.and_false]
          repeat (first | refine WX.stepD tab_eq rfl rfl trivial ?_ | refine WX.stepD tab_eq rfl rfl (by decide) ?_ | refine WX.skipD rfl ?_)
          refine WX.nilD (by kernel_rfl) ?_
          repeat (first | refine WX.step tab_eq rfl rfl trivial ?_ | refine WX.step tab_eq rfl rfl (by decide) ?_ | refine WX.nil ?_ | refine W.seq ?_ | refine W.region ?_ | refine W.regionD ?_ | refine W.block ?_ | refine W.skip ?_ | refine W.exit ?_ | refine W.ret ?_ | refine W.condT rfl ?_ | refine W.condF rfl ?_ | refine WX.skip rfl ?_)
          rw [paX_no hk, hk]
          rfl
        · have c2 := not_false c2
          have n1 : m.all isDg = true := by rw [Bool.and_eq_true] at c1; exact c1.1
          have n2 : m ≠ [] := by rw [Bool.and_eq_true] at c1; exact of_decide_eq_true c1.2
          have n3 : (den : Bs).all isDg = true := by rw [Bool.and_eq_true] at c2; exact c2.1
          have n4 : (den : Bs) ≠ [] := by rw [Bool.and_eq_true] at c2; exact of_decide_eq_true c2.2
          repeat (first | refine WX.stepD tab_eq rfl rfl trivial ?_ | refine WX.stepD tab_eq rfl rfl (by decide) ?_ | refine WX.skipD rfl ?_)
          refine WX.boolMD rfl rfl (fun c3 => ?_) (fun c3 => ?_)
          · have hk : okP s neg m den = false := by
              unfold okP; rw [c1, c2, show decide ((den : Bs) ≠ [48]) = false from decide_eq_false (fun h => h (of_decide_eq_true c3))]; simp
            repeat (first | refine WX.stepD tab_eq rfl rfl trivial ?_ | refine WX.stepD tab_eq rfl rfl (by decide) ?_ | refine WX.skipD rfl ?_)
            refine WX.nilD (by kernel_rfl) ?_
            repeat (first | refine WX.step tab_eq rfl rfl trivial ?_ | refine WX.step tab_eq rfl rfl (by decide) ?_ | refine WX.nil ?_ | refine W.seq ?_ | refine W.region ?_ | refine W.regionD ?_ | refine W.block ?_ | refine W.skip ?_ | refine W.exit ?_ | refine W.ret ?_ | refine W.condT rfl ?_ | refine W.condF rfl ?_ | refine WX.skip rfl ?_)
            rw [paX_no hk, hk]
            rfl
          · have c3 : (den : Bs) ≠ [48] := of_decide_eq_false c3
            repeat (first | refine WX.stepD tab_eq rfl rfl trivial ?_ | refine WX.stepD tab_eq rfl rfl (by decide) ?_ | refine WX.skipD rfl ?_)
            refine WX.callD tab_eq rfl rfl rfl rfl rfl (rtrim_T (k := k + 4) m n1 n2 (by omega)) rfl rfl ?_
            repeat (first | refine WX.stepD tab_eq rfl rfl trivial ?_ | refine WX.stepD tab_eq rfl rfl (by decide) ?_ | refine WX.skipD rfl ?_)
            refine WX.boolMD rfl rfl (fun c4 => ?_) (fun c4 => ?_)
            · have hk : okP s neg m den = false := by
                unfold okP; rw [show decide (dec (val m) = m) = false from decide_eq_false (of_decide_eq_true c4)]; simp
              repeat (first | refine WX.stepD tab_eq rfl rfl trivial ?_ | refine WX.stepD tab_eq rfl rfl (by decide) ?_ | refine WX.skipD rfl ?_)
              refine WX.nilD (by kernel_rfl) ?_
              repeat (first | refine WX.step tab_eq rfl rfl trivial ?_ | refine WX.step tab_eq rfl rfl (by decide) ?_ | refine WX.nil ?_ | refine W.seq ?_ | refine W.region ?_ | refine W.regionD ?_ | refine W.block ?_ | refine W.skip ?_ | refine W.exit ?_ | refine W.ret ?_ | refine W.condT rfl ?_ | refine W.condF rfl ?_ | refine WX.skip rfl ?_)
              rw [paX_no hk, hk]
              rfl
            · have c4 : dec (val m) = m := Decidable.not_not.1 (of_decide_eq_false c4)
              repeat (first | refine WX.stepD tab_eq rfl rfl trivial ?_ | refine WX.stepD tab_eq rfl rfl (by decide) ?_ | refine WX.skipD rfl ?_)
              refine WX.callD tab_eq rfl rfl rfl rfl rfl (rtrim_T (k := k + 4) den n3 n4 (by first | omega | simp)) rfl rfl ?_
              repeat (first | refine WX.stepD tab_eq rfl rfl trivial ?_ | refine WX.stepD tab_eq rfl rfl (by decide) ?_ | refine WX.skipD rfl ?_)
              refine WX.boolMD rfl rfl (fun c5 => ?_) (fun c5 => ?_)
              · have hk : okP s neg m den = false := by
                  unfold okP; rw [show decide (dec (val den) = den) = false from decide_eq_false (of_decide_eq_true c5)]; simp
                repeat (first | refine WX.stepD tab_eq rfl rfl trivial ?_ | refine WX.stepD tab_eq rfl rfl (by decide) ?_ | refine WX.skipD rfl ?_)
                refine WX.nilD (by kernel_rfl) ?_
                repeat (first | refine WX.step tab_eq rfl rfl trivial ?_ | refine WX.step tab_eq rfl rfl (by decide) ?_ | refine WX.nil ?_ | refine W.seq ?_ | refine W.region ?_ | refine W.regionD ?_ | refine W.block ?_ | refine W.skip ?_ | refine W.exit ?_ | refine W.ret ?_ | refine W.condT rfl ?_ | refine W.condF rfl ?_ | refine WX.skip rfl ?_)
                rw [paX_no hk, hk]
                rfl
              · have c5 : dec (val den) = den := Decidable.not_not.1 (of_decide_eq_false c5)
                have d0 : val den ≠ 0 := by intro h; rw [h, dec_zero] at c5; exact c3 c5.symm
                have hr := rreduce_T (k := k) neg (val m) (val den) d0 (by rw [c4]; omega) (by rw [c5]; omega)
                have ht := text_qt neg (val m) (val den) d0
                have hx := rtext_T (k := k + 4) (neg && decide (val m ≠ 0)) (dec (val m / (val m).gcd (val den))) (dec (val den / (val m).gcd (val den))) (by have := dec_len_mono (Nat.div_le_self (val m) ((val m).gcd (val den))); rw [c4] at this; omega) (by have := dec_len_mono (Nat.div_le_self (val den) ((val m).gcd (val den))); rw [c5] at this; omega)
                rw [ht] at hx
                rw [c4, c5] at hr
                have hok : okP s neg m den = decide (qt neg (val m / (val m).gcd (val den)) (val den / (val m).gcd (val den)) = s) := by
                  unfold okP; rw [c1, c2, decide_eq_true c3, decide_eq_true c4, decide_eq_true c5]; rfl
                generalize qt neg _ _ = q at *
                generalize dec (val m / (val m).gcd (val den)) = g1 at *
                generalize dec (val den / (val m).gcd (val den)) = g2 at *
                repeat (first | refine WX.stepD tab_eq rfl rfl trivial ?_ | refine WX.stepD tab_eq rfl rfl (by decide) ?_ | refine WX.skipD rfl ?_)
                refine WX.callD tab_eq rfl rfl rfl rfl rfl (hr) rfl rfl ?_
                repeat (first | refine WX.stepD tab_eq rfl rfl trivial ?_ | refine WX.stepD tab_eq rfl rfl (by decide) ?_ | refine WX.skipD rfl ?_)
                refine WX.callD tab_eq rfl rfl rfl rfl rfl (hx) rfl rfl ?_
                repeat (first | refine WX.stepD tab_eq rfl rfl trivial ?_ | refine WX.stepD tab_eq rfl rfl (by decide) ?_ | refine WX.skipD rfl ?_)
                refine WX.nilD (by kernel_rfl) ?_
                repeat (first | refine WX.step tab_eq rfl rfl trivial ?_ | refine WX.step tab_eq rfl rfl (by decide) ?_ | refine WX.nil ?_ | refine W.seq ?_ | refine W.region ?_ | refine W.regionD ?_ | refine W.block ?_ | refine W.skip ?_ | refine W.exit ?_ | refine W.ret ?_ | refine W.condT rfl ?_ | refine W.condF rfl ?_ | refine WX.skip rfl ?_)
                refine W.cond rfl (fun c6 => ?_) (fun c6 => ?_)
                · have hk : okP s neg m den = false := by
                    rw [hok]; exact decide_eq_false (of_decide_eq_true c6)
                  repeat (first | refine WX.step tab_eq rfl rfl trivial ?_ | refine WX.step tab_eq rfl rfl (by decide) ?_ | refine WX.nil ?_ | refine W.seq ?_ | refine W.region ?_ | refine W.regionD ?_ | refine W.block ?_ | refine W.skip ?_ | refine W.exit ?_ | refine W.ret ?_ | refine W.condT rfl ?_ | refine W.condF rfl ?_ | refine WX.skip rfl ?_)
                  rw [paX_no hk, hk]
                  rfl
                · have hk : okP s neg m den = true := by
                    rw [hok]; exact decide_eq_true (Decidable.not_not.1 (of_decide_eq_false c6))
                  repeat (first | refine WX.step tab_eq rfl rfl trivial ?_ | refine WX.step tab_eq rfl rfl (by decide) ?_ | refine WX.nil ?_ | refine W.seq ?_ | refine W.region ?_ | refine W.regionD ?_ | refine W.block ?_ | refine W.skip ?_ | refine W.exit ?_ | refine W.ret ?_ | refine W.condT rfl ?_ | refine W.condF rfl ?_ | refine WX.skip rfl ?_)
                  rw [paX_yes hk, hk]
                  rfl
theorem parse_T (s : Bs) (hs : s.length < 268435456) : T (k + 6) 96 [.str s] = some (.tup [.agg (paX s (cutM s).2 (cutS (cutM s).1).1 (if (cutS (cutM s).1).2.2 then (cutS (cutM s).1).2.1 else [49])),
    .bool (okP s (cutM s).2 (cutS (cutM s).1).1 (if (cutS (cutM s).1).2.2 then (cutS (cutM s).1).2.1 else [49]))], []) := by
  have h0 := cutM_len s
  refine enter rfl func96 rfl (by decide) (by kernel_rfl) rfl rfl ?_
  repeat (first | refine WX.step tab_eq rfl rfl trivial ?_ | refine WX.step tab_eq rfl rfl (by decide) ?_ | refine WX.nil ?_ | refine W.seq ?_ | refine W.region ?_ | refine W.regionD ?_ | refine W.block ?_ | refine W.skip ?_ | refine W.exit ?_ | refine W.ret ?_ | refine W.condT rfl ?_ | refine W.condF rfl ?_ | refine WX.skip rfl ?_)
  refine WX.boolM rfl rfl (fun b1 => ?_) (fun b1 => ?_)
  · have b1 : s ≠ [] := by simpa using b1
    obtain ⟨c, t, rfl⟩ := List.exists_cons_of_ne_nil b1
    repeat (first | refine WX.step tab_eq rfl rfl trivial ?_ | refine WX.step tab_eq rfl rfl (by decide) ?_ | refine WX.nil ?_ | refine WX.skip rfl ?_)
    refine WX.step tab_eq rfl rfl (by simp) ?_
    repeat (first | refine WX.step tab_eq rfl rfl trivial ?_ | refine WX.step tab_eq rfl rfl (by decide) ?_ | refine WX.nil ?_ | refine WX.skip rfl ?_)
    refine W.cond rfl (fun b2 => ?_) (fun b2 => ?_)
    · have b2 : c = 45 := UInt8.toNat_inj.1 (Int.ofNat_inj.1 (of_decide_eq_true b2))
      subst b2
      refine W.regionD ?_
      repeat (first | refine WX.stepD tab_eq rfl rfl trivial ?_ | refine WX.stepD tab_eq rfl rfl (by decide) ?_ | refine WX.skipD rfl ?_)
      refine WX.stepD tab_eq rfl rfl (by simp; omega) ?_
      repeat (first | refine WX.stepD tab_eq rfl rfl trivial ?_ | refine WX.stepD tab_eq rfl rfl (by decide) ?_ | refine WX.skipD rfl ?_)
      refine WX.nilD (by kernel_rfl) ?_
      refine parseLoop (45 :: t) t true (by simp at hs; omega) _ _ ?s2 ?s4 ?h0 ?h2 ?h4 ?h5
      case h0 => exact rfl
      case h2 => exact rfl
      case h4 => exact rfl
      case h5 => exact rfl
    · have b2 : c ≠ 45 := by
        have b3 : ¬ ((c.toNat : Int) = 45) := of_decide_eq_false b2
        intro e; apply b3; rw [e]; rfl
      have hc : cutM (c :: t) = (c :: t, false) := by simp [cutM, b2]
      rw [hc]
      refine W.skip ?_
      refine parseLoop (c :: t) (c :: t) false hs _ _ ?s2 ?s4 ?h0 ?h2 ?h4 ?h5
      case h0 => exact rfl
      case h2 => exact rfl
      case h4 => exact rfl
      case h5 => exact rfl
  · have b1 : s = [] := by simpa using b1
    subst b1
    repeat (first | refine WX.step tab_eq rfl rfl trivial ?_ | refine WX.step tab_eq rfl rfl (by decide) ?_ | refine WX.nil ?_ | refine WX.skip rfl ?_)
    refine W.condF rfl ?_
    refine W.skip ?_
    refine parseLoop [] [] false (by simp) _ _ ?s2 ?s4 ?h0 ?h2 ?h4 ?h5
    case h0 => exact rfl
    case h2 => exact rfl
    case h4 => exact rfl
    case h5 => exact rfl
end Go.PE
namespace Go.PE
open Go.RowKit Go.Proofs.Tryz
set_option maxRecDepth 100000
variable {k : Nat}
theorem cutM_rs (q : Rat) : cutM (rs q) = (dec q.num.natAbs ++ (if q.den = 1 then [] else 47 :: dec q.den), decide (q.num < 0)) := by
  unfold rs qt
  by_cases h : q.num < 0
  · have : q.num.natAbs ≠ 0 := by omega
    simp [h, this, cutM]
  · simp only [h, decide_false, Bool.false_and]
    rw [if_neg (by simp), List.nil_append, cutM_dec]
/-- What the reference parses. -/
def paD (s : Bs) : Bs := if (cutS (cutM s).1).2.2 then (cutS (cutM s).1).2.1 else [49]
def paO (s : Bs) : Bool := okP s (cutM s).2 (cutS (cutM s).1).1 (paD s)
def paR (q : Rat) : List PV := [.bool (decide (q.num < 0)), .str (dec q.num.natAbs), .str (dec q.den)]
theorem okP_rs (q : Rat) : paO (rs q) = true ∧ (cutM (rs q)).2 = decide (q.num < 0) ∧ (cutS (cutM (rs q)).1).1 = dec q.num.natAbs ∧ paD (rs q) = dec q.den := by
  have hD : paD (rs q) = dec q.den := by
    unfold paD
    rw [cutM_rs]; simp only; rw [cutS_dec]
    by_cases h : q.den = 1
    · simp [h]; rw [dec_small (by omega)]; rfl
    · simp [h]
  have hN : (cutS (cutM (rs q)).1).1 = dec q.num.natAbs := by rw [cutM_rs]; simp only; rw [cutS_dec]
  have hM : (cutM (rs q)).2 = decide (q.num < 0) := by rw [cutM_rs]
  refine ⟨?_, hM, hN, hD⟩
  unfold paO okP
  rw [hD, hN, hM]
  have hg : q.num.natAbs.gcd q.den = 1 := q.reduced
  simp only [val_dec, hg, Nat.div_one, dec_all, ne_eq, dec_ne, not_false_eq_true, decide_true, Bool.true_and]
  have : dec q.den ≠ [48] := by
    rw [← dec_zero]; intro e; exact q.den_nz (dec_inj e)
  simp only [this, not_false_eq_true, decide_true, Bool.true_and, decide_eq_true_eq]
  rfl
theorem paO_some {s : Bs} (h : paO s = true) : ∃ q, s = rs q := by
  unfold paO okP at h
  simp only [Bool.and_eq_true, decide_eq_true_eq] at h
  obtain ⟨h1, h2, h3, h4, h5, h6⟩ := h
  have hd : val (paD s) ≠ 0 := by
    intro e; rw [e, dec_zero] at h5; exact h3 h5.symm
  exact ⟨_, by rw [rs_mkRat (cutM s).2 (val (cutS (cutM s).1).1) (val (paD s)) hd]; exact h6.symm⟩
theorem paO_rd (s : Bs) : paO s = (rd s).isSome := by
  cases h : paO s
  · cases h2 : rd s with
    | none => rfl
    | some q => rw [rs_rd h2, (okP_rs q).1] at h; cases h
  · obtain ⟨q, rfl⟩ := paO_some h
    rw [rd_rs]; rfl
/-- The parsed ratio. -/
def rdA (s : Bs) : PV := .agg (match rd s with | some q => paR q | none => [.bool false, .str [], .str []])
theorem rparse_T (s : Bs) (hs : s.length < 268435456) : T (k + 6) 96 [.str s] = some (.tup [rdA s, .bool (rd s).isSome], []) := by
  rw [parse_T s hs]
  have h := paO_rd s
  unfold paO paD at h
  rw [h]
  unfold rdA
  cases h2 : rd s with
  | none =>
    rw [h2] at h
    rw [paX_no h]
  | some q =>
    rw [h2] at h
    rw [paX_yes h]
    have h3 := rs_rd h2
    subst h3
    obtain ⟨h4, h5, h6, h7⟩ := okP_rs q
    unfold paD at h7
    rw [h5, h6, h7]
    rfl
theorem rvalid_T (a : Bs) (h : a.length < 268435456) : T (k + 7) 73 [.str a] = some (.bool (rd a).isSome, []) := by
  have hr := rparse_T (k := k) a h
  unfold rdA at hr
  refine enter rfl func73 rfl (by decide) (by kernel_rfl) rfl rfl ?_
  repeat (first | refine WX.step tab_eq rfl rfl trivial ?_ | refine WX.step tab_eq rfl rfl (by decide) ?_ | refine WX.nil ?_ | refine W.seq ?_ | refine W.region ?_ | refine W.regionD ?_ | refine W.block ?_ | refine W.skip ?_ | refine W.exit ?_ | refine W.ret ?_ | refine W.condT rfl ?_ | refine W.condF rfl ?_ | refine WX.skip rfl ?_)
  generalize rd a = o at *
  rcases o with _ | q
  · refine WX.call tab_eq rfl rfl rfl rfl rfl (hr) rfl rfl ?_
    repeat (first | refine WX.step tab_eq rfl rfl trivial ?_ | refine WX.step tab_eq rfl rfl (by decide) ?_ | refine WX.nil ?_ | refine W.seq ?_ | refine W.region ?_ | refine W.regionD ?_ | refine W.block ?_ | refine W.skip ?_ | refine W.exit ?_ | refine W.ret ?_ | refine W.condT rfl ?_ | refine W.condF rfl ?_ | refine WX.skip rfl ?_)
    rfl
  · refine WX.call tab_eq rfl rfl rfl rfl rfl (hr) rfl rfl ?_
    repeat (first | refine WX.step tab_eq rfl rfl trivial ?_ | refine WX.step tab_eq rfl rfl (by decide) ?_ | refine WX.nil ?_ | refine W.seq ?_ | refine W.region ?_ | refine W.regionD ?_ | refine W.block ?_ | refine W.skip ?_ | refine W.exit ?_ | refine W.ret ?_ | refine W.condT rfl ?_ | refine W.condF rfl ?_ | refine WX.skip rfl ?_)
    rfl
theorem rden1 (q : Rat) : (dec q.den = [49]) ↔ q.den = 1 := by
  rw [show ([49] : Bs) = dec 1 by rw [dec_small (by omega)]; rfl]
  exact ⟨dec_inj, fun h => by rw [h]⟩
theorem risInt_T (a : Bs) (h : a.length < 268435456) : T (k + 7) 52 [.str a] = some (.bool (match rd a with | some q => decide (q.den = 1) | none => false), []) := by
  have hr := rparse_T (k := k) a h
  unfold rdA at hr
  refine enter rfl func52 rfl (by decide) (by kernel_rfl) rfl rfl ?_
  repeat (first | refine WX.step tab_eq rfl rfl trivial ?_ | refine WX.step tab_eq rfl rfl (by decide) ?_ | refine WX.nil ?_ | refine W.seq ?_ | refine W.region ?_ | refine W.regionD ?_ | refine W.block ?_ | refine W.skip ?_ | refine W.exit ?_ | refine W.ret ?_ | refine W.condT rfl ?_ | refine W.condF rfl ?_ | refine WX.skip rfl ?_)
  generalize rd a = o at *
  rcases o with _ | q
  · refine WX.call tab_eq rfl rfl rfl rfl rfl (hr) rfl rfl ?_
    repeat (first | refine WX.step tab_eq rfl rfl trivial ?_ | refine WX.step tab_eq rfl rfl (by decide) ?_ | refine WX.nil ?_ | refine W.seq ?_ | refine W.region ?_ | refine W.regionD ?_ | refine W.block ?_ | refine W.skip ?_ | refine W.exit ?_ | refine W.ret ?_ | refine W.condT rfl ?_ | refine W.condF rfl ?_ | refine WX.skip rfl ?_)
    rfl
  · refine WX.call tab_eq rfl rfl rfl rfl rfl (hr) rfl rfl ?_
    repeat (first | refine WX.step tab_eq rfl rfl trivial ?_ | refine WX.step tab_eq rfl rfl (by decide) ?_ | refine WX.nil ?_ | refine W.seq ?_ | refine W.region ?_ | refine W.regionD ?_ | refine W.block ?_ | refine W.skip ?_ | refine W.exit ?_ | refine W.ret ?_ | refine W.condT rfl ?_ | refine W.condF rfl ?_ | refine WX.skip rfl ?_)
    show some (PV.bool (decide (dec q.den = [49])), []) = some (PV.bool (decide (q.den = 1)), [])
    rw [decide_eq_decide.2 (rden1 q)]
theorem rsign_T (a : Bs) (h : a.length < 268435456) : T (k + 7) 76 [.str a] = some (.int .i64 (match rd a with | some q => sgn q | none => 0), []) := by
  have hr := rparse_T (k := k) a h
  unfold rdA at hr
  refine enter rfl func76 rfl (by decide) (by kernel_rfl) rfl rfl ?_
  repeat (first | refine WX.step tab_eq rfl rfl trivial ?_ | refine WX.step tab_eq rfl rfl (by decide) ?_ | refine WX.nil ?_ | refine W.seq ?_ | refine W.region ?_ | refine W.regionD ?_ | refine W.block ?_ | refine W.skip ?_ | refine W.exit ?_ | refine W.ret ?_ | refine W.condT rfl ?_ | refine W.condF rfl ?_ | refine WX.skip rfl ?_)
  generalize rd a = o at *
  rcases o with _ | q
  · refine WX.call tab_eq rfl rfl rfl rfl rfl (hr) rfl rfl ?_
    repeat (first | refine WX.step tab_eq rfl rfl trivial ?_ | refine WX.step tab_eq rfl rfl (by decide) ?_ | refine WX.nil ?_ | refine W.seq ?_ | refine W.region ?_ | refine W.regionD ?_ | refine W.block ?_ | refine W.skip ?_ | refine W.exit ?_ | refine W.ret ?_ | refine W.condT rfl ?_ | refine W.condF rfl ?_ | refine WX.skip rfl ?_)
    rfl
  · refine WX.call tab_eq rfl rfl rfl rfl rfl (hr) rfl rfl ?_
    repeat (first | refine WX.step tab_eq rfl rfl trivial ?_ | refine WX.step tab_eq rfl rfl (by decide) ?_ | refine WX.nil ?_ | refine W.seq ?_ | refine W.region ?_ | refine W.regionD ?_ | refine W.block ?_ | refine W.skip ?_ | refine W.exit ?_ | refine W.ret ?_ | refine W.condT rfl ?_ | refine W.condF rfl ?_ | refine WX.skip rfl ?_)
    refine W.cond rfl (fun b1 => ?_) (fun b1 => ?_)
    · have b1 : dec q.num.natAbs = [48] := by simpa using b1
      have hz : q.num = 0 := by rw [← dec_zero] at b1; have := dec_inj b1; omega
      repeat (first | refine WX.step tab_eq rfl rfl trivial ?_ | refine WX.step tab_eq rfl rfl (by decide) ?_ | refine WX.nil ?_ | refine W.seq ?_ | refine W.region ?_ | refine W.regionD ?_ | refine W.block ?_ | refine W.skip ?_ | refine W.exit ?_ | refine W.ret ?_ | refine W.condT rfl ?_ | refine W.condF rfl ?_ | refine WX.skip rfl ?_)
      show some (PV.int .i64 0, []) = some (PV.int .i64 (sgn q), [])
      unfold sgn; rw [hz]; rfl
    · have b1 : dec q.num.natAbs ≠ [48] := by simpa using b1
      have hz : q.num ≠ 0 := by intro e; apply b1; rw [e]; exact dec_zero
      repeat (first | refine WX.step tab_eq rfl rfl trivial ?_ | refine WX.step tab_eq rfl rfl (by decide) ?_ | refine WX.nil ?_ | refine W.seq ?_ | refine W.region ?_ | refine W.regionD ?_ | refine W.block ?_ | refine W.skip ?_ | refine W.exit ?_ | refine W.ret ?_ | refine W.condT rfl ?_ | refine W.condF rfl ?_ | refine WX.skip rfl ?_)
      refine W.cond rfl (fun b2 => ?_) (fun b2 => ?_)
      · have b2 : q.num < 0 := of_decide_eq_true b2
        repeat (first | refine WX.step tab_eq rfl rfl trivial ?_ | refine WX.step tab_eq rfl rfl (by decide) ?_ | refine WX.nil ?_ | refine W.seq ?_ | refine W.region ?_ | refine W.regionD ?_ | refine W.block ?_ | refine W.skip ?_ | refine W.exit ?_ | refine W.ret ?_ | refine W.condT rfl ?_ | refine W.condF rfl ?_ | refine WX.skip rfl ?_)
        show some (PV.int .i64 (-1), []) = some (PV.int .i64 (sgn q), [])
        unfold sgn; rw [if_pos b2]
      · have b2 : ¬ q.num < 0 := of_decide_eq_false b2
        repeat (first | refine WX.step tab_eq rfl rfl trivial ?_ | refine WX.step tab_eq rfl rfl (by decide) ?_ | refine WX.nil ?_ | refine W.seq ?_ | refine W.region ?_ | refine W.regionD ?_ | refine W.block ?_ | refine W.skip ?_ | refine W.exit ?_ | refine W.ret ?_ | refine W.condT rfl ?_ | refine W.condF rfl ?_ | refine WX.skip rfl ?_)
        show some (PV.int .i64 1, []) = some (PV.int .i64 (sgn q), [])
        unfold sgn; rw [if_neg b2, if_neg hz]
end Go.PE
namespace Go.PE
open Go.RowKit Go.Proofs.Tryz
set_option maxRecDepth 100000
variable {k : Nat}
def lt1 (c : Int) : Bool := ((((decide (97 ≤ c) && decide (c ≤ 122)) || (decide (65 ≤ c) && decide (c ≤ 90))) || decide (c = 95)) || decide (c = 36)) || decide (c = 33)
def lt0 (c : Int) : Bool := (decide (97 ≤ c) && decide (c ≤ 122)) || (decide (65 ≤ c) && decide (c ≤ 90))
theorem ltr_T (c : Int) : T (k + 1) 165 [.int .u8 c] = some (.bool (lt1 c), []) := by
  refine enter rfl func165 rfl (by decide) (by kernel_rfl) rfl rfl ?_
  repeat' (first | refine WX.step tab_eq rfl rfl trivial ?_ | refine WX.step tab_eq rfl rfl (by decide) ?_ | refine WX.nil ?_ | refine W.seq ?_ | refine W.region ?_ | refine W.block ?_ | refine W.skip ?_ | refine W.exit ?_ | refine W.ret ?_ | refine W.condT rfl ?_ | refine W.condF rfl ?_ | refine WX.skip rfl ?_ | refine WX.boolM rfl rfl (fun _ => ?_) (fun _ => ?_) | refine W.cond rfl (fun _ => ?_) (fun _ => ?_))
  all_goals (refine (congrArg (fun b => some (PV.bool b, [])) ?_ : some (PV.bool _, []) = some (PV.bool _, [])); (simp_all [lt1] <;> omega))
theorem rltr_T (c : Int) : T (k + 1) 169 [.int .u8 c] = some (.bool (lt0 c), []) := by
  refine enter rfl func169 rfl (by decide) (by kernel_rfl) rfl rfl ?_
  repeat' (first | refine WX.step tab_eq rfl rfl trivial ?_ | refine WX.step tab_eq rfl rfl (by decide) ?_ | refine WX.nil ?_ | refine W.seq ?_ | refine W.region ?_ | refine W.block ?_ | refine W.skip ?_ | refine W.exit ?_ | refine W.ret ?_ | refine W.condT rfl ?_ | refine W.condF rfl ?_ | refine WX.skip rfl ?_ | refine WX.boolM rfl rfl (fun _ => ?_) (fun _ => ?_) | refine W.cond rfl (fun _ => ?_) (fun _ => ?_))
  all_goals (refine (congrArg (fun b => some (PV.bool b, [])) ?_ : some (PV.bool _, []) = some (PV.bool _, [])); (simp_all [lt0] <;> omega))
def words : List Bs := [[97, 110, 100], [111, 114], [110, 111, 116], [105, 116, 101], [116, 114, 117, 101], [102, 97, 108, 115, 101], [108, 101, 116], [102, 111, 114, 97, 108, 108], [101, 120, 105, 115, 116, 115],
  [100, 105, 115, 116, 105, 110, 99, 116], [100, 105, 118], [109, 111, 100], [115, 101, 108, 101, 99, 116], [115, 116, 111, 114, 101], [99, 111, 110, 115, 116], [66, 111, 111, 108], [73, 110, 116], [82, 101, 97, 108], [65, 114, 114, 97, 121]]
theorem word_T (s : Bs) : T (k + 1) 166 [.str s] = some (.bool (words.contains s), []) := by
  refine enter rfl func166 rfl (by decide) (by kernel_rfl) rfl rfl ?_
  repeat' (first | refine WX.step tab_eq rfl rfl trivial ?_ | refine WX.step tab_eq rfl rfl (by decide) ?_ | refine WX.nil ?_ | refine W.seq ?_ | refine W.region ?_ | refine W.block ?_ | refine W.skip ?_ | refine W.exit ?_ | refine W.ret ?_ | refine W.condT rfl ?_ | refine W.condF rfl ?_ | refine WX.skip rfl ?_ | refine WX.boolM rfl rfl (fun _ => ?_) (fun _ => ?_) | refine W.cond rfl (fun _ => ?_) (fun _ => ?_))
  all_goals (refine (congrArg (fun b => some (PV.bool b, [])) ?_ : some (PV.bool _, []) = some (PV.bool _, [])); simp_all [words])
theorem reserved_T : T (k + 1) 168 [] = some (.own (0, 0) 1 (words.map fun w => [.str w]), []) := by
  refine enter rfl func168 rfl (by decide) (by kernel_rfl) rfl rfl ?_
  repeat (first | refine WX.step tab_eq rfl rfl trivial ?_ | refine WX.step tab_eq rfl rfl (by decide) ?_ | refine WX.nil ?_ | refine W.seq ?_ | refine W.region ?_ | refine W.regionD ?_ | refine W.block ?_ | refine W.skip ?_ | refine W.exit ?_ | refine W.ret ?_ | refine W.condT rfl ?_ | refine W.condF rfl ?_ | refine WX.skip rfl ?_)
  rfl
theorem in_T (ws : List Bs) (s : Bs) (hl : ws.length < 4611686018427387904) : T (k + 1) 167 [.imm 1 (ws.map fun w => [.str w]), .str s] = some (.bool (ws.contains s), []) := by
  refine enter rfl func167 rfl (by decide) (by kernel_rfl) rfl rfl ?_
  repeat (first | refine WX.step tab_eq rfl rfl trivial ?_ | refine WX.step tab_eq rfl rfl (by decide) ?_ | refine WX.nil ?_ | refine W.seq ?_ | refine W.region ?_ | refine W.regionD ?_ | refine W.block ?_ | refine W.skip ?_ | refine W.exit ?_ | refine W.ret ?_ | refine W.condT rfl ?_ | refine W.condF rfl ?_ | refine WX.skip rfl ?_)
  refine W.loop (fun e m => ∃ (i : Nat), e = [(0, .imm 1 (ws.map fun w => [.str w])), (1, .str s), (5, .int .i64 i)] ∧ i ≤ ws.length ∧ (ws.take i).contains s = false ∧ m = ws.length - i) ws.length ?_ ?_ ?_
  · exact ⟨0, rfl, by omega, by simp, by omega⟩
  · show _ < 4611686018427387904; omega
  · rintro e m ⟨i, rfl, hi, hc, rfl⟩
    repeat (first | refine WX.step tab_eq rfl rfl trivial ?_ | refine WX.step tab_eq rfl rfl (by decide) ?_ | refine WX.nil ?_ | refine W.seq ?_ | refine W.region ?_ | refine W.regionD ?_ | refine W.block ?_ | refine W.skip ?_ | refine W.exit ?_ | refine W.ret ?_ | refine W.condT rfl ?_ | refine W.condF rfl ?_ | refine WX.skip rfl ?_)
    rw [List.length_map]
    refine W.cond rfl (fun hlt => ?_) (fun hlt => ?_)
    · have hlt := of_decide_eq_true hlt
      have hg : (ws.map fun w => [PV.str w])[((i : Int)).toNat]? = some [.str (ws[i]'(by omega))] := by
        rw [Int.toNat_natCast, List.getElem?_map, List.getElem?_eq_getElem (by omega)]; rfl
      have ht : ws.take (i + 1) = ws.take i ++ [ws[i]'(by omega)] := List.take_succ_eq_append_getElem (by omega)
      repeat (first | refine WX.step tab_eq rfl rfl trivial ?_ | refine WX.step tab_eq rfl rfl (by decide) ?_ | refine WX.nil ?_ | refine W.seq ?_ | refine W.region ?_ | refine W.regionD ?_ | refine W.block ?_ | refine W.skip ?_ | refine W.exit ?_ | refine W.ret ?_ | refine W.condT rfl ?_ | refine W.condF rfl ?_ | refine WX.skip rfl ?_)
      refine WX.idxImm tab_eq rfl rfl rfl rfl rfl rfl (by omega) (hg) ?_
      repeat (first | refine WX.step tab_eq rfl rfl trivial ?_ | refine WX.step tab_eq rfl rfl (by decide) ?_ | refine WX.nil ?_ | refine W.seq ?_ | refine W.region ?_ | refine W.regionD ?_ | refine W.block ?_ | refine W.skip ?_ | refine W.exit ?_ | refine W.ret ?_ | refine W.condT rfl ?_ | refine W.condF rfl ?_ | refine WX.skip rfl ?_)
      refine W.cond rfl (fun b1 => ?_) (fun b1 => ?_)
      · have b1 : ws[i]'(by omega) = s := of_decide_eq_true b1
        repeat (first | refine WX.step tab_eq rfl rfl trivial ?_ | refine WX.step tab_eq rfl rfl (by decide) ?_ | refine WX.nil ?_ | refine W.seq ?_ | refine W.region ?_ | refine W.regionD ?_ | refine W.block ?_ | refine W.skip ?_ | refine W.exit ?_ | refine W.ret ?_ | refine W.condT rfl ?_ | refine W.condF rfl ?_ | refine WX.skip rfl ?_)
        (refine (congrArg (fun b => some (PV.bool b, [])) ?_ : some (PV.bool _, []) = some (PV.bool _, [])); (symm; rw [List.contains_iff_mem, ← b1]; exact List.getElem_mem _))
      · have b1 : ws[i]'(by omega) ≠ s := of_decide_eq_false b1
        repeat (first | refine WX.step tab_eq rfl rfl trivial ?_ | refine WX.step tab_eq rfl rfl (by decide) ?_ | refine WX.nil ?_ | refine W.seq ?_ | refine W.region ?_ | refine W.regionD ?_ | refine W.block ?_ | refine W.skip ?_ | refine W.exit ?_ | refine W.ret ?_ | refine W.condT rfl ?_ | refine W.condF rfl ?_ | refine WX.skip rfl ?_)
        rw [wrap_i64 (x := (i : Int) + 1) (by omega) (by omega)]
        show ∃ m', _
        refine ⟨ws.length - (i + 1), by omega, i + 1, rfl, by omega, ?_, rfl⟩
        rw [ht, List.contains_append, hc]
        simp [Ne.symm b1]
    · have hlt := of_decide_eq_false hlt
      rw [List.take_of_length_le (by omega)] at hc
      repeat (first | refine WX.step tab_eq rfl rfl trivial ?_ | refine WX.step tab_eq rfl rfl (by decide) ?_ | refine WX.nil ?_ | refine W.seq ?_ | refine W.region ?_ | refine W.regionD ?_ | refine W.block ?_ | refine W.skip ?_ | refine W.exit ?_ | refine W.ret ?_ | refine W.condT rfl ?_ | refine W.condF rfl ?_ | refine WX.skip rfl ?_)
      (refine (congrArg (fun b => some (PV.bool b, [])) ?_ : some (PV.bool _, []) = some (PV.bool _, [])); exact hc.symm)
end Go.PE
