/-
  A part of the proof that the law's function returns true and leaves its arguments as they were, for every input (no condition): own lemmas of the proof, in the order of their use.
-/
import Derived.Test.YtggpmnlmbfogeaaGreatDoorW54
import Derived.Test.YtggpmnlmbfogeaaGreatDoorW55
set_option linter.all false
namespace Go.PE
open Go.RowKit Go.Proofs.Tryz
set_option maxRecDepth 100000
variable {k : Nat}
theorem drop_cons {a : List QT} {i : Nat} (h : i < a.length) : a.drop i = a.getD i ([], 0) :: a.drop (i + 1) := by
  rw [List.drop_eq_getElem_cons h]
  simp [List.getD, List.getElem?_eq_getElem h]
theorem tx_snoc (acc : List QT) (u : QT) : (trow (tx acc)).take (trow (tx acc)).length ++ [[PV.str u.1, .str (rs u.2)]] = trow (tx (acc ++ [u])) := by
  rw [List.take_length]; simp [trow, tx]
theorem idx_eq {i : Nat} {n : Nat} : ((i : Int) < (n : Int)) ↔ i < n := by omega
set_option maxHeartbeats 3200000 in
theorem addC_T (f g : FuncId) (hfg : (f = 109 ∧ g = 53) ∨ (f = 110 ∧ g = 94)) (kd kd' : Int) (a b : List QT) (p q : Rat) (h0 : T k g [.str (rs p), .str (rs q)] = some (.str (rs (p + q)), []))
    (hadd : ∀ u ∈ a, ∀ v ∈ b, T k g [.str (rs u.2), .str (rs v.2)] = some (.str (rs (u.2 + v.2)), [])) (hla : a.length < 268435456) (hlb : b.length < 268435456) :
    T (k + 1) f [linP kd a p, linP kd' b q] = some (linP kd (addU a b) (p + q), []) := by
  rcases hfg with ⟨rfl, rfl⟩ | ⟨rfl, rfl⟩
  all_goals
    first
    | refine enter rfl func109 rfl (by decide) (by kernel_rfl) rfl rfl ?_
    | refine enter rfl func110 rfl (by decide) (by kernel_rfl) rfl rfl ?_
    refine zd1 h0 ?_
    refine W.loop (fun e m => ∃ (i j : Nat) (acc : List QT), e = [(2, .box (0, 0) [.int .i64 kd, .imm 2 (trow (tx a)), .str (rs p)]), (3, .box (0, 0) [.int .i64 kd', .imm 2 (trow (tx b)), .str (rs q)]), (4, .box (0, 0) [.int .i64 0, .own (0, 0) 2 [], .str []]), (5, .box (0, 0) [.int .i64 kd, .own (0, 0) 2 (trow (tx acc)), .str (rs (p + q))]), (6, .int .i64 i), (7, .int .i64 j)] ∧
      i ≤ a.length ∧ j ≤ b.length ∧ acc ++ addU (a.drop i) (b.drop j) = addU a b ∧ acc.length ≤ i + j ∧ m = (a.length - i) + (b.length - j)) (a.length + b.length) ?_ ?_ ?_
    · exact ⟨0, 0, [], rfl, by omega, by omega, rfl, by simp, by omega⟩
    · show _ < 4611686018427387904; omega
    · rintro e m ⟨i, j, acc, rfl, hi, hj, hacc, hal, rfl⟩
      refine zs0 ?_
      refine WX.boolM rfl rfl (fun c1 => ?_) (fun c1 => ?_)
      · have c1 := of_decide_eq_true c1
        rw [trow_len, tx_len, idx_eq] at c1
        have ha := tx_get (us := a) (i := i) c1
        rw [drop_cons c1] at hacc
        generalize hu : a.getD i ([], 0) = u at *
        have hum : u ∈ a := hu ▸ getD_mem c1
        refine zd8 ?_
        refine WX.boolMD rfl rfl (fun c2 => ?_) (fun c2 => ?_)
        · have c2 := of_decide_eq_true c2
          rw [trow_len, tx_len] at c2
          have c2 : j = b.length := by omega
          subst c2
          refine zd7 ?_
          refine zd0 ?_
          refine WX.idxImmD tab_eq rfl rfl rfl rfl rfl rfl (by omega) (ha) ?_
          refine zd0 ?_
          refine WX.stepD tab_eq rfl rfl (by simp [trow_len, tx_len]; omega) ?_
          refine zd7 ?_
          rw [wrap_i64 (x := (i : Int) + 1) (by omega) (by omega)]
          show ∃ m', _
          refine ⟨(a.length - (i + 1)) + (b.length - b.length), by omega, i + 1, b.length, acc ++ [u], ?_, by omega, by omega, ?_, by simp; omega, rfl⟩
          · rw [← tx_snoc]
            rfl
          · rw [← hacc, List.drop_length, addU_nil, addU_nil, List.append_assoc]; rfl
        · have c2 := of_decide_eq_false c2
          rw [trow_len, tx_len] at c2
          have c2 : j < b.length := by omega
          have hb := tx_get (us := b) (i := j) c2
          rw [drop_cons c2] at hacc
          generalize hv : b.getD j ([], 0) = v at *
          have hvm : v ∈ b := hv ▸ getD_mem c2
          refine zd0 ?_
          refine WX.boolMD rfl rfl (fun c3 => ?_) (fun c3 => ?_)
          · refine zd0 ?_
            refine WX.idxImmD tab_eq rfl rfl rfl rfl rfl rfl (by omega) (ha) ?_
            refine zd0 ?_
            refine WX.idxImmD tab_eq rfl rfl rfl rfl rfl rfl (by omega) (hb) ?_
            refine zd7 ?_
            refine W.cond rfl (fun c4 => ?_) (fun c4 => ?_)
            · rw [addU_lt c4] at hacc
              refine zd8 ?_
              refine WX.idxImmD tab_eq rfl rfl rfl rfl rfl rfl (by omega) (ha) ?_
              refine zd0 ?_
              refine WX.stepD tab_eq rfl rfl (by simp [trow_len, tx_len]; omega) ?_
              refine zd7 ?_
              rw [wrap_i64 (x := (i : Int) + 1) (by omega) (by omega)]
              show ∃ m', _
              refine ⟨(a.length - (i + 1)) + (b.length - j), by omega, i + 1, j, acc ++ [u], ?_, by omega, by omega, ?_, by simp; omega, rfl⟩
              · rw [← tx_snoc]
                rfl
              · rw [← hacc, drop_cons c2, hv, List.append_assoc]; rfl
            · refine zd8 ?_
              refine WX.boolMD rfl rfl (fun c5 => ?_) (fun c5 => ?_)
              · have c5 := of_decide_eq_true c5
                rw [trow_len, tx_len] at c5
                exact absurd c5 (by omega)
              · refine zd0 ?_
                refine WX.idxImmD tab_eq rfl rfl rfl rfl rfl rfl (by omega) (hb) ?_
                refine zd0 ?_
                refine WX.idxImmD tab_eq rfl rfl rfl rfl rfl rfl (by omega) (ha) ?_
                refine zd7 ?_
                refine W.cond rfl (fun c6 => ?_) (fun c6 => ?_)
                · rw [addU_gt c6] at hacc
                  refine zd8 ?_
                  refine WX.idxImmD tab_eq rfl rfl rfl rfl rfl rfl (by omega) (hb) ?_
                  refine zd0 ?_
                  refine WX.stepD tab_eq rfl rfl (by simp [trow_len, tx_len]; omega) ?_
                  refine zd7 ?_
                  rw [wrap_i64 (x := (j : Int) + 1) (by omega) (by omega)]
                  show ∃ m', _
                  refine ⟨(a.length - i) + (b.length - (j + 1)), by omega, i, j + 1, acc ++ [v], ?_, by omega, by omega, ?_, by simp; omega, rfl⟩
                  · rw [← tx_snoc]
                    rfl
                  · rw [← hacc, drop_cons c1, hu, List.append_assoc]; rfl
                · have c4 : Op.bytesLess u.1 v.1 = false := c4
                  have c6 : Op.bytesLess v.1 u.1 = false := c6
                  have he := lss_tri (a := u.1) (b := v.1) (by unfold lss; rw [c4]; decide) (by unfold lss; rw [c6]; decide)
                  have hs := hadd u hum v hvm
                  rw [addU_eq he] at hacc
                  refine zd8 ?_
                  refine WX.idxImmD tab_eq rfl rfl rfl rfl rfl rfl (by omega) (ha) ?_
                  refine zd0 ?_
                  refine WX.idxImmD tab_eq rfl rfl rfl rfl rfl rfl (by omega) (hb) ?_
                  refine zd6 hs ?_
                  refine W.cond rfl (fun c7 => ?_) (fun c7 => ?_)
                  · have c7 : u.2 + v.2 ≠ 0 := fun e => of_decide_eq_true c7 ((rs_is0 _).2 e)
                    rw [if_neg c7] at hacc
                    refine zd8 ?_
                    refine WX.idxImmD tab_eq rfl rfl rfl rfl rfl rfl (by omega) (ha) ?_
                    refine zd0 ?_
                    refine WX.stepD tab_eq rfl rfl (by simp [trow_len, tx_len]; omega) ?_
                    refine zd7 ?_
                    rw [wrap_i64 (x := (i : Int) + 1) (by omega) (by omega), wrap_i64 (x := (j : Int) + 1) (by omega) (by omega)]
                    show ∃ m', _
                    refine ⟨(a.length - (i + 1)) + (b.length - (j + 1)), by omega, i + 1, j + 1, acc ++ [(u.1, u.2 + v.2)], ?_, by omega, by omega, ?_, by simp; omega, rfl⟩
                    · rw [← tx_snoc]
                      rfl
                    · rw [← hacc, List.append_assoc]; rfl
                  · have c7 : u.2 + v.2 = 0 := (rs_is0 _).1 (Classical.not_not.1 (of_decide_eq_false c7))
                    rw [if_pos c7] at hacc
                    refine zs0 ?_
                    rw [wrap_i64 (x := (i : Int) + 1) (by omega) (by omega), wrap_i64 (x := (j : Int) + 1) (by omega) (by omega)]
                    show ∃ m', _
                    exact ⟨(a.length - (i + 1)) + (b.length - (j + 1)), by omega, i + 1, j + 1, acc, rfl, by omega, by omega, hacc, by omega, rfl⟩
          · have c3 := of_decide_eq_false c3
            rw [trow_len, tx_len] at c3
            exact absurd c3 (by omega)
      · have c1 := of_decide_eq_false c1
        rw [trow_len, tx_len] at c1
        have c1 : i = a.length := by omega
        subst c1
        rw [List.drop_length, nil_addU] at hacc
        refine zs0 ?_
        refine W.cond rfl (fun c2 => ?_) (fun c2 => ?_)
        · have c2 := of_decide_eq_true c2
          rw [trow_len, tx_len, idx_eq] at c2
          have hb := tx_get (us := b) (i := j) c2
          rw [drop_cons c2] at hacc
          generalize hv : b.getD j ([], 0) = v at *
          refine zd8 ?_
          refine WX.boolMD rfl rfl (fun c3 => ?_) (fun c3 => ?_)
          · have c3 := of_decide_eq_true c3
            rw [trow_len, tx_len] at c3
            exact absurd c3 (by omega)
          · refine zd0 ?_
            refine WX.boolMD rfl rfl (fun c4 => ?_) (fun c4 => ?_)
            · have c4 := of_decide_eq_true c4
              rw [trow_len, tx_len] at c4
              exact absurd c4 (by omega)
            · refine zd7 ?_
              refine zd0 ?_
              refine WX.boolMD rfl rfl (fun c5 => ?_) (fun c5 => ?_)
              · refine zd7 ?_
                refine zd0 ?_
                refine WX.idxImmD tab_eq rfl rfl rfl rfl rfl rfl (by omega) (hb) ?_
                refine zd0 ?_
                refine WX.stepD tab_eq rfl rfl (by simp [trow_len, tx_len]; omega) ?_
                refine zd7 ?_
                rw [wrap_i64 (x := (j : Int) + 1) (by omega) (by omega)]
                show ∃ m', _
                refine ⟨(a.length - a.length) + (b.length - (j + 1)), by omega, a.length, j + 1, acc ++ [v], ?_, by omega, by omega, ?_, by simp; omega, rfl⟩
                · rw [← tx_snoc]
                  rfl
                · rw [← hacc, List.drop_length, nil_addU, List.append_assoc]; rfl
              · have c5 := of_decide_eq_false c5
                rw [trow_len, tx_len] at c5
                exact absurd c5 (by omega)
        · have c2 := of_decide_eq_false c2
          rw [trow_len, tx_len, idx_eq] at c2
          have c2 : j = b.length := by omega
          subst c2
          rw [List.drop_length, List.append_nil] at hacc
          subst hacc
          refine zs0 ?_
          rfl
end Go.PE
