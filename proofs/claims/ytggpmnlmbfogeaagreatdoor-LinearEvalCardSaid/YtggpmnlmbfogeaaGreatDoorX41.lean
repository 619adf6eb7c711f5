/-
  A part of the proof that the law's function returns true and leaves its arguments as they were, for every input (no condition): own lemmas of the proof, in the order of their use.
-/
import Derived.Test.YtggpmnlmbfogeaaGreatDoorX40
set_option linter.all false
namespace Go.PE
open Go.RowKit Go.Proofs.Tryz
set_option maxRecDepth 100000
variable {k : Nat}
theorem erow_drop (es : List Bq) (j : Nat) : (erow es).drop j = erow (es.drop j) := by
 unfold erow
 rw [List.map_drop]
theorem erow_set (es : List Bq) (j : Nat) (e : Bq) : (erow es).set j (bcell e) = erow (es.set j e) := by
 unfold erow
 rw [List.map_set]
theorem both_eval {rel kd : Int} {us : List QT} {q : Rat} {m : Bs} {M : Nat} {es : List Bq} (hk : kd = 2 ∨ kd = 3) (hu : okU us) (hg : goodU us) (hl : us.length ≤ 4) (hq : szQ q 1000) (hm : okM rel kd m M) (hes : es.length < 1000000) (he : ∀ e ∈ es, okB e) :
  ∃ (w : Bs) (e : Int) (b : Bool) (f : Int), T 20 45 [linP kd us q, .imm 6 (erow es)] = some (.tup [.str w, .int .i64 e], []) ∧ T 20 46 [linP kd us q, .imm 6 (erow es)] = some (.tup [.str w, .int .i64 e], []) ∧
   T 20 47 [conQ rel kd us q m, .imm 6 (erow es)] = some (.tup [.bool b, .int .i64 f], []) ∧ T 20 48 [conQ rel kd us q m, .imm 6 (erow es)] = some (.tup [.bool b, .int .i64 f], []) := by
 have g1 := eval_T (k := 8) hk hu hl (fun u h => (hg.2 u h).1) hq (by omega) hes he
 have h1 : T 20 45 [linP kd us q, .imm 6 (erow es)] = _ := g1
 have g2 := reval_T (k := 8) hk hu hl (fun u h => (hg.2 u h).1) hq (by omega) hes he
 have h2 : T 20 46 [linP kd us q, .imm 6 (erow es)] = _ := g2
 rcases evL_cases (kd := kd) (es := es) he (A := 1000) us q 0 (fun u h => (hg.2 u h).1) hq with ⟨v, hv, hz⟩ | ⟨e, h0, hv⟩
 ·have hz2 : szQ v 100000 := hz.mono (by have := bdL_le 1000 1000 (show 0 + us.length ≤ 4 by omega); omega)
  have g3 := holds_T (k := 6) hk hu hg hl hq hm hes he hv hz2
  have h3 : T 20 47 [conQ rel kd us q m, .imm 6 (erow es)] = _ := g3
  have g4 := rholds_T (k := 6) hk hu hg hl hq hm hes he hv hz2
  have h4 : T 20 48 [conQ rel kd us q m, .imm 6 (erow es)] = _ := g4
  exact ⟨_, _, _, _, h1, h2, h3, h4⟩
 ·have g3 := holdsE_T (k := 6) hk hu hg hl hq hm hes he hv h0
  have h3 : T 20 47 [conQ rel kd us q m, .imm 6 (erow es)] = _ := g3
  have g4 := rholdsE_T (k := 6) hk hu hg hl hq hm hes he hv h0
  have h4 : T 20 48 [conQ rel kd us q m, .imm 6 (erow es)] = _ := g4
  exact ⟨_, _, _, _, h1, h2, h3, h4⟩
set_option maxHeartbeats 3200000 in
theorem law9_T (l n : List Int) (s ct : Int) (hl : l.length ≤ 4611686018427387000) (hn : n.length ≤ 4611686018427387000) (aw : T 20 18 [] = some (.bool true, [])) :
  T 21 9 [.imm 1 (zrow l), .imm 1 (zrow n), .int .i64 s, .int .i64 ct] = some (.bool true, []) := by
 obtain ⟨rel, kd, us, q, m, M, hG, hu, hl4, hs, hq, hk, hm, hml⟩ := conG_ex (l.take 400, 0)
 have hc0 : okCh (l.take 400, 0) := ⟨by simp only [List.length_take]; omega, by simp only; omega⟩
 have g1 := new_T (k := 19) l (by omega)
 have g2 := conG_T (k := 9) (l.take 400, 0) hc0
 rw [hG] at g2
 generalize (conG (l.take 400, 0)).2 = C2 at g2
 have g2 : T 20 20 [.box (0, 0) (chC (l.take 400, 0))] = some (conQ rel kd us q m, [chC C2]) := g2
 have g3 := new_T (k := 19) n (by omega)
 have b1 := modV_lt s 2 (by omega) (by omega)
 have b2 := modV_lt ct 3 (by omega) (by omega)
 have m1 := mod_T (k := 19) s 2 (by omega) (by omega)
 have m2 := mod_T (k := 19) ct 3 (by omega) (by omega)
 have m3 := mod_T (k := 19) ct 5 (by omega) (by omega)
 obtain ⟨es, C3, hv, he, g4⟩ := envQ_T n (kd := 2 + modV s 2) (by omega)
 generalize modV s 2 = x1 at *
 obtain ⟨j, hj, hj3⟩ : ∃ j : Nat, modV ct 3 = (j : Int) ∧ j < 3 := ⟨(modV ct 3).toNat, by omega, by omega⟩
 rw [hj] at m2
 generalize modV ct 5 = x3 at *
 have hes : es.length = 4 := by have := congrArg List.length hv; simpa [vars] using this
 refine enter rfl func9 rfl (by decide) (by kernel_rfl) rfl rfl ?_
 refine zs1 g1 ?_
 refine zs2 g2 ?_
 refine zs2 g3 ?_
 refine zs2 m1 ?_
 rw [wrap_i64 (x := 2 + x1) (by omega) (by omega)]
 refine zs2 g4 ?_
 refine zs2 m2 ?_
 refine WX.step tab_eq rfl rfl (by rw [erow_len, hes]; omega) ?_
 refine zs1 m3 ?_
 have hg : goodU us := ⟨by omega, fun u h => ⟨(hs u h).mono (by omega), (hu.1 u h).2⟩⟩
 have hq2 : szQ q 1000 := hq.mono (by omega)
 have hjl : j < es.length := by omega
 refine W.cond rfl (fun c1 => ?_) (fun c1 => ?_)
 ·have hget : (erow es)[0 + (j : Int).toNat + (0 : Int).toNat]? = some (bcell (es.getD j ([], 1, 0))) := by
   rw [Nat.zero_add, Int.toNat_natCast]
   exact erow_get hjl
  have hm0 : es.getD j ([], 1, 0) ∈ es := by simp [List.getD, List.getElem?_eq_getElem hjl]
  generalize es.getD j ([], 1, 0) = e0 at *
  have hz0 : szQ (0 : Rat) 1000 := szZ (a := 0) (by rw [show (0 : Int).natAbs = 0 from rfl, dec_zero]; simp)
  obtain ⟨w, e, b, f, f1, f2, f3, f4⟩ := both_eval (es := (es.set j (e0.1, 1, 0)).drop j) hk hu hg hl4 hq2 hm (by simp only [List.length_drop, List.length_set]; omega) fun x hx => by
   rcases List.mem_or_eq_of_mem_set (List.mem_of_mem_drop hx) with h | rfl
   ·exact (he x h).1
   ·exact ⟨.inl rfl, hz0⟩
  have E : ((((erow es).set (0 + (j : Int).toNat + (0 : Int).toNat) (bcell (e0.1, 1, 0))).drop (0 + (j : Int).toNat)).take ((erow es).length - (j : Int).toNat)) = erow ((es.set j (e0.1, 1, 0)).drop j) := by
   rw [Nat.zero_add, Int.toNat_natCast, erow_len, show j + (0 : Int).toNat = j from rfl, erow_set, erow_drop, List.take_of_length_le (by rw [erow_len, List.length_drop, List.length_set]; omega)]
  unfold bcell at hget E
  refine zs0 ?_
  refine WX.step tab_eq rfl rfl (by rw [erow_len, hes]; omega) ?_
  refine zs0 ?_
  refine WX.stElem tab_eq rfl rfl rfl (hget) rfl rfl rfl ?_
  refine zs0 ?_
  refine WX.call tab_eq rfl rfl rfl rfl rfl (viaA (f1) (congrArg (fun x => [linP kd us q, PV.imm 6 x]) E)) rfl rfl ?_
  refine zs0 ?_
  refine WX.call tab_eq rfl rfl rfl rfl rfl (viaA (f2) (congrArg (fun x => [linP kd us q, PV.imm 6 x]) E)) rfl rfl ?_
  refine zs0 ?_
  refine WX.call tab_eq rfl rfl rfl rfl rfl (viaA (f3) (congrArg (fun x => [conQ rel kd us q m, PV.imm 6 x]) E)) rfl rfl ?_
  refine zs0 ?_
  refine WX.call tab_eq rfl rfl rfl rfl rfl (viaA (f4) (congrArg (fun x => [conQ rel kd us q m, PV.imm 6 x]) E)) rfl rfl ?_
  refine zs0 ?_
  refine WX.boolM rfl rfl (fun c2 => ?_) (fun c2 => ?_)
  ·refine zs0 ?_
   refine WX.boolM rfl rfl (fun c3 => ?_) (fun c3 => ?_)
   ·refine zs0 ?_
    refine WX.boolM rfl rfl (fun c4 => ?_) (fun c4 => ?_)
    ·refine zs0 ?_
     refine WX.moveB rfl rfl ?_
     refine WX.moveB rfl rfl ?_
     refine zs0 ?_
     refine WX.boolM rfl rfl (fun c5 => ?_) (fun c5 => ?_)
     ·refine zs1 aw ?_
      rfl
     ·cases b <;> cases c5
    ·exact absurd rfl (of_decide_eq_false c4)
   ·exact absurd rfl (of_decide_eq_false c3)
  ·exact absurd rfl (of_decide_eq_false c2)
 ·obtain ⟨w, e, b, f, f1, f2, f3, f4⟩ := both_eval (es := es.drop j) hk hu hg hl4 hq2 hm (by simp only [List.length_drop]; omega) fun x hx => (he x (List.mem_of_mem_drop hx)).1
  have E : (((erow es).drop (0 + (j : Int).toNat)).take ((erow es).length - (j : Int).toNat)) = erow (es.drop j) := by
   rw [Nat.zero_add, Int.toNat_natCast, erow_len, erow_drop, List.take_of_length_le (by rw [erow_len, List.length_drop]; omega)]
  refine zs0 ?_
  refine WX.call tab_eq rfl rfl rfl rfl rfl (viaA (f1) (congrArg (fun x => [linP kd us q, PV.imm 6 x]) E)) rfl rfl ?_
  refine zs0 ?_
  refine WX.call tab_eq rfl rfl rfl rfl rfl (viaA (f2) (congrArg (fun x => [linP kd us q, PV.imm 6 x]) E)) rfl rfl ?_
  refine zs0 ?_
  refine WX.call tab_eq rfl rfl rfl rfl rfl (viaA (f3) (congrArg (fun x => [conQ rel kd us q m, PV.imm 6 x]) E)) rfl rfl ?_
  refine zs0 ?_
  refine WX.call tab_eq rfl rfl rfl rfl rfl (viaA (f4) (congrArg (fun x => [conQ rel kd us q m, PV.imm 6 x]) E)) rfl rfl ?_
  refine zs0 ?_
  refine WX.boolM rfl rfl (fun c2 => ?_) (fun c2 => ?_)
  ·refine zs0 ?_
   refine WX.boolM rfl rfl (fun c3 => ?_) (fun c3 => ?_)
   ·refine zs0 ?_
    refine WX.boolM rfl rfl (fun c4 => ?_) (fun c4 => ?_)
    ·refine zs0 ?_
     refine WX.moveB rfl rfl ?_
     refine WX.moveB rfl rfl ?_
     refine zs0 ?_
     refine WX.boolM rfl rfl (fun c5 => ?_) (fun c5 => ?_)
     ·refine zs1 aw ?_
      rfl
     ·cases b <;> cases c5
    ·exact absurd rfl (of_decide_eq_false c4)
   ·exact absurd rfl (of_decide_eq_false c3)
  ·exact absurd rfl (of_decide_eq_false c2)
end Go.PE
