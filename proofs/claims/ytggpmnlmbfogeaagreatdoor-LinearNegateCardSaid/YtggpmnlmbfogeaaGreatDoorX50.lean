/-
  A part of the proof that the law's function returns true and leaves its arguments as they were, for every input (no condition): own lemmas of the proof, in the order of their use.
-/
import Derived.Test.YtggpmnlmbfogeaaGreatDoorX45
set_option linter.all false
namespace Go.PE
open Go.RowKit Go.Proofs.Tryz
set_option maxRecDepth 100000
variable {k : Nat}
def negI (kd : Int) (es : List Bq) (cell : List PV) (b : Bool) : Prop := ∃ (r : Int) (us : List QT) (q : Rat) (m : Bs), cell = ccell r kd us q m ∧
 T 20 28 [.agg (ccell r kd us q m), .agg (ccell r kd us q m)] = some (.bool true, []) ∧ T 20 49 [.agg (ccell r kd us q m), .imm 6 (erow es)] = some (.tup [.bool b, .bool true], [])
theorem negI_of {rel kd : Int} {us : List QT} {q : Rat} {m : Bs} {M : Nat} {es : List Bq} (hk : kd = 2 ∨ kd = 3) (hu : okU us) (hg : goodU us) (hl : us.length ≤ 4) (hq : szQ q 1000) (hm : okM rel kd m M) (hn : es.map (·.1) = vars) (he : ∀ e ∈ es, okB e ∧ e.2.1 = kd) (hv : ∀ u ∈ us, u.1 ∈ vars) :
  negI kd es (ccell rel kd us q m) (holdQ rel (q + sumQ us (fE es)) M) :=
 ⟨rel, us, q, m, rfl, sameCon_T (k := 18) rel kd (tx us) (rs q) m (by rw [tx_len]; omega), holdsV_T (k := 5) hk hu hg hl hq hm hn he hv⟩
def cntB (bs : List Bool) : Nat := (bs.filter id).length
theorem neg_all {rel kd : Int} {us : List QT} {q : Rat} {m : Bs} {M : Nat} {es : List Bq} (hk : kd = 2 ∨ kd = 3) (hu : okU us) (hl : us.length ≤ 4) (hs : ∀ u ∈ us, szQ u.2 100) (hq : szQ q 100) (hm : okM rel kd m M) (hn : es.map (·.1) = vars) (he : ∀ e ∈ es, okB e ∧ e.2.1 = kd) (hv : ∀ u ∈ us, u.1 ∈ vars) :
  ∃ bs : List Bool, bs.length = (negL rel kd us q m).length ∧ (∀ i, i < bs.length → negI kd es ((negL rel kd us q m).getD i []) (bs.getD i false)) ∧ cntB (holdQ rel (q + sumQ us (fE es)) M :: bs) = 1 := by
 have hg : goodU us := ⟨by omega, fun u h => ⟨(hs u h).mono (by omega), (hu.1 u h).2⟩⟩
 have hu2 := okU_mul hu (show (-1 : Rat) ≠ 0 by decide)
 have hg2 : goodU (mulU us (-1)) := ⟨by rw [mulU_len]; omega, fun v h => by
  obtain ⟨u, h2, rfl⟩ := mulU_mem h
  exact ⟨(szQ_mul (hs u h2) m1_sz).mono (by omega), (hu2.1 _ h).2⟩⟩
 have hl2 : (mulU us (-1)).length ≤ 4 := by rw [mulU_len]; exact hl
 have hq2 : szQ (q * -1) 1000 := (szQ_mul hq m1_sz).mono (by omega)
 have hv2 : ∀ v ∈ mulU us (-1), v.1 ∈ vars := fun v h => by
  obtain ⟨u, h2, rfl⟩ := mulU_mem h
  exact hv u h2
 have hM1 : okM 1 kd [] 0 := .inl ⟨rfl, .inl rfl⟩
 have hM2 : okM 2 kd [] 0 := .inl ⟨rfl, .inr (.inl rfl)⟩
 have n1 := negI_of hk hu2 hg2 hl2 hq2 hM1 hn he hv2
 have n2 := negI_of hk hu2 hg2 hl2 hq2 hM2 hn he hv2
 have n3 := negI_of hk hu hg hl (hq.mono (by omega)) hM2 hn he hv
 rw [sumQ_neg] at n1 n2
 generalize hx : q + sumQ us (fE es) = v at *
 have one : ∀ {c : List PV} {b : Bool}, negI kd es c b → ∀ i, i < [b].length → negI kd es ([c].getD i []) ([b].getD i false) := by
  intro c b h i hi
  have : i = 0 := by simpa using hi
  subst this
  exact h
 rcases hm with ⟨rfl, rfl | rfl | rfl⟩ | ⟨rfl, hr, hM0, rfl, hM⟩
 ·refine ⟨[holdQ 2 (-v) 0], rfl, one n2, ?_⟩
  rw [hold1, hold2]
  by_cases h : v ≤ 0
  ·rw [decide_eq_true h, decide_eq_false (by grind)]; rfl
  ·rw [decide_eq_false h, decide_eq_true (by grind)]; rfl
 ·refine ⟨[holdQ 1 (-v) 0], rfl, one n1, ?_⟩
  rw [hold1, hold2]
  by_cases h : v < 0
  ·rw [decide_eq_true h, decide_eq_false (by grind)]; rfl
  ·rw [decide_eq_false h, decide_eq_true (by grind)]; rfl
 ·refine ⟨[holdQ 2 v 0, holdQ 2 (-v) 0], rfl, ?_, ?_⟩
  ·intro i hi
   have : i = 0 ∨ i = 1 := by
    simp only [List.length_cons, List.length_nil] at hi
    omega
   rcases this with rfl | rfl
   ·exact n3
   ·exact n2
  ·rw [hold2, hold2, hold3]
   by_cases h : v = 0
   ·rw [decide_eq_true h, decide_eq_false (by grind), decide_eq_false (by grind)]; rfl
   ·by_cases h2 : v < 0
    ·rw [decide_eq_false h, decide_eq_true h2, decide_eq_false (by grind)]; rfl
    ·rw [decide_eq_false h, decide_eq_false h2, decide_eq_true (by grind)]; rfl
 ·have hm5 : okM 5 2 (rs ((M : Int) : Rat)) M := .inr ⟨rfl, .inr rfl, hM0, rfl, hM⟩
  have hm4 : okM 4 2 (rs ((M : Int) : Rat)) M := .inr ⟨rfl, .inl rfl, hM0, rfl, hM⟩
  have n4 := negI_of hk hu hg hl (hq.mono (by omega)) hm4 hn he hv
  have n5 := negI_of hk hu hg hl (hq.mono (by omega)) hm5 hn he hv
  rw [hx] at n4 n5
  have e : ∀ X : Bool, cntB [X == true, X == false] = 1 ∧ cntB [X == false, X == true] = 1 := by decide
  rcases hr with rfl | rfl
  ·exact ⟨[holdQ 5 v M], rfl, one n5, (e _).1⟩
  ·exact ⟨[holdQ 4 v M], rfl, one n4, (e _).2⟩
end Go.PE
namespace Go.PE
open Go.RowKit Go.Proofs.Tryz
set_option maxRecDepth 100000
variable {k : Nat}
theorem cnt_snoc {bs : List Bool} {i : Nat} (h : i < bs.length) : cntB (bs.take (i + 1)) = cntB (bs.take i) + (if bs.getD i false = true then 1 else 0) := by
 rw [take_snocG (d := false) h]
 unfold cntB
 rw [List.filter_append, List.length_append]
 cases bs.getD i false <;> rfl
theorem negL_len (rel kd : Int) (us : List QT) (q : Rat) (m : Bs) : (negL rel kd us q m).length ≤ 2 := by
 unfold negL
 repeat' split
 all_goals simp
set_option maxHeartbeats 3200000 in
theorem law11_T (l n : List Int) (hl : l.length ≤ 4611686018427387000) (hn : n.length ≤ 4611686018427387000) (aw : T 20 18 [] = some (.bool true, [])) :
  T 21 11 [.imm 1 (zrow l), .imm 1 (zrow n)] = some (.bool true, []) := by
 obtain ⟨rel, kd, us, q, m, M, hG, hu, hl4, hs, hq, hk, hm, hml⟩ := conG_ex (l.take 400, 0)
 have hv := conG_nm (l.take 400, 0) hG
 have hc0 : okCh (l.take 400, 0) := ⟨by simp only [List.length_take]; omega, by simp only; omega⟩
 have g1 := new_T (k := 19) l (by omega)
 have g2 := conG_T (k := 9) (l.take 400, 0) hc0
 rw [hG] at g2
 generalize (conG (l.take 400, 0)).2 = C2 at g2
 have g2 : T 20 20 [.box (0, 0) (chC (l.take 400, 0))] = some (conQ rel kd us q m, [chC C2]) := g2
 have g3 := new_T (k := 19) n (by omega)
 obtain ⟨es, C3, hnm, he, g4⟩ := envQ_T n hk
 have hg : goodU us := ⟨by omega, fun u h => ⟨(hs u h).mono (by omega), (hu.1 u h).2⟩⟩
 have p1 := negate_T (k := 6) hk hu hg (hq.mono (by omega)) hm
 have p2 := rnegate_T (k := 6) hk hu hg (hq.mono (by omega)) hm
 have p3 := holdsV_T (k := 5) hk hu hg hl4 (hq.mono (by omega)) hm hnm he hv
 obtain ⟨bs, hbl, hbs, hcnt⟩ := neg_all hk hu hl4 hs hq hm hnm he hv
 have hL2 := negL_len rel kd us q m
 generalize holdQ rel (q + sumQ us (fE es)) M = b0 at *
 generalize negL rel kd us q m = L at *
 have hc1 : cntB (b0 :: bs) = (if b0 = true then 1 else 0) + cntB bs := by
  unfold cntB
  cases b0
  ·show _ = 0 + _
   simp
  ·show _ = 1 + _
   simp [Nat.add_comm]
 unfold conQ at *
 cases b0
 all_goals
  refine enter rfl func11 rfl (by decide) (by kernel_rfl) rfl rfl ?_
  refine zs1 g1 ?_
  refine zs2 g2 ?_
  refine zd2 g3 ?_
  refine zd5 g4 ?_
  refine zs2 p1 ?_
  refine zs2 p2 ?_
  refine W.cond rfl (fun c2 => ?_) (fun c2 => ?_)
  ·exact absurd rfl (of_decide_eq_true c2)
  ·refine zs0 ?_
   refine WX.call tab_eq rfl rfl rfl rfl rfl (viaA (p3) (by simp only [List.drop_zero, List.take_length])) rfl rfl ?_
   refine zs0 ?_
   first
   | refine W.loop (fun e m => ∃ (i : Nat), e = [(6, .own (0, 0) 6 (erow es)), (7, .imm 5 L), (9, .imm 5 L), (11, .int .i64 ((cntB (false :: bs.take i) : Nat) : Int)), (14, .int .i64 i)] ∧ i ≤ L.length ∧ m = L.length - i) L.length ⟨0, rfl, by omega, by omega⟩ ?_ ?_
   | refine W.loop (fun e m => ∃ (i : Nat), e = [(6, .own (0, 0) 6 (erow es)), (7, .imm 5 L), (9, .imm 5 L), (11, .int .i64 ((cntB (true :: bs.take i) : Nat) : Int)), (14, .int .i64 i)] ∧ i ≤ L.length ∧ m = L.length - i) L.length ⟨0, rfl, by omega, by omega⟩ ?_ ?_
   ·show _ < 4611686018427387904; omega
   ·rintro e m ⟨i, rfl, hi, rfl⟩
    refine zs0 ?_
    refine W.cond rfl (fun hlt => ?_) (fun hlt => ?_)
    ·have hlt := of_decide_eq_true hlt
     rw [idx_eq] at hlt
     obtain ⟨r', us', q', m', hc, s1, s2⟩ := hbs i (by omega)
     have hget : L[i]? = some (ccell r' kd us' q' m') := by
      rw [← hc]
      simp [List.getD, List.getElem?_eq_getElem hlt]
     have hcs := cnt_snoc (bs := bs) (i := i) (by omega)
     have hct : ∀ b, cntB (b :: bs.take (i + 1)) = cntB (b :: bs.take i) + (if bs.getD i false = true then 1 else 0) := fun b => by
      have e1 : ∀ l : List Bool, cntB (b :: l) = cntB [b] + cntB l := fun l => by
       unfold cntB
       cases b
       ·show _ = 0 + _
        simp
       ·show _ = 1 + _
        simp [Nat.add_comm]
      rw [e1, hcs, e1 (bs.take i), Nat.add_assoc]
     have hle : ∀ b, cntB (b :: bs.take i) ≤ 4 := fun b => by
      have h1 := List.length_filter_le id (b :: bs.take i)
      rw [List.length_cons, List.length_take] at h1
      unfold cntB
      omega
     unfold ccell at *
     cases hb : bs.getD i false
     ·rw [hb] at s2
      rw [hb, if_neg (by decide)] at hct
      refine zd8 ?_
      refine WX.idxImmD tab_eq rfl rfl rfl rfl rfl rfl (by omega) (hget) ?_
      refine zd0 ?_
      refine WX.idxImmD tab_eq rfl rfl rfl rfl rfl rfl (by omega) (hget) ?_
      refine zd6 s1 ?_
      refine WX.idxImm tab_eq rfl rfl rfl rfl rfl rfl (by omega) (hget) ?_
      refine zs0 ?_
      refine WX.call tab_eq rfl rfl rfl rfl rfl (viaA (s2) (by simp only [List.drop_zero, List.take_length])) rfl rfl ?_
      refine zs0 ?_
      rw [wrap_i64 (x := (i : Int) + 1) (by omega) (by omega)]
      show ∃ m', _
      refine ⟨L.length - (i + 1), by omega, i + 1, ?_, by omega, rfl⟩
      rw [hct]
      rfl
     ·rw [hb] at s2
      rw [hb, if_pos rfl] at hct
      refine zd8 ?_
      refine WX.idxImmD tab_eq rfl rfl rfl rfl rfl rfl (by omega) (hget) ?_
      refine zd0 ?_
      refine WX.idxImmD tab_eq rfl rfl rfl rfl rfl rfl (by omega) (hget) ?_
      refine zd6 s1 ?_
      refine WX.idxImm tab_eq rfl rfl rfl rfl rfl rfl (by omega) (hget) ?_
      refine zs0 ?_
      refine WX.call tab_eq rfl rfl rfl rfl rfl (viaA (s2) (by simp only [List.drop_zero, List.take_length])) rfl rfl ?_
      refine zs0 ?_
      rw [wrap_i64 (x := (i : Int) + 1) (by omega) (by omega)]
      first
      | rw [wrap_i64 (x := ((cntB (false :: bs.take i) : Nat) : Int) + 1) (by have := hle false; omega) (by have := hle false; omega)]
      | rw [wrap_i64 (x := ((cntB (true :: bs.take i) : Nat) : Int) + 1) (by have := hle true; omega) (by have := hle true; omega)]
      show ∃ m', _
      refine ⟨L.length - (i + 1), by omega, i + 1, ?_, by omega, rfl⟩
      rw [hct]
      rfl
    ·have hlt := of_decide_eq_false hlt
     rw [idx_eq] at hlt
     have hie : i = bs.length := by omega
     subst hie
     rw [List.take_length, hcnt]
     refine zs1 aw ?_
     rfl
end Go.PE
