/-
  A part of the proof that the law's function returns true and leaves its arguments as they were, for every input (no condition): own lemmas of the proof, in the order of their use.
-/
import Derived.Test.YtggpmnlmbfogeaaGreatDoorX35
set_option linter.all false
namespace Go.PE
open Go.RowKit Go.Proofs.Tryz
set_option maxRecDepth 100000
variable {k : Nat}
def outS (us : List QT) (n : Bs) : List QT := scU (outU us n) (-1 / co us n)
def solOK (rel kd : Int) (us : List QT) (q : Rat) (n : Bs) : Bool := decide (rel = 3) && (decide (co us n ≠ 0) && (decide (kd ≠ 2) || wholeQ (outS us n) (q * (-1 / co us n))))
def solV (rel kd : Int) (us : List QT) (q : Rat) (n : Bs) : PV := if solOK rel kd us q n = true then linP kd (outS us n) (q * (-1 / co us n)) else zeroL
theorem solveP_T {rel kd : Int} {us : List QT} {q : Rat} {m n : Bs} (hk : kd = 2 ∨ kd = 3) (b2 : Bool) (h1 : T k 24 [conQ rel kd us q m] = some (.bool true, [])) (h2 : T k 71 [.str n] = some (.bool b2, []))
  (h3 : T k 111 [linP kd us q, .str n] = some (.tup [.str (rs (co us n)), linP kd (outU us n) q], [])) (h4 : co us n ≠ 0 → T k 114 [.str [45, 49], .str (rs (co us n))] = some (.str (rs (-1 / co us n)), []))
  (h5 : co us n ≠ 0 → T k 82 [linP kd (outU us n) q, .str (rs (-1 / co us n))] = some (linP kd (outS us n) (q * (-1 / co us n)), [])) (h6 : T k 115 [linP kd (outS us n) (q * (-1 / co us n))] = some (.bool (wholeQ (outS us n) (q * (-1 / co us n))), [])) :
  T (k + 1) 42 [conQ rel kd us q m, .str n] = some (.tup [if b2 = true then solV rel kd us q n else zeroL, .int .i64 (if b2 = true then (if solOK rel kd us q n = true then 0 else 8) else 1)], []) := by
 cases b2
 ·refine enter rfl func42 rfl (by decide) (by kernel_rfl) rfl rfl ?_
  refine zs1 h1 ?_
  refine zs2 h2 ?_
  rfl
 ·rw [if_pos rfl, if_pos rfl]
  unfold solV
  by_cases hr : rel = 3
  ·by_cases hc : co us n = 0
   ·have e : solOK rel kd us q n = false := by
     unfold solOK
     rw [decide_eq_false (p := co us n ≠ 0) (fun h => h hc)]
     simp
    rw [e]
    rw [hc, rs_zero] at h3
    refine enter rfl func42 rfl (by decide) (by kernel_rfl) rfl rfl ?_
    refine zs1 h1 ?_
    refine zs2 h2 ?_
    refine zs2 h3 ?_
    refine WX.boolM rfl rfl (fun c1 => ?_) (fun c1 => ?_)
    ·refine zs0 ?_
     rfl
    ·refine zs0 ?_
     rfl
   ·have h4 := h4 hc
    have h5 := h5 hc
    have hc0 : rs (co us n) ≠ [48] := rs_ne_zero hc
    have e : solOK rel kd us q n = (decide (kd ≠ 2) || wholeQ (outS us n) (q * (-1 / co us n))) := by
     unfold solOK
     rw [decide_eq_true hr, decide_eq_true hc, Bool.true_and, Bool.true_and]
    rw [e]
    rcases hk with rfl | rfl
    ·rw [decide_eq_false (show ¬ (2 : Int) ≠ 2 by decide), Bool.false_or]
     generalize wholeQ (outS us n) (q * (-1 / co us n)) = Z at *
     refine enter rfl func42 rfl (by decide) (by kernel_rfl) rfl rfl ?_
     refine zs1 h1 ?_
     refine zs2 h2 ?_
     refine zs2 h3 ?_
     refine WX.boolM rfl rfl (fun c1 => ?_) (fun c1 => ?_)
     ·exact absurd hr (of_decide_eq_true c1)
     ·refine zs0 ?_
      refine W.cond rfl (fun c2 => ?_) (fun c2 => ?_)
      ·exact absurd (of_decide_eq_true c2) hc0
      ·refine zd8 ?_
       refine zd4 h4 ?_
       refine zd5 h5 ?_
       refine zs2 h6 ?_
       cases Z
       ·refine zs0 ?_
        rfl
       ·refine zs0 ?_
        rfl
    ·rw [decide_eq_true (show (3 : Int) ≠ 2 by decide), Bool.true_or]
     refine enter rfl func42 rfl (by decide) (by kernel_rfl) rfl rfl ?_
     refine zs1 h1 ?_
     refine zs2 h2 ?_
     refine zs2 h3 ?_
     refine WX.boolM rfl rfl (fun c1 => ?_) (fun c1 => ?_)
     ·exact absurd hr (of_decide_eq_true c1)
     ·refine zs0 ?_
      refine W.cond rfl (fun c2 => ?_) (fun c2 => ?_)
      ·exact absurd (of_decide_eq_true c2) hc0
      ·refine zd8 ?_
       refine zd4 h4 ?_
       refine zd5 h5 ?_
       rfl
  ·have e : solOK rel kd us q n = false := by
    unfold solOK
    rw [decide_eq_false hr]
    rfl
   rw [e]
   refine enter rfl func42 rfl (by decide) (by kernel_rfl) rfl rfl ?_
   refine zs1 h1 ?_
   refine zs2 h2 ?_
   refine zs2 h3 ?_
   refine WX.boolM rfl rfl (fun c1 => ?_) (fun c1 => ?_)
   ·refine zs0 ?_
    rfl
   ·exact absurd (of_decide_eq_false c1) (fun h => h hr)
theorem solveR_T {rel kd : Int} {us : List QT} {q : Rat} {m n : Bs} (hk : kd = 2 ∨ kd = 3) (b2 : Bool) (h1 : T k 25 [conQ rel kd us q m] = some (.bool true, [])) (h2 : T k 74 [.str n] = some (.bool b2, []))
  (h3 : T k 112 [linP kd us q, .str n] = some (.str (rs (co us n)), [])) (h0 : T k 113 [linP kd us q, .str n] = some (linP kd (outU us n) q, [])) (h4 : co us n ≠ 0 → T k 29 [.str [45, 49], .str (rs (co us n))] = some (.str (rs (-1 / co us n)), []))
  (h5 : co us n ≠ 0 → T k 92 [linP kd (outU us n) q, .str (rs (-1 / co us n))] = some (linP kd (outS us n) (q * (-1 / co us n)), [])) (h6 : T k 116 [linP kd (outS us n) (q * (-1 / co us n))] = some (.bool (wholeQ (outS us n) (q * (-1 / co us n))), [])) :
  T (k + 1) 43 [conQ rel kd us q m, .str n] = some (.tup [if b2 = true then solV rel kd us q n else zeroL, .int .i64 (if b2 = true then (if solOK rel kd us q n = true then 0 else 8) else 1)], []) := by
 cases b2
 ·refine enter rfl func43 rfl (by decide) (by kernel_rfl) rfl rfl ?_
  refine zs1 h1 ?_
  refine zs2 h2 ?_
  rfl
 ·rw [if_pos rfl, if_pos rfl]
  unfold solV
  by_cases hr : rel = 3
  ·by_cases hc : co us n = 0
   ·have e : solOK rel kd us q n = false := by
     unfold solOK
     rw [decide_eq_false (p := co us n ≠ 0) (fun h => h hc)]
     simp
    rw [e]
    rw [hc, rs_zero] at h3
    refine enter rfl func43 rfl (by decide) (by kernel_rfl) rfl rfl ?_
    refine zs1 h1 ?_
    refine zs2 h2 ?_
    refine zs2 h3 ?_
    refine WX.boolM rfl rfl (fun c1 => ?_) (fun c1 => ?_)
    ·refine zs0 ?_
     rfl
    ·refine zs0 ?_
     rfl
   ·have h4 := h4 hc
    have h5 := h5 hc
    have hc0 : rs (co us n) ≠ [48] := rs_ne_zero hc
    have e : solOK rel kd us q n = (decide (kd ≠ 2) || wholeQ (outS us n) (q * (-1 / co us n))) := by
     unfold solOK
     rw [decide_eq_true hr, decide_eq_true hc, Bool.true_and, Bool.true_and]
    rw [e]
    rcases hk with rfl | rfl
    ·rw [decide_eq_false (show ¬ (2 : Int) ≠ 2 by decide), Bool.false_or]
     generalize wholeQ (outS us n) (q * (-1 / co us n)) = Z at *
     refine enter rfl func43 rfl (by decide) (by kernel_rfl) rfl rfl ?_
     refine zs1 h1 ?_
     refine zs2 h2 ?_
     refine zs2 h3 ?_
     refine WX.boolM rfl rfl (fun c1 => ?_) (fun c1 => ?_)
     ·exact absurd hr (of_decide_eq_true c1)
     ·refine zs0 ?_
      refine W.cond rfl (fun c2 => ?_) (fun c2 => ?_)
      ·exact absurd (of_decide_eq_true c2) hc0
      ·refine zs1 h0 ?_
       refine zs2 h4 ?_
       refine zs2 h5 ?_
       refine zs2 h6 ?_
       cases Z
       ·refine zs0 ?_
        rfl
       ·refine zs0 ?_
        rfl
    ·rw [decide_eq_true (show (3 : Int) ≠ 2 by decide), Bool.true_or]
     refine enter rfl func43 rfl (by decide) (by kernel_rfl) rfl rfl ?_
     refine zs1 h1 ?_
     refine zs2 h2 ?_
     refine zs2 h3 ?_
     refine WX.boolM rfl rfl (fun c1 => ?_) (fun c1 => ?_)
     ·exact absurd hr (of_decide_eq_true c1)
     ·refine zs0 ?_
      refine W.cond rfl (fun c2 => ?_) (fun c2 => ?_)
      ·exact absurd (of_decide_eq_true c2) hc0
      ·refine zs1 h0 ?_
       refine zs2 h4 ?_
       refine zs2 h5 ?_
       rfl
  ·have e : solOK rel kd us q n = false := by
    unfold solOK
    rw [decide_eq_false hr]
    rfl
   rw [e]
   refine enter rfl func43 rfl (by decide) (by kernel_rfl) rfl rfl ?_
   refine zs1 h1 ?_
   refine zs2 h2 ?_
   refine zs2 h3 ?_
   refine WX.boolM rfl rfl (fun c1 => ?_) (fun c1 => ?_)
   ·refine zs0 ?_
    rfl
   ·exact absurd (of_decide_eq_false c1) (fun h => h hr)
end Go.PE
namespace Go.PE
open Go.RowKit Go.Proofs.Tryz
set_option maxRecDepth 100000
variable {k : Nat}
theorem linN_T {kd : Int} {us : List QT} {c : Rat} (hk : kd = 2 ∨ kd = 3) (hu : okU us) {L : Nat} (hs : ∀ u ∈ us, szQ u.2 L) (hc : szQ c L) (hL : L ≤ 400000) (hn : us.length < 1073741824) :
  T (k + 7) 22 [linA kd (trow (tx us)) (rs c)] = some (.bool true, []) := linV_T hk hu hs hc hL hn
set_option maxHeartbeats 1000000 in
theorem both_solve {rel kd : Int} {us : List QT} {q : Rat} {m n : Bs} {M : Nat} (hk : kd = 2 ∨ kd = 3) (hu : okU us) (hl : us.length ≤ 4) (hs : ∀ u ∈ us, szQ u.2 100) (hq : szQ q 100) (hm : okM rel kd m M) (hn : n.length ≤ 60) :
  ∃ (r : Int) (ws : List Trm) (w : Bs) (e : Int), ws.length ≤ 16 ∧ T 20 42 [conQ rel kd us q m, .str n] = some (.tup [linA r (trow ws) w, .int .i64 e], []) ∧ T 20 43 [conQ rel kd us q m, .str n] = some (.tup [linA r (trow ws) w, .int .i64 e], []) ∧
   (e = 0 → T 20 40 [linA kd (trow (tx us)) (rs q), .str n, linA r (trow ws) w] = some (.tup [.agg [.int .i64 kd, .imm 2 [], .str [48]], .int .i64 0], [])) := by
 have hg : goodU us := ⟨by omega, fun u h => ⟨(hs u h).mono (by omega), (hu.1 u h).2⟩⟩
 have v1 := valid_V (k := 6) hk hu hg (hq.mono (by omega)) hm
 have v2 := rvalid_V (k := 6) hk hu hg (hq.mono (by omega)) hm
 have n1 := isName_T (k := 17) n (by omega)
 have n2 := rname_T (k := 17) n (by omega)
 have sk : szQ (co us n) 100 := co_sz hs (by omega) n
 have lo := outU_len us n
 have so : ∀ u ∈ outU us n, szQ u.2 100 := fun u h => hs u (outU_mem h)
 have a1 := split_T (k := 18) kd us q n hu (by omega)
 have a2 := coef_T (k := 18) kd us q n (by omega)
 have a3 := without_T (k := 17) kd us q n (by omega)
 have d1 : co us n ≠ 0 → T 19 114 [.str [45, 49], .str (rs (co us n))] = some (.str (rs (-1 / co us n)), []) := fun h0 => by
  have h := div_Q (k := 10) (-1) (co us n) h0 m1_sz sk (by omega)
  rw [rs_m1] at h
  exact h
 have d2 : co us n ≠ 0 → T 19 29 [.str [45, 49], .str (rs (co us n))] = some (.str (rs (-1 / co us n)), []) := fun h0 => by
  have h := rdiv_T (k := 12) (-1) (co us n) h0 (m1_sz.sm (by omega)) (sk.sm (by omega))
  rw [rs_m1] at h
  exact h
 have sd : szQ (-1 / co us n) 200 := by
  by_cases h0 : co us n = 0
  ·rw [h0, Rat.div_def, Rat.inv_zero, Rat.mul_zero]
   exact ⟨by show (dec 0).length ≤ _; rw [dec_zero]; decide, by show (dec 1).length ≤ _; rw [dec1_len]; omega⟩
  ·exact (szQ_div h0 m1_sz sk).mono (by omega)
 have s1 := scale_T (k := 9) kd (outU us n) q (-1 / co us n) (L := 200) (hq.mono (by omega)) sd (fun u h => (so u h).mono (by omega)) (by omega) (by omega)
 have s2 := times_T (k := 11) kd (outU us n) q (-1 / co us n) (L := 200) (hq.mono (by omega)) sd (fun u h => (so u h).mono (by omega)) (by omega) (by omega)
 have ls := scU_len (outU us n) (-1 / co us n)
 have ss : ∀ u ∈ outS us n, szQ u.2 300 := fun u h => (scU_sz so sd u h).mono (by omega)
 have sq := (szQ_mul hq sd).mono (show 100 + 200 ≤ 300 by omega)
 have w1 := whole_T (k := 11) kd (outS us n) (q * (-1 / co us n)) (fun u h => by have := (ss u h).len; omega) (by have := sq.len; omega) (by show (scU (outU us n) (-1 / co us n)).length < _; omega)
 have w2 := rwhole_T (k := 11) kd (outS us n) (q * (-1 / co us n)) (fun u h => by have := (ss u h).len; omega) (by have := sq.len; omega) (by show (scU (outU us n) (-1 / co us n)).length < _; omega)
 have z1 := solveP_T (k := 19) hk _ v1 n1 a1 d1 (fun _ => s1) w1
 have z2 := solveR_T (k := 19) hk _ v2 n2 a2 a3 d2 (fun _ => s2) w2
 by_cases hOK : nameB n = true ∧ solOK rel kd us q n = true
 ·obtain ⟨o1, o2⟩ := hOK
  have hc : co us n ≠ 0 := by
   unfold solOK at o2
   simp only [Bool.and_eq_true, decide_eq_true_eq] at o2
   exact o2.2.1
  unfold solV at z1 z2
  rw [if_pos o1, if_pos o1, if_pos o2, if_pos o2] at z1 z2
  have hou := okU_out n hu
  have hos : okU (outS us n) := okU_sc hou
  refine ⟨kd, tx (outS us n), rs (q * (-1 / co us n)), 0, by rw [tx_len]; show (scU (outU us n) (-1 / co us n)).length ≤ 16; omega, z1, z2, fun _ => ?_⟩
  have b1 := linN_T (k := 12) hk hu hs hq (by omega) (by omega)
  have b2 := linN_T (k := 12) hk hos ss sq (by omega) (by show (scU (outU us n) (-1 / co us n)).length < _; omega)
  rw [o1] at n1
  have c1 := scale_T (k := 9) kd (outS us n) (q * (-1 / co us n)) (co us n) (L := 300) sq (sk.mono (by omega)) ss (by omega) (by show (scU (outU us n) (-1 / co us n)).length < _; omega)
  have lss2 := scU_len (outS us n) (co us n)
  have los : (outS us n).length ≤ 4 := by show (scU (outU us n) (-1 / co us n)).length ≤ 4; omega
  have t1 : ∀ u ∈ scU (outS us n) (co us n), szQ u.2 400 := fun u h => scU_sz ss sk u h
  have t2 := (szQ_mul sq sk).mono (show 300 + 100 ≤ 400 by omega)
  have c2 := addC_T (k := 18) 109 53 (.inl ⟨rfl, rfl⟩) kd kd (outU us n) (scU (outS us n) (co us n)) q (q * (-1 / co us n) * co us n) (add_Q (k := 9) q _ (hq.mono (by omega)) t2 (by omega)) (fun u hu v hv => add_Q (k := 9) u.2 v.2 ((so u hu).mono (by omega)) (t1 v hv) (by omega)) (by omega) (by omega)
  have e1 : addU (outU us n) (scU (outS us n) (co us n)) = [] := solve_nil hu hc
  have e2 : q + q * (-1 / co us n) * co us n = 0 := by
   generalize co us n = y at *
   grind
  rw [e1, e2] at c2
  unfold linP at c2
  rw [rs_zero] at c2
  have z := replP_T (k := 19) kd kd (trow (tx us)) (trow (tx (outS us n))) (rs q) (rs (q * (-1 / co us n))) n true true true b1 n1 b2 _ kd kd kd _ _ [] _ _ [48] (fun _ _ _ _ => ⟨a1, c1, c2⟩)
  rw [if_pos (show (true && true && true && decide (kd = kd)) = true by simp), if_pos (show (true && true && true) = true from rfl), if_pos rfl] at z
  exact z
 ·refine ⟨0, [], [], if nameB n = true then 8 else 1, by simp, ?_, ?_, fun h => ?_⟩
  ·rw [z1]
   unfold solV
   by_cases o1 : nameB n = true
   ·rw [if_pos o1, if_pos o1, if_pos o1, if_neg (fun o2 => hOK ⟨o1, o2⟩), if_neg (fun o2 => hOK ⟨o1, o2⟩)]
    rfl
   ·rw [if_neg o1, if_neg o1, if_neg o1]
    rfl
  ·rw [z2]
   unfold solV
   by_cases o1 : nameB n = true
   ·rw [if_pos o1, if_pos o1, if_pos o1, if_neg (fun o2 => hOK ⟨o1, o2⟩), if_neg (fun o2 => hOK ⟨o1, o2⟩)]
    rfl
   ·rw [if_neg o1, if_neg o1, if_neg o1]
    rfl
  ·by_cases o1 : nameB n = true
   ·rw [if_pos o1] at h; exact absurd h (by decide)
   ·rw [if_neg o1] at h; exact absurd h (by decide)
set_option maxHeartbeats 3200000 in
theorem law8_T (l : List Int) (n : Bs) (y : Int) (hl : l.length ≤ 4611686018427387000) (aw : T 20 18 [] = some (.bool true, [])) :
  T 21 8 [.imm 1 (zrow l), .str n, .int .i64 y] = some (.bool true, []) := by
 refine enter rfl func8 rfl (by decide) (by kernel_rfl) rfl rfl ?_
 refine zs0 ?_
 refine W.cond rfl (fun c0 => ?_) (fun c0 => ?_)
 ·refine zs1 aw ?_
  rfl
 ·have c0 := of_decide_eq_false c0
  have hn : n.length ≤ 60 := by omega
  obtain ⟨rel, kd, us, q, m, M, hG, hu, hl4, hs, hq, hk, hm, hml⟩ := conG_ex (l.take 400, 0)
  have hc0 : okCh (l.take 400, 0) := ⟨by simp only [List.length_take]; omega, by simp only; omega⟩
  have g1 := new_T (k := 19) l (by omega)
  have g2 := conG_T (k := 9) (l.take 400, 0) hc0
  rw [hG] at g2
  generalize (conG (l.take 400, 0)).2 = C2 at g2
  have g2 : T 20 20 [.box (0, 0) (chC (l.take 400, 0))] = some (conQ rel kd us q m, [chC C2]) := g2
  have b3 := modV_lt y 5 (by omega) (by omega)
  have m3 := mod_T (k := 19) y 5 (by omega) (by omega)
  obtain ⟨j, v, ej, hj5, hg, hv⟩ := five_get n hn b3.1 b3.2
  rw [ej] at m3
  have m4 := mod_T (k := 19) y 3 (by omega) (by omega)
  generalize modV y 3 = x3 at *
  obtain ⟨r1, w1, q1, e1, h1, p1, p1', f1⟩ := both_solve hk hu hl4 hs hq hm hv
  have hm3 : okM 3 kd [] 0 := .inl ⟨rfl, .inr (.inr rfl)⟩
  obtain ⟨r2, w2, q2, e2, h2, p2, p2', f2⟩ := both_solve hk hu hl4 hs hq hm3 hv
  have i1 := same_T (k := 19) r1 w1 q1 (by omega)
  have i2 := same_T (k := 19) r2 w2 q2 (by omega)
  unfold linA at *
  refine zs1 g1 ?_
  refine zs2 g2 ?_
  refine zs2 m3 ?_
  refine WX.step tab_eq rfl rfl (by simp only [List.length_cons, List.length_nil]; omega) ?_
  refine WX.ldElem tab_eq rfl rfl rfl (by rw [Int.toNat_natCast]; exact hg) rfl rfl rfl rfl ?_
  refine zs1 m4 ?_
  refine W.cond rfl (fun c3 => ?_) (fun c3 => ?_)
  ·refine zs1 p2 ?_
   refine zs2 (p2') ?_
   refine WX.boolM rfl rfl (fun d1 => ?_) (fun d1 => ?_)
   ·exact absurd rfl (of_decide_eq_true d1)
   ·refine zs1 i2 ?_
    refine W.cond rfl (fun d2 => ?_) (fun d2 => ?_)
    ·refine zs1 aw ?_
     rfl
    ·have d2 : e2 = 0 := Classical.not_not.1 (of_decide_eq_false d2)
     have f2 := f2 d2
     refine zs1 f2 ?_
     refine zs2 aw ?_
     rfl
  ·refine zs1 p1 ?_
   refine zs2 (p1') ?_
   refine WX.boolM rfl rfl (fun d1 => ?_) (fun d1 => ?_)
   ·exact absurd rfl (of_decide_eq_true d1)
   ·refine zs1 i1 ?_
    refine W.cond rfl (fun d2 => ?_) (fun d2 => ?_)
    ·refine zs1 aw ?_
     rfl
    ·have d2 : e1 = 0 := Classical.not_not.1 (of_decide_eq_false d2)
     have f1 := f1 d2
     refine zs1 f1 ?_
     refine zs2 aw ?_
     rfl
end Go.PE
