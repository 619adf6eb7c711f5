/-
  A part of the proof that the law's function returns true and leaves its arguments as they were, for every input (no condition): own lemmas of the proof, in the order of their use.
-/
import Derived.Test.YtggpmnlmbfogeaaGreatDoorW43
set_option linter.all false
namespace Go.PE
open Go.RowKit Go.Proofs.Tryz
set_option maxRecDepth 100000
variable {k : Nat}
theorem linV_T {kd : Int} {us : List QT} {c : Rat} (hk : kd = 2 ∨ kd = 3) (hu : okU us) {L : Nat} (hs : ∀ u ∈ us, szQ u.2 L) (hc : szQ c L) (hL : L ≤ 400000) (hn : us.length < 1073741824) :
    T (k + 7) 22 [linP kd us c] = some (.bool true, []) := by
  have h := linValid_T (k := k) kd (tx us) (rs c) (tx_small hu hs hL) (by rw [tx_len]; exact hn) (by have := hc.len; omega)
  rw [linB_tx.2 ⟨hk, hu⟩] at h
  exact h
theorem scaleE_T {kd : Int} {us : List QT} {c q : Rat} (hk : kd = 2 ∨ kd = 3) (hu : okU us) {L : Nat} (hs : ∀ u ∈ us, szQ u.2 L) (hc : szQ c L) (hq : szQ q L) (hL : L ≤ 400000) (hn : us.length < 1073741824) :
    T (k + 11) 32 [linP kd us c, .str (rs q)] = some (.tup [linP kd (scU us q) (c * q), .int .i64 0], []) := by
  have h1 := linV_T (k := k + 3) hk hu hs hc hL hn
  have h2 := valid_Q (k := k + 4) q (by have := hq.len; omega)
  have h3 := scale_T (k := k) kd us c q hc hq hs (by omega) hn
  refine enter rfl func32 rfl (by decide) (by kernel_rfl) rfl rfl ?_
  refine zs1 h1 ?_
  refine zs2 h2 ?_
  refine zs2 h3 ?_
  rfl
set_option maxHeartbeats 3200000 in
theorem law5_T (l : List Int) (kk : Int) (hl : l.length ≤ 4611686018427387904) (aw : T 20 18 [] = some (.bool true, [])) :
    T 21 5 [.imm 1 (zrow l), .int .i64 kk] = some (.bool true, []) := by
  obtain ⟨rel, kd, us, q, m, M, hG, hu, hl4, hs, hq, hk, hm, hml⟩ := conG_ex (l.take 400, 0)
  have hc0 : okCh (l.take 400, 0) := ⟨by simp only [List.length_take]; omega, by simp only; omega⟩
  have g1 := new_T (k := 19) l hl
  have g2 := conG_T (k := 9) (l.take 400, 0) hc0
  rw [hG] at g2
  generalize (conG (l.take 400, 0)).2 = C2 at g2
  have g2 : T 20 20 [.box (0, 0) (chC (l.take 400, 0))] = some (conQ rel kd us q m, [chC C2]) := g2
  have b1 := modV_lt kk 9 (by omega) (by omega)
  have b2 := modV_lt (IntKind.i64.wrap (kk.tdiv 9)) 7 (by omega) (by omega)
  have m1 := mod_T (k := 19) kk 9 (by omega) (by omega)
  have m2 := mod_T (k := 19) (IntKind.i64.wrap (kk.tdiv 9)) 7 (by omega) (by omega)
  generalize modV kk 9 = x at *
  generalize modV (IntKind.i64.wrap (kk.tdiv 9)) 7 = y at *
  have f1 := fromInt_T (k := 19) (1 + x) (by omega) (by omega)
  have f2 := fromInt_T (k := 19) (1 + y) (by omega) (by omega)
  have y0 : ((1 + y : Int) : Rat) ≠ 0 := by
    intro e
    have : (1 + y : Int) = 0 := by exact_mod_cast e
    omega
  have f3 := rdiv_T (k := 13) ((1 + x : Int) : Rat) ((1 + y : Int) : Rat) y0 (smQ_int _ (by omega)) (smQ_int _ (by omega))
  have hf : 0 < ((1 + x : Int) : Rat) / ((1 + y : Int) : Rat) := by
    rw [Rat.div_def]
    refine Rat.mul_pos ?_ (Rat.inv_pos.2 ?_)
    · have : (0 : Int) < 1 + x := by omega
      exact_mod_cast this
    · have : (0 : Int) < 1 + y := by omega
      exact_mod_cast this
  have hfs : szQ (((1 + x : Int) : Rat) / ((1 + y : Int) : Rat)) 100 := by
    refine (szQ_div y0 (szZ (L := 1) ?_) (szZ (L := 1) ?_)).mono (by omega)
    · exact dec_len_le (k := 1) (by omega) (by omega)
    · exact dec_len_le (k := 1) (by omega) (by omega)
  generalize ((1 + x : Int) : Rat) / ((1 + y : Int) : Rat) = f at *
  have sc := scaleE_T (k := 9) hk hu hs hq hfs (by omega) (by omega)
  rw [scU_ne (pos_ne hf)] at sc
  have hg1 : goodU us := ⟨by omega, fun u h => ⟨(hs u h).mono (by omega), (hu.1 u h).2⟩⟩
  have hg2 : goodU (mulU us f) := ⟨by rw [mulU_len]; omega, fun v h => by
    obtain ⟨u, h2, rfl⟩ := mulU_mem h
    exact ⟨(szQ_mul (hs u h2) hfs).mono (by omega), fun e => (Rat.mul_eq_zero.1 e).elim (hu.1 u h2).2 (pos_ne hf)⟩⟩
  have hq2 : szQ (q * f) 1000 := (szQ_mul hq hfs).mono (by omega)
  have nu := okU_mul hu (pos_ne hf)
  have n1 := normal_V (k := 6) hk hu hg1 (hq.mono (by omega)) hm
  have fin : ∀ v, conS v → T 20 28 [v, v] = some (.bool true, []) := by
    rintro v ⟨r, kd, ts, c, m, rfl, h8⟩
    exact sameCon_T (k := 18) r kd ts c m (by omega)
  have fin1 := fin _ (nV_shape hg1 (hq.mono (by omega)) hm)
  refine enter rfl func5 rfl (by decide) (by kernel_rfl) rfl rfl ?_
  refine zs1 g1 ?_
  refine zs2 g2 ?_
  refine zs2 m1 ?_
  rw [wrap_i64 (x := 1 + x) (by omega) (by omega)]
  refine zs2 f1 ?_
  refine zs2 m2 ?_
  rw [wrap_i64 (x := 1 + y) (by omega) (by omega)]
  refine zs2 f2 ?_
  refine zs2 f3 ?_
  refine zs2 sc ?_
  rcases hm with ⟨rfl, hr⟩ | ⟨rfl, hr, hM0, rfl, hM⟩
  · have n2 := normal_V (k := 6) hk nu hg2 hq2 (m := []) (M := 0) (.inl ⟨rfl, hr⟩)
    have e := nV_scale (kd := kd) (q := q) (m := []) (m' := []) (M := M) (M' := 0) hf hu (.inl ⟨rfl, hr⟩) (fun h => by omega)
    rw [e] at n2
    obtain ⟨r, kd', ts, c, m, he, h8⟩ := nV_shape (M := M) hg1 (hq.mono (by omega)) (.inl ⟨rfl, hr⟩ : okM rel kd [] M)
    rw [he] at n1 n2 fin1
    refine zs1 n1 ?_
    refine zs2 n2 ?_
    refine zs2 fin1 ?_
    refine zs2 aw ?_
    rfl
  · have mm := mul_Q (k := 11) ((M : Int) : Rat) f (L := 1000) (szZ hM) (hfs.mono (by omega)) (by omega)
    rw [rs_nat] at hml
    have hms := szQ_mul (szZ (a := (M : Int)) (L := 100) hml) hfs
    have ii := isInt_Q (k := 16) (((M : Int) : Rat) * f) (by have := hms.len; omega)
    have hd0 : rs ((M : Int) : Rat) ≠ [] := by rw [rs_nat]; exact dec_ne M
    by_cases hden : (((M : Int) : Rat) * f).den = 1
    · rw [decide_eq_true hden] at ii
      obtain ⟨M', hM', e⟩ : ∃ M' : Nat, M' ≠ 0 ∧ ((M : Int) : Rat) * f = ((M' : Int) : Rat) := by
        have hp : 0 < (((M : Int) : Rat) * f).num := num_pos.2 (Rat.mul_pos (natR_pos hM0) hf)
        have e1 := Rat.num_divInt_den (((M : Int) : Rat) * f)
        rw [hden] at e1
        refine ⟨(((M : Int) : Rat) * f).num.natAbs, by omega, ?_⟩
        rw [show (((((M : Int) : Rat) * f).num.natAbs : Nat) : Int) = (((M : Int) : Rat) * f).num by omega]
        exact e1.symm.trans (divInt_one' _)
      rw [e] at mm ii hms
      have hM2 : okM rel 2 (rs ((M' : Int) : Rat)) M' := .inr ⟨rfl, hr, hM', rfl, Nat.le_trans hms.1 (by omega)⟩
      have n2 := normal_V (k := 6) (.inl rfl) nu hg2 hq2 hM2
      have hm1 : okM rel 2 (rs ((M : Int) : Rat)) M := .inr ⟨rfl, hr, hM0, rfl, hM⟩
      rw [nV_scale (M' := M') (m' := []) hf hu hm1 (fun _ => e.symm)] at n2
      obtain ⟨r, kd', ts, c, m, he, h8⟩ := nV_shape hg1 (hq.mono (by omega)) hm1
      rw [he] at n1 n2 fin1
      generalize rs ((M : Int) : Rat) = w at *
      refine zs0 ?_
      refine W.cond rfl (fun c0 => ?_) (fun c0 => ?_)
      · refine zs1 mm ?_
        refine zs2 ii ?_
        refine zs2 n1 ?_
        refine zs2 n2 ?_
        refine zs2 fin1 ?_
        refine zs2 aw ?_
        rfl
      · exact absurd (of_decide_eq_false c0) (fun h => h hd0)
    · rw [decide_eq_false hden] at ii
      generalize rs ((M : Int) : Rat) = w at *
      refine zs0 ?_
      refine W.cond rfl (fun c0 => ?_) (fun c0 => ?_)
      · refine zs1 mm ?_
        refine zs2 ii ?_
        refine zs2 aw ?_
        rfl
      · exact absurd (of_decide_eq_false c0) (fun h => h hd0)
end Go.PE
