/-
  A part of the proof that the law's function returns true and leaves its arguments as they were, for every input (no condition): own lemmas of the proof, in the order of their use.
-/
import Derived.Test.YtggpmnlmbfogeaaGreatDoorW42
set_option linter.all false
namespace Go.PE
open Go.RowKit Go.Proofs.Tryz
set_option maxRecDepth 100000
variable {k : Nat}
theorem scU_ne {us : List QT} {q : Rat} (h : q ≠ 0) : scU us q = mulU us q := by unfold scU; rw [if_neg h]
def okM (rel kd : Int) (m : Bs) (M : Nat) : Prop :=
  (m = [] ∧ (rel = 1 ∨ rel = 2 ∨ rel = 3)) ∨ (kd = 2 ∧ (rel = 4 ∨ rel = 5) ∧ M ≠ 0 ∧ m = rs ((M : Int) : Rat) ∧ (dec M).length ≤ 1000)
def nV (rel kd : Int) (us : List QT) (q : Rat) (M : Nat) : PV := if rel ≤ 3 then nrmV rel kd us q else divV rel us q M
theorem conB_ok {rel kd : Int} {us : List QT} {q : Rat} {m : Bs} {M : Nat} (hk : kd = 2 ∨ kd = 3) (hu : okU us) (hm : okM rel kd m M) : conB rel kd (tx us) (rs q) m = true := by
  have hl : linB kd (tx us) (rs q) = true := linB_tx.2 ⟨hk, hu⟩
  unfold conB
  rcases hm with ⟨rfl, hr⟩ | ⟨rfl, hr, hM, rfl, _⟩
  · rw [if_pos hr, hl]; rfl
  · rw [if_neg (by omega), if_pos hr, hl]
    have hs : 0 < sgn ((M : Int) : Rat) := by
      rcases sgn_cases ((M : Int) : Rat) with ⟨a, _⟩ | ⟨a, _⟩ | ⟨_, a⟩
      · have a : (M : Int) < 0 := a
        omega
      · exact absurd a (natR hM)
      · rw [a]; decide
    unfold isIq sgq
    rw [rd_rs]
    simp only [Bool.true_and, decide_true]
    rw [decide_eq_true hs]
    rfl
theorem tx_small {us : List QT} {L : Nat} (hu : okU us) (hs : ∀ u ∈ us, szQ u.2 L) (hL : L ≤ 400000) : ∀ t ∈ tx us, smallT t := by
  intro t ht
  obtain ⟨u, h, rfl⟩ := List.mem_map.1 ht
  have h1 := (hu.1 u h).1
  have h2 := (hs u h).len
  unfold nameB at h1
  simp only [Bool.and_eq_true, decide_eq_true_eq] at h1
  exact ⟨by have := h1.2.1; show u.1.length < _; omega, by show (rs u.2).length < _; omega⟩
theorem okM_len {rel kd : Int} {m : Bs} {M : Nat} (hm : okM rel kd m M) : m.length ≤ 1000 := by
  rcases hm with ⟨rfl, _⟩ | ⟨_, _, _, rfl, h⟩
  · simp
  · rw [rs_nat]; exact h
theorem valid_V {rel kd : Int} {us : List QT} {q : Rat} {m : Bs} {M : Nat} (hk : kd = 2 ∨ kd = 3) (hu : okU us) (hg : goodU us) (hq : szQ q 1000) (hm : okM rel kd m M) : T (k + 13) 24 [conQ rel kd us q m] = some (.bool true, []) := by
  have h := con_T (k := k + 5) rel kd (tx us) (rs q) m (tx_small hu (fun u h => (hg.2 u h).1) (by omega)) (by have := hg.1; rw [tx_len]; omega) (by have := hq.len; omega) (by have := okM_len hm; omega)
  rw [conB_ok hk hu hm] at h
  exact h
theorem normal_V {rel kd : Int} {us : List QT} {q : Rat} {m : Bs} {M : Nat} (hk : kd = 2 ∨ kd = 3) (hu : okU us) (hg : goodU us) (hq : szQ q 1000) (hm : okM rel kd m M) :
    T (k + 14) 26 [conQ rel kd us q m] = some (.tup [nV rel kd us q M, .int .i64 0], []) := by
  have h1 := valid_V (k := k) hk hu hg hq hm
  unfold nV
  rcases hm with ⟨rfl, hr⟩ | ⟨rfl, hr, hM0, rfl, hM⟩
  · rw [if_pos (by omega)]
    by_cases hne : us = []
    · subst hne
      exact normal0_T (k := k + 1) rel kd q hr hq h1
    · rcases hr with rfl | rfl | rfl
      · exact normal1_T (k := k + 1) kd us q hk hne hg hq h1
      · exact normal2_T (k := k + 1) kd us q hk hne hg hq h1
      · exact normal3_T (k := k + 1) kd us q hk hne hg hq h1
  · rw [if_neg (by omega)]
    exact normalD_T (k := k) rel us q M hr hg hq hM0 hM h1
theorem nV_shape {rel kd : Int} {us : List QT} {q : Rat} {m : Bs} {M : Nat} (hg : goodU us) (hq : szQ q 1000) (hm : okM rel kd m M) : conS (nV rel kd us q M) := by
  unfold nV
  rcases hm with ⟨rfl, hr⟩ | ⟨rfl, hr, hM0, rfl, hM⟩
  · rw [if_pos (by omega)]; exact nrmV_shape rel kd q hg
  · rw [if_neg (by omega)]; exact divV_shape rel M hg hq hM0 hM
theorem conG_m (c : Ch) : (conG c).1.m.length ≤ 100 := by
  have b4 := nx_lt (linG (nxC (nxC c))).2.1 (n := 12) (by omega) (by omega)
  unfold conG
  simp only
  generalize linG (nxC (nxC c)) = l at *
  generalize nxV l.2.1 12 = v4 at *
  by_cases hr : 4 ≤ 1 + nxV c 5
  · rw [if_pos hr]
    show (rs ((1 + v4 : Int) : Rat)).length ≤ 100
    have e : (1 + v4 : Int) = (((1 + v4).toNat : Nat) : Int) := by omega
    rw [e, rs_nat]
    have := dec_len_mono (show (1 + v4).toNat ≤ 12 by omega)
    have h12 : (dec 12).length = 2 := by rw [← decN_eq]; rfl
    omega
  · rw [if_neg hr]; simp
theorem conG_ex (c : Ch) : ∃ (rel kd : Int) (us : List QT) (q : Rat) (m : Bs) (M : Nat), (conG c).1 = ⟨rel, kd, tx us, rs q, m⟩ ∧ okU us ∧ us.length ≤ 4 ∧ (∀ u ∈ us, szQ u.2 100) ∧ szQ q 100 ∧ (kd = 2 ∨ kd = 3) ∧ okM rel kd m M ∧ m.length ≤ 100 := by
  obtain ⟨⟨hl, ht, hc, hm⟩, hv⟩ := conG_good c
  have hmm := conG_m c
  have e1 := conG_ts c
  have e2 := conG_c c
  have l4 := linG_len (nxC (nxC c))
  have l5 := linG_c (nxC (nxC c))
  have l6 := (linG_ok2 (nxC (nxC c))).2
  rw [← e1] at l4 l6
  rw [← e2] at l5
  generalize (conG c).1 = b at *
  obtain ⟨us, q, h1, h2, hg, hq, hk, hr⟩ := con_cases hv hl (fun t h => (ht t h).2) hc hm
  obtain ⟨rel, kd, ts, cc, m⟩ := b
  simp only at h1 h2 hk hr hv l4 l5 l6 hmm
  subst h1 h2
  have hu : okU us := by
    have h3 : linB kd (tx us) (rs q) = true := by
      unfold conB at hv
      split at hv
      · simp only [Bool.and_eq_true] at hv; exact hv.1
      · split at hv
        · simp only [Bool.and_eq_true] at hv; exact hv.1
        · cases hv
    exact (linB_tx.1 h3).2
  have hs : ∀ u ∈ us, szQ u.2 100 := fun u h => sz_of_len (by omega) (l6 (u.1, rs u.2) (List.mem_map.2 ⟨u, h, rfl⟩)).2
  rw [tx_len] at l4
  rcases hr with ⟨rfl, hr⟩ | ⟨rfl, hr, M, hM0, rfl, hM⟩
  · exact ⟨rel, kd, us, q, [], 0, rfl, hu, l4, hs, sz_of_len (by omega) l5, hk, .inl ⟨rfl, hr⟩, hmm⟩
  · exact ⟨rel, 2, us, q, _, M, rfl, hu, l4, hs, sz_of_len (by omega) l5, hk, .inr ⟨rfl, hr, hM0, rfl, hM⟩, hmm⟩
theorem nV_scale {rel kd : Int} {us : List QT} {q f : Rat} {m m' : Bs} {M M' : Nat} (hf : 0 < f) (hu : okU us) (hm : okM rel kd m M) (hM : 4 ≤ rel → ((M' : Int) : Rat) = ((M : Int) : Rat) * f) : nV rel kd (mulU us f) (q * f) M' = nV rel kd us q M := by
  unfold nV
  rcases hm with ⟨_, hr⟩ | ⟨_, hr, hM0, _, _⟩
  · rw [if_pos (by omega), if_pos (by omega), nrmV_scale rel kd hf fun u h => (hu.1 u h).2]
  · rw [if_neg (by omega), if_neg (by omega), divV_scale rel us q M M' hM0 hf (hM (by omega))]
end Go.PE
