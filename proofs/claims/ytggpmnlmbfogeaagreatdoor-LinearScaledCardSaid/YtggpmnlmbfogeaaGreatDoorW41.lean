/-
  A part of the proof that the law's function returns true and leaves its arguments as they were, for every input (no condition): own lemmas of the proof, in the order of their use.
-/
import Derived.Test.YtggpmnlmbfogeaaGreatDoorW31
set_option linter.all false
namespace Go.PE
open Go.RowKit Go.Proofs.Tryz
set_option maxRecDepth 100000
theorem conG_ts (c : Ch) : (conG c).1.ts = (linG (nxC (nxC c))).2.2 := by
  unfold conG; simp only
  by_cases h : 4 ≤ 1 + nxV c 5
  · rw [if_pos h]
  · rw [if_neg h]
theorem conG_c (c : Ch) : (conG c).1.c = (linG (nxC (nxC c))).1 := by
  unfold conG; simp only
  by_cases h : 4 ≤ 1 + nxV c 5
  · rw [if_pos h]
  · rw [if_neg h]
abbrev lss (a b : Bs) : Prop := Op.bytesLess a b = true
theorem lss_tr : ∀ {a b c : Bs}, lss a b → lss b c → lss a c
  | _, [], _, h, _ => by cases ‹Bs› <;> simp [lss, Op.bytesLess] at h
  | _, _ :: _, [], _, h => by simp [lss, Op.bytesLess] at h
  | [], _ :: _, _ :: _, _, _ => by simp [lss, Op.bytesLess]
  | a :: x, b :: y, c :: z, h, h' => by
    have ih := @lss_tr x y z
    simp only [lss, Op.bytesLess, Bool.or_eq_true, decide_eq_true_eq, Bool.and_eq_true, beq_iff_eq] at h h' ih ⊢
    rcases h with h | ⟨rfl, h⟩
    · rcases h' with h' | ⟨rfl, _⟩
      · exact .inl (UInt8.lt_trans h h')
      · exact .inl h
    · rcases h' with h' | ⟨rfl, h'⟩
      · exact .inl h'
      · exact .inr ⟨rfl, ih h h'⟩
def okU (us : List QT) : Prop := (∀ u ∈ us, nameB u.1 = true ∧ u.2 ≠ 0) ∧ us.Pairwise (fun a b => lss a.1 b.1)
theorem okU_cons {u : QT} {us : List QT} : okU (u :: us) ↔ (nameB u.1 = true ∧ u.2 ≠ 0) ∧ (∀ v ∈ us, lss u.1 v.1) ∧ okU us := by
  unfold okU
  rw [List.pairwise_cons]
  constructor
  · rintro ⟨h1, h2, h3⟩
    exact ⟨h1 u (by simp), h2, fun v hv => h1 v (by simp [hv]), h3⟩
  · rintro ⟨h1, h2, h3, h4⟩
    refine ⟨fun v hv => ?_, h2, h4⟩
    rcases List.mem_cons.1 hv with rfl | hv
    · exact h1
    · exact h3 v hv
theorem tx_getD {us : List QT} {i : Nat} (h : i < us.length) : (tx us).getD i ([], []) = ((us.getD i ([], 0)).1, rs (us.getD i ([], 0)).2) := by
  simp [tx, List.getD, List.getElem?_eq_getElem h]
theorem adj_pair {us : List QT} (h : ∀ i, i < us.length → i ≠ 0 → lss (us.getD (i - 1) ([], 0)).1 (us.getD i ([], 0)).1) : us.Pairwise (fun a b => lss a.1 b.1) := by
  induction us with
  | nil => exact .nil
  | cons u us ih =>
    have h2 : us.Pairwise (fun a b => lss a.1 b.1) := ih fun i hi h0 => by
      have := h (i + 1) (by simp only [List.length_cons]; omega) (by omega)
      rw [show i + 1 - 1 = (i - 1) + 1 by omega] at this
      simpa [List.getD] using this
    refine List.pairwise_cons.2 ⟨?_, h2⟩
    cases us with
    | nil => intro v hv; cases hv
    | cons w ws =>
      have h3 : lss u.1 w.1 := by
        have := h 1 (by simp) (by omega)
        simpa [List.getD] using this
      intro v hv
      rcases List.mem_cons.1 hv with rfl | hv
      · exact h3
      · exact lss_tr h3 ((List.pairwise_cons.1 h2).1 v hv)
theorem pair_adj {us : List QT} (h : us.Pairwise (fun a b => lss a.1 b.1)) {i : Nat} (hi : i < us.length) (h0 : i ≠ 0) : lss (us.getD (i - 1) ([], 0)).1 (us.getD i ([], 0)).1 := by
  have h1 : i - 1 < us.length := by omega
  have := List.pairwise_iff_getElem.1 h (i - 1) i h1 hi (by omega)
  simpa [List.getD, List.getElem?_eq_getElem h1, List.getElem?_eq_getElem hi] using this
theorem okI_tx {us : List QT} {i : Nat} (hi : i < us.length) : okI (tx us) i = true ↔ nameB (us.getD i ([], 0)).1 = true ∧ (us.getD i ([], 0)).2 ≠ 0 ∧ (i ≠ 0 → lss (us.getD (i - 1) ([], 0)).1 (us.getD i ([], 0)).1) := by
  unfold okI
  rw [tx_getD hi, tx_getD (show i - 1 < us.length by omega)]
  simp only [rd_rs, Option.isSome_some, Bool.true_and, Bool.and_eq_true, Bool.or_eq_true, decide_eq_true_eq, ne_eq, rs_is0, lss]
  constructor
  · rintro ⟨h1, h2, h3⟩
    exact ⟨h1, h2, fun h0 => h3.resolve_left h0⟩
  · rintro ⟨h1, h2, h3⟩
    exact ⟨h1, h2, (Classical.em (i = 0)).imp id h3⟩
theorem linB_tx {kd : Int} {us : List QT} {q : Rat} : linB kd (tx us) (rs q) = true ↔ (kd = 2 ∨ kd = 3) ∧ okU us := by
  unfold linB
  simp only [rd_rs, Option.isSome_some, Bool.true_and, Bool.and_eq_true, Bool.or_eq_true, decide_eq_true_eq, List.all_eq_true, List.mem_range, tx_len]
  refine and_congr_right fun _ => ⟨fun h => ⟨fun u hu => ?_, adj_pair fun i hi h0 => ((okI_tx hi).1 (h i hi)).2.2 h0⟩, fun h i hi => (okI_tx hi).2 ?_⟩
  · obtain ⟨i, hi, rfl⟩ := List.mem_iff_getElem.1 hu
    have := (okI_tx hi).1 (h i hi)
    simp only [List.getD, List.getElem?_eq_getElem hi, Option.getD_some] at this
    exact ⟨this.1, this.2.1⟩
  · exact ⟨(h.1 _ (getD_mem hi)).1, (h.1 _ (getD_mem hi)).2, fun h0 => pair_adj h.2 hi h0⟩
def co : List QT → Bs → Rat
  | [], _ => 0
  | u :: us, n => if u.1 = n then u.2 else co us n
theorem mulU_nil (q : Rat) : mulU [] q = [] := rfl
theorem mulU_cons (u : QT) (us : List QT) (q : Rat) : mulU (u :: us) q = (u.1, u.2 * q) :: mulU us q := rfl
theorem mulU_mem {us : List QT} {q : Rat} {v : QT} (h : v ∈ mulU us q) : ∃ u ∈ us, v = (u.1, u.2 * q) := by
  obtain ⟨u, hu, rfl⟩ := List.mem_map.1 h
  exact ⟨u, hu, rfl⟩
theorem mulU_mul (us : List QT) (p q : Rat) : mulU (mulU us p) q = mulU us (p * q) := by
  unfold mulU
  rw [List.map_map]
  exact List.map_congr_left fun u _ => by simp [Rat.mul_assoc]
theorem okU_mul {us : List QT} {q : Rat} (h : okU us) (hq : q ≠ 0) : okU (mulU us q) := by
  induction us with
  | nil => exact h
  | cons u us ih =>
    obtain ⟨h1, h2, h3⟩ := okU_cons.1 h
    rw [mulU_cons]
    refine okU_cons.2 ⟨⟨h1.1, fun e => (Rat.mul_eq_zero.1 e).elim h1.2 hq⟩, fun v hv => ?_, ih h3⟩
    obtain ⟨w, hw, rfl⟩ := mulU_mem hv
    exact h2 w hw
def addU : List QT → List QT → List QT
  | [], b => b
  | u :: a, [] => u :: a
  | u :: a, v :: b =>
    if lss u.1 v.1 then u :: addU a (v :: b) else
    if lss v.1 u.1 then v :: addU (u :: a) b else
    if u.2 + v.2 = 0 then addU a b else (u.1, u.2 + v.2) :: addU a b
termination_by a b => a.length + b.length
end Go.PE
