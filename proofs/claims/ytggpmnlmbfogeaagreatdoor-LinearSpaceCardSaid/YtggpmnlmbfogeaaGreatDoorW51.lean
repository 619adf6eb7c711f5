/-
  A part of the proof that the law's function returns true and leaves its arguments as they were, for every input (no condition): own lemmas of the proof, in the order of their use.
-/
import Derived.Test.YtggpmnlmbfogeaaGreatDoorW31
set_option linter.all false
namespace Go.PE
open Go.RowKit Go.Proofs.Tryz
set_option maxRecDepth 100000
theorem szQ_add {p q : Rat} {L M : Nat} (hp : szQ p L) (hq : szQ q M) : szQ (p + q) (2 * (L + M)) := by
  rw [← add_rs]
  refine szQ_mk (Nat.mul_ne_zero p.den_nz q.den_nz) ?_ ?_
  · rw [sg_natAbs]
    have := dec_len_mono (adN_le (decide (p.num < 0)) (decide (q.num < 0)) (p.num.natAbs * q.den) (q.num.natAbs * p.den))
    have := dec_add_len (p.num.natAbs * q.den) (q.num.natAbs * p.den)
    have := dec_mul_len p.num.natAbs q.den
    have := dec_mul_len q.num.natAbs p.den
    have := hp.1; have := hp.2; have := hq.1; have := hq.2; omega
  · have := dec_mul_len p.den q.den
    have := hp.2; have := hq.2; omega
abbrev lss (a b : Bs) : Prop := Op.bytesLess a b = true
theorem lss_irr : ∀ a : Bs, ¬ lss a a
  | [] => by simp [lss, Op.bytesLess]
  | a :: x => by
    have := lss_irr x
    simp [lss, Op.bytesLess] at this ⊢
    exact this
theorem lss_tr : ∀ {a b c : Bs}, lss a b → lss b c → lss a c
  | _, [], _, h, _ => by cases ‹Bs› <;> simp [lss, Op.bytesLess] at h
  | _, _ :: _, [], _, h => by simp [lss, Op.bytesLess] at h
  | [], _ :: _, _ :: _, _, _ => by simp [lss, Op.bytesLess]
  | a :: x, b :: y, c :: z, h, h' => by
    have ih := @lss_tr x y z
    simp only [lss, Op.bytesLess, Bool.or_eq_true, decide_eq_true_eq, Bool.and_eq_true, beq_iff_eq] at h h' ih ⊢
    rcases h with h | ⟨rfl, h⟩
    · rcases h' with h' | ⟨rfl, _⟩
      · exact .inl (UInt8.lt_trans h h')
      · exact .inl h
    · rcases h' with h' | ⟨rfl, h'⟩
      · exact .inl h'
      · exact .inr ⟨rfl, ih h h'⟩
theorem lss_tri : ∀ {a b : Bs}, ¬ lss a b → ¬ lss b a → a = b
  | [], [], _, _ => rfl
  | [], _ :: _, h, _ => by simp [lss, Op.bytesLess] at h
  | _ :: _, [], _, h => by simp [lss, Op.bytesLess] at h
  | a :: x, b :: y, h, h' => by
    have ih := @lss_tri x y
    simp only [lss, Op.bytesLess, Bool.or_eq_true, decide_eq_true_eq, Bool.and_eq_true, beq_iff_eq, not_or, not_and] at h h' ih
    have e : a = b := UInt8.le_antisymm (UInt8.not_lt.1 h'.1) (UInt8.not_lt.1 h.1)
    subst e
    rw [ih (h.2 rfl) (h'.2 rfl)]
theorem lss_ne {a b : Bs} (h : lss a b) : a ≠ b := fun e => lss_irr b (e ▸ h)
theorem lss_as {a b : Bs} (h : lss a b) : ¬ lss b a := fun h' => lss_irr a (lss_tr h h')
def okU (us : List QT) : Prop := (∀ u ∈ us, nameB u.1 = true ∧ u.2 ≠ 0) ∧ us.Pairwise (fun a b => lss a.1 b.1)
theorem okU_nil : okU [] := ⟨fun u hu => (by cases hu), .nil⟩
theorem okU_cons {u : QT} {us : List QT} : okU (u :: us) ↔ (nameB u.1 = true ∧ u.2 ≠ 0) ∧ (∀ v ∈ us, lss u.1 v.1) ∧ okU us := by
  unfold okU
  rw [List.pairwise_cons]
  constructor
  · rintro ⟨h1, h2, h3⟩
    exact ⟨h1 u (by simp), h2, fun v hv => h1 v (by simp [hv]), h3⟩
  · rintro ⟨h1, h2, h3, h4⟩
    refine ⟨fun v hv => ?_, h2, h4⟩
    rcases List.mem_cons.1 hv with rfl | hv
    · exact h1
    · exact h3 v hv
theorem tx_getD {us : List QT} {i : Nat} (h : i < us.length) : (tx us).getD i ([], []) = ((us.getD i ([], 0)).1, rs (us.getD i ([], 0)).2) := by
  simp [tx, List.getD, List.getElem?_eq_getElem h]
theorem adj_pair {us : List QT} (h : ∀ i, i < us.length → i ≠ 0 → lss (us.getD (i - 1) ([], 0)).1 (us.getD i ([], 0)).1) : us.Pairwise (fun a b => lss a.1 b.1) := by
  induction us with
  | nil => exact .nil
  | cons u us ih =>
    have h2 : us.Pairwise (fun a b => lss a.1 b.1) := ih fun i hi h0 => by
      have := h (i + 1) (by simp only [List.length_cons]; omega) (by omega)
      rw [show i + 1 - 1 = (i - 1) + 1 by omega] at this
      simpa [List.getD] using this
    refine List.pairwise_cons.2 ⟨?_, h2⟩
    cases us with
    | nil => intro v hv; cases hv
    | cons w ws =>
      have h3 : lss u.1 w.1 := by
        have := h 1 (by simp) (by omega)
        simpa [List.getD] using this
      intro v hv
      rcases List.mem_cons.1 hv with rfl | hv
      · exact h3
      · exact lss_tr h3 ((List.pairwise_cons.1 h2).1 v hv)
theorem pair_adj {us : List QT} (h : us.Pairwise (fun a b => lss a.1 b.1)) {i : Nat} (hi : i < us.length) (h0 : i ≠ 0) : lss (us.getD (i - 1) ([], 0)).1 (us.getD i ([], 0)).1 := by
  have h1 : i - 1 < us.length := by omega
  have := List.pairwise_iff_getElem.1 h (i - 1) i h1 hi (by omega)
  simpa [List.getD, List.getElem?_eq_getElem h1, List.getElem?_eq_getElem hi] using this
theorem okI_tx {us : List QT} {i : Nat} (hi : i < us.length) : okI (tx us) i = true ↔ nameB (us.getD i ([], 0)).1 = true ∧ (us.getD i ([], 0)).2 ≠ 0 ∧ (i ≠ 0 → lss (us.getD (i - 1) ([], 0)).1 (us.getD i ([], 0)).1) := by
  unfold okI
  rw [tx_getD hi, tx_getD (show i - 1 < us.length by omega)]
  simp only [rd_rs, Option.isSome_some, Bool.true_and, Bool.and_eq_true, Bool.or_eq_true, decide_eq_true_eq, ne_eq, rs_is0, lss]
  constructor
  · rintro ⟨h1, h2, h3⟩
    exact ⟨h1, h2, fun h0 => h3.resolve_left h0⟩
  · rintro ⟨h1, h2, h3⟩
    exact ⟨h1, h2, (Classical.em (i = 0)).imp id h3⟩
theorem linB_tx {kd : Int} {us : List QT} {q : Rat} : linB kd (tx us) (rs q) = true ↔ (kd = 2 ∨ kd = 3) ∧ okU us := by
  unfold linB
  simp only [rd_rs, Option.isSome_some, Bool.true_and, Bool.and_eq_true, Bool.or_eq_true, decide_eq_true_eq, List.all_eq_true, List.mem_range, tx_len]
  refine and_congr_right fun _ => ⟨fun h => ⟨fun u hu => ?_, adj_pair fun i hi h0 => ((okI_tx hi).1 (h i hi)).2.2 h0⟩, fun h i hi => (okI_tx hi).2 ?_⟩
  · obtain ⟨i, hi, rfl⟩ := List.mem_iff_getElem.1 hu
    have := (okI_tx hi).1 (h i hi)
    simp only [List.getD, List.getElem?_eq_getElem hi, Option.getD_some] at this
    exact ⟨this.1, this.2.1⟩
  · exact ⟨(h.1 _ (getD_mem hi)).1, (h.1 _ (getD_mem hi)).2, fun h0 => pair_adj h.2 hi h0⟩
theorem linB_ex {kd : Int} {ts : List Trm} {c : Bs} (h : linB kd ts c = true) : ∃ (us : List QT) (q : Rat), ts = tx us ∧ c = rs q ∧ (kd = 2 ∨ kd = 3) ∧ okU us := by
  have h1 := h
  unfold linB at h1
  simp only [Bool.and_eq_true, Bool.or_eq_true, decide_eq_true_eq, List.all_eq_true, List.mem_range] at h1
  obtain ⟨hk, hcs, hok⟩ := h1
  obtain ⟨q, hq⟩ := Option.isSome_iff_exists.1 hcs
  have hcq := rs_rd hq
  have e : ts = tx (ts.map fun t => (t.1, (rd t.2).getD 0)) := by
    unfold tx
    rw [List.map_map]
    conv => lhs; rw [← List.map_id ts]
    refine List.map_congr_left fun t htm => ?_
    obtain ⟨i, hi, he⟩ := List.mem_iff_getElem.1 htm
    have h3 := hok i hi
    have e : ts.getD i ([], []) = t := by simp [List.getD, List.getElem?_eq_getElem hi, he]
    unfold okI at h3
    rw [e] at h3
    simp only [Bool.and_eq_true, decide_eq_true_eq] at h3
    obtain ⟨u, hu⟩ := Option.isSome_iff_exists.1 h3.2.1
    have := rs_rd hu
    show t = (t.1, rs ((rd t.2).getD 0))
    rw [hu]
    show t = (t.1, rs u)
    rw [← this]
  refine ⟨_, q, e, hcq, hk, ?_⟩
  rw [e, hcq] at h
  exact (linB_tx.1 h).2
def co : List QT → Bs → Rat
  | [], _ => 0
  | u :: us, n => if u.1 = n then u.2 else co us n
theorem co_0 {us : List QT} {n : Bs} (h : ∀ u ∈ us, u.1 ≠ n) : co us n = 0 := by
  induction us with
  | nil => rfl
  | cons u us ih =>
    unfold co
    rw [if_neg (h u (by simp)), ih fun v hv => h v (by simp [hv])]
theorem co_lt {us : List QT} {n : Bs} (h : ∀ u ∈ us, lss n u.1) : co us n = 0 := co_0 fun u hu => (lss_ne (h u hu)).symm
theorem okU_ext : ∀ {a b : List QT}, okU a → okU b → (∀ n, co a n = co b n) → a = b
  | [], [], _, _, _ => rfl
  | [], v :: b, _, hb, h => by
    have := h v.1
    simp only [co, if_true] at this
    exact absurd this.symm (okU_cons.1 hb).1.2
  | u :: a, [], ha, _, h => by
    have := h u.1
    simp only [co, if_true] at this
    exact absurd this (okU_cons.1 ha).1.2
  | u :: a, v :: b, ha, hb, h => by
    obtain ⟨⟨_, u0⟩, hu, ha'⟩ := okU_cons.1 ha
    obtain ⟨⟨_, v0⟩, hv, hb'⟩ := okU_cons.1 hb
    have e : u.1 = v.1 := by
      refine lss_tri (fun hlt => ?_) (fun hlt => ?_)
      · have := h u.1
        rw [co_lt (us := v :: b) (fun w hw => by
          rcases List.mem_cons.1 hw with rfl | hw
          · exact hlt
          · exact lss_tr hlt (hv w hw))] at this
        simp only [co, if_true] at this
        exact u0 this
      · have := h v.1
        rw [co_lt (us := u :: a) (fun w hw => by
          rcases List.mem_cons.1 hw with rfl | hw
          · exact hlt
          · exact lss_tr hlt (hu w hw))] at this
        simp only [co, if_true] at this
        exact v0 this.symm
    have e2 : u.2 = v.2 := by
      have := h u.1
      simpa only [co, if_true, e] using this
    have e3 : u = v := Prod.ext e e2
    subst e3
    rw [okU_ext ha' hb' fun n => ?_]
    by_cases hn : u.1 = n
    · subst hn
      rw [co_lt hu, co_lt hv]
    · have := h n
      simpa only [co, if_neg hn] using this
theorem mulU_cons (u : QT) (us : List QT) (q : Rat) : mulU (u :: us) q = (u.1, u.2 * q) :: mulU us q := rfl
theorem mulU_mem {us : List QT} {q : Rat} {v : QT} (h : v ∈ mulU us q) : ∃ u ∈ us, v = (u.1, u.2 * q) := by
  obtain ⟨u, hu, rfl⟩ := List.mem_map.1 h
  exact ⟨u, hu, rfl⟩
theorem okU_mul {us : List QT} {q : Rat} (h : okU us) (hq : q ≠ 0) : okU (mulU us q) := by
  induction us with
  | nil => exact h
  | cons u us ih =>
    obtain ⟨h1, h2, h3⟩ := okU_cons.1 h
    rw [mulU_cons]
    refine okU_cons.2 ⟨⟨h1.1, fun e => (Rat.mul_eq_zero.1 e).elim h1.2 hq⟩, fun v hv => ?_, ih h3⟩
    obtain ⟨w, hw, rfl⟩ := mulU_mem hv
    exact h2 w hw
theorem okU_sc {us : List QT} {q : Rat} (h : okU us) : okU (scU us q) := by
  unfold scU
  split
  · exact okU_nil
  · exact okU_mul h ‹_›
theorem co_mulU (us : List QT) (q : Rat) (n : Bs) : co (mulU us q) n = co us n * q := by
  induction us with
  | nil => exact (Rat.zero_mul q).symm
  | cons u us ih =>
    rw [mulU_cons]
    unfold co
    split
    · rfl
    · exact ih
theorem co_sc (us : List QT) (q : Rat) (n : Bs) : co (scU us q) n = co us n * q := by
  unfold scU
  split
  · rename_i h
    rw [h, Rat.mul_zero]; rfl
  · exact co_mulU us q n
def addU : List QT → List QT → List QT
  | [], b => b
  | u :: a, [] => u :: a
  | u :: a, v :: b =>
    if lss u.1 v.1 then u :: addU a (v :: b) else
    if lss v.1 u.1 then v :: addU (u :: a) b else
    if u.2 + v.2 = 0 then addU a b else (u.1, u.2 + v.2) :: addU a b
termination_by a b => a.length + b.length
theorem addU_nil (a : List QT) : addU a [] = a := by cases a <;> simp [addU]
theorem nil_addU (b : List QT) : addU [] b = b := by simp [addU]
theorem addU_lt {u v : QT} {a b : List QT} (h : lss u.1 v.1) : addU (u :: a) (v :: b) = u :: addU a (v :: b) := by
  rw [addU, if_pos h]
theorem addU_gt {u v : QT} {a b : List QT} (h : lss v.1 u.1) : addU (u :: a) (v :: b) = v :: addU (u :: a) b := by
  rw [addU, if_neg (lss_as h), if_pos h]
theorem addU_eq {u v : QT} {a b : List QT} (h : u.1 = v.1) : addU (u :: a) (v :: b) = if u.2 + v.2 = 0 then addU a b else (u.1, u.2 + v.2) :: addU a b := by
  have h1 : ¬ lss u.1 v.1 := fun e => lss_ne e h
  have h2 : ¬ lss v.1 u.1 := fun e => lss_ne e h.symm
  rw [addU, if_neg h1, if_neg h2]
theorem addU_low {m : Bs} (a b : List QT) : (∀ u ∈ a, lss m u.1) → (∀ v ∈ b, lss m v.1) → ∀ w ∈ addU a b, lss m w.1 := by
  fun_induction addU a b with
  | case1 b => exact fun _ h => h
  | case2 u a => exact fun h _ => h
  | case3 u a v b h ih =>
    intro ha hb w hw
    rcases List.mem_cons.1 hw with rfl | hw
    · exact ha _ (by simp)
    · exact ih (fun x hx => ha x (by simp [hx])) hb w hw
  | case4 u a v b h1 h ih =>
    intro ha hb w hw
    rcases List.mem_cons.1 hw with rfl | hw
    · exact hb _ (by simp)
    · exact ih ha (fun x hx => hb x (by simp [hx])) w hw
  | case5 u a v b h1 h2 h ih =>
    intro ha hb w hw
    exact ih (fun x hx => ha x (by simp [hx])) (fun x hx => hb x (by simp [hx])) w hw
  | case6 u a v b h1 h2 h ih =>
    intro ha hb w hw
    rcases List.mem_cons.1 hw with rfl | hw
    · exact ha u (by simp)
    · exact ih (fun x hx => ha x (by simp [hx])) (fun x hx => hb x (by simp [hx])) w hw
theorem okU_add (a b : List QT) : okU a → okU b → okU (addU a b) := by
  fun_induction addU a b with
  | case1 b => exact fun _ h => h
  | case2 u a => exact fun h _ => h
  | case3 u a v b h ih =>
    intro ha hb
    obtain ⟨h1, h2, h3⟩ := okU_cons.1 ha
    obtain ⟨k1, k2, k3⟩ := okU_cons.1 hb
    refine okU_cons.2 ⟨h1, addU_low a (v :: b) h2 (fun x hx => ?_), ih h3 hb⟩
    rcases List.mem_cons.1 hx with rfl | hx
    · exact h
    · exact lss_tr h (k2 x hx)
  | case4 u a v b h0 h ih =>
    intro ha hb
    obtain ⟨h1, h2, h3⟩ := okU_cons.1 ha
    obtain ⟨k1, k2, k3⟩ := okU_cons.1 hb
    refine okU_cons.2 ⟨k1, addU_low (u :: a) b (fun x hx => ?_) k2, ih ha k3⟩
    rcases List.mem_cons.1 hx with rfl | hx
    · exact h
    · exact lss_tr h (h2 x hx)
  | case5 u a v b h1 h2 h ih =>
    intro ha hb
    exact ih (okU_cons.1 ha).2.2 (okU_cons.1 hb).2.2
  | case6 u a v b h1 h2 h ih =>
    intro ha hb
    obtain ⟨g1, g2, g3⟩ := okU_cons.1 ha
    obtain ⟨k1, k2, k3⟩ := okU_cons.1 hb
    have e := lss_tri h1 h2
    exact okU_cons.2 ⟨⟨g1.1, h⟩, addU_low a b g2 (fun x hx => by show lss u.1 x.1; rw [e]; exact k2 x hx), ih g3 k3⟩
theorem co_add (a b : List QT) (n : Bs) : okU a → okU b → co (addU a b) n = co a n + co b n := by
  fun_induction addU a b with
  | case1 b => exact fun _ _ => by simp only [co, Rat.zero_add]
  | case2 u a => exact fun _ _ => by simp only [co, Rat.add_zero]
  | case3 u a v b h ih =>
    intro ha hb
    have ih := ih (okU_cons.1 ha).2.2 hb
    obtain ⟨k1, k2, k3⟩ := okU_cons.1 hb
    by_cases hn : u.1 = n
    · subst hn
      rw [co_lt (us := v :: b) fun x hx => by
        rcases List.mem_cons.1 hx with rfl | hx
        · exact h
        · exact lss_tr h (k2 x hx)]
      simp only [co, if_true, Rat.add_zero]
    · rw [co, if_neg hn, ih]
      conv => rhs; rw [co, if_neg hn]
  | case4 u a v b h0 h ih =>
    intro ha hb
    have ih := ih ha (okU_cons.1 hb).2.2
    obtain ⟨k1, k2, k3⟩ := okU_cons.1 ha
    by_cases hn : v.1 = n
    · subst hn
      rw [co_lt (us := u :: a) fun x hx => by
        rcases List.mem_cons.1 hx with rfl | hx
        · exact h
        · exact lss_tr h (k2 x hx)]
      simp only [co, if_true, Rat.zero_add]
    · rw [co, if_neg hn, ih]
      conv => rhs; rhs; rw [co, if_neg hn]
  | case5 u a v b h1 h2 h ih =>
    intro ha hb
    have ih := ih (okU_cons.1 ha).2.2 (okU_cons.1 hb).2.2
    have e := lss_tri h1 h2
    rw [ih]
    by_cases hn : u.1 = n
    · have hn' : v.1 = n := e ▸ hn
      rw [co_lt (us := a) fun x hx => hn ▸ (okU_cons.1 ha).2.1 x hx, co_lt (us := b) fun x hx => hn' ▸ (okU_cons.1 hb).2.1 x hx]
      simp only [co, if_pos hn, if_pos hn', h, Rat.add_zero]
    · have hn' : ¬ v.1 = n := e ▸ hn
      simp only [co, if_neg hn, if_neg hn']
  | case6 u a v b h1 h2 h ih =>
    intro ha hb
    have ih := ih (okU_cons.1 ha).2.2 (okU_cons.1 hb).2.2
    have e := lss_tri h1 h2
    by_cases hn : u.1 = n
    · have hn' : v.1 = n := e ▸ hn
      simp only [co, if_pos hn, if_pos hn']
    · have hn' : ¬ v.1 = n := e ▸ hn
      simp only [co, if_neg hn, if_neg hn', ih]
theorem addU_len (a b : List QT) : (addU a b).length ≤ a.length + b.length := by
  fun_induction addU a b with
  | case1 b => simp
  | case2 u a => simp
  | case3 u a v b h ih => simp only [List.length_cons] at ih ⊢; omega
  | case4 u a v b h0 h ih => simp only [List.length_cons] at ih ⊢; omega
  | case5 u a v b h1 h2 h ih => simp only [List.length_cons] at ih ⊢; omega
  | case6 u a v b h1 h2 h ih => simp only [List.length_cons] at ih ⊢; omega
theorem addU_sz (a b : List QT) {L M : Nat} : (∀ u ∈ a, szQ u.2 L) → (∀ u ∈ b, szQ u.2 M) → ∀ u ∈ addU a b, szQ u.2 (2 * (L + M)) := by
  fun_induction addU a b with
  | case1 b => exact fun _ h u hu => (h u hu).mono (by omega)
  | case2 u a => exact fun h _ u hu => (h u hu).mono (by omega)
  | case3 u a v b h ih =>
    intro ha hb w hw
    rcases List.mem_cons.1 hw with rfl | hw
    · exact (ha _ (by simp)).mono (by omega)
    · exact ih (fun x hx => ha x (by simp [hx])) hb w hw
  | case4 u a v b h1 h ih =>
    intro ha hb w hw
    rcases List.mem_cons.1 hw with rfl | hw
    · exact (hb _ (by simp)).mono (by omega)
    · exact ih ha (fun x hx => hb x (by simp [hx])) w hw
  | case5 u a v b h1 h2 h ih =>
    intro ha hb w hw
    exact ih (fun x hx => ha x (by simp [hx])) (fun x hx => hb x (by simp [hx])) w hw
  | case6 u a v b h1 h2 h ih =>
    intro ha hb w hw
    rcases List.mem_cons.1 hw with rfl | hw
    · exact szQ_add (ha u (by simp)) (hb v (by simp))
    · exact ih (fun x hx => ha x (by simp [hx])) (fun x hx => hb x (by simp [hx])) w hw
theorem scU_sz {us : List QT} {q : Rat} {L M : Nat} (h : ∀ u ∈ us, szQ u.2 L) (hq : szQ q M) : ∀ u ∈ scU us q, szQ u.2 (L + M) := by
  unfold scU
  split
  · intro u hu; cases hu
  · intro u hu
    obtain ⟨w, hw, rfl⟩ := mulU_mem hu
    exact szQ_mul (h w hw) hq
end Go.PE
