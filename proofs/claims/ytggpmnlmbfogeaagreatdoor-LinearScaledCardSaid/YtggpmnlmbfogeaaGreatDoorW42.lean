/-
  A part of the proof that the law's function returns true and leaves its arguments as they were, for every input (no condition): own lemmas of the proof, in the order of their use.
-/
import Derived.Test.YtggpmnlmbfogeaaGreatDoorW41
set_option linter.all false
namespace Go.PE
open Go.RowKit Go.Proofs.Tryz
set_option maxRecDepth 100000
theorem emod_rel {a b x x' P P' : Int} (ha : 0 < a) (hb : 0 < b) (hx : b * x' = a * x) (hP : b * P' = a * P) : b * (x' % P') = a * (x % P) := by
  rw [← Int.mul_emod_mul_of_pos _ _ hb, ← Int.mul_emod_mul_of_pos _ _ ha, hx, hP]
theorem ediv_rel {a b x x' P P' : Int} (ha : 0 < a) (hb : 0 < b) (hx : b * x' = a * x) (hP : b * P' = a * P) : x' / P' = x / P := by
  rw [← Int.mul_ediv_mul_of_pos x' P' hb, ← Int.mul_ediv_mul_of_pos x P ha, hx, hP]
theorem zero_rel {a b x x' : Int} (ha : 0 < a) (hb : 0 < b) (hx : b * x' = a * x) : x' = 0 ↔ x = 0 := by
  constructor
  · rintro rfl
    rw [Int.mul_zero] at hx
    exact (Int.mul_eq_zero.1 hx.symm).resolve_left (by omega)
  · rintro rfl
    rw [Int.mul_zero] at hx
    exact (Int.mul_eq_zero.1 hx).resolve_left (by omega)
theorem nat_rel {a b : Nat} {x x' : Int} (hx : (b : Int) * x' = a * x) : b * x'.natAbs = a * x.natAbs := by
  have := congrArg Int.natAbs hx
  rwa [Int.natAbs_mul, Int.natAbs_mul, Int.natAbs_natCast, Int.natAbs_natCast] at this
theorem gcd_rel {a b g g' y y' : Nat} (hg : b * g' = a * g) (hy : b * y' = a * y) : b * Nat.gcd g' y' = a * Nat.gcd g y := by
  rw [← Nat.gcd_mul_left, ← Nat.gcd_mul_left, hg, hy]
theorem int_rel {a b : Nat} {r : Rat} (hr : r * (b : Int) = (a : Int)) {x x' : Int} (h : (x' : Rat) = (x : Rat) * r) : (b : Int) * x' = a * x := by
  have : (((b : Int) * x' : Int) : Rat) = (((a : Int) * x : Int) : Rat) := by
    rw [Rat.intCast_mul, Rat.intCast_mul, h, ← hr]
    grind
  exact_mod_cast this
theorem rel_int {a b : Nat} (hb : b ≠ 0) {r : Rat} (hr : r * (b : Int) = (a : Int)) {x x' : Int} (h : (b : Int) * x' = a * x) : (x' : Rat) = (x : Rat) * r := by
  have h2 : (((b : Int) * x' : Int) : Rat) = (((a : Int) * x : Int) : Rat) := by rw [h]
  rw [Rat.intCast_mul, Rat.intCast_mul, ← hr] at h2
  have hb' : ((b : Int) : Rat) ≠ 0 := by
    intro e
    have : (b : Int) = 0 := by exact_mod_cast e
    omega
  grind
theorem num_pos {q : Rat} : 0 < q.num ↔ 0 < q := by
  rw [Rat.lt_iff]
  simp
theorem mul_den (r : Rat) : r * ((r.den : Int) : Rat) = (r.num : Rat) := by
  have h : r = (r.num : Rat) / ((r.den : Int) : Rat) := by
    have h1 := Rat.mkRat_self r
    rw [Rat.mkRat_eq_div] at h1
    exact h1.symm
  have n : ((r.den : Int) : Rat) ≠ 0 := by
    intro e
    have h2 : (r.den : Int) = 0 := by exact_mod_cast e
    have := r.den_pos
    omega
  generalize ((r.den : Int) : Rat) = d at *
  generalize (r.num : Rat) = m at *
  rw [h]
  grind
theorem rat_ab {r : Rat} (h : 0 < r) : ∃ a b : Nat, 0 < a ∧ 0 < b ∧ r * (b : Int) = (a : Int) := by
  have hn : 0 < r.num := num_pos.2 h
  refine ⟨r.num.natAbs, r.den, by omega, r.den_pos, ?_⟩
  have e : ((r.num.natAbs : Nat) : Int) = r.num := by omega
  rw [e]
  exact mul_den r
def relS (a b : Nat) (r : Rat) (st st' : List QT × Nat) : Prop := st'.1 = mulU st.1 r ∧ b * st'.2 = a * st.2
theorem stepD_rel {a b : Nat} {r : Rat} (ha : 0 < a) (hb : 0 < b) (hr : r * (b : Int) = (a : Int)) {P P' : Nat} (hP : b * P' = a * P) {st st' : List QT × Nat} (h : relS a b r st st') {v : QT} (h1 : intQ v.2) (h2 : intQ (v.2 * r)) :
    relS a b r (stepD P st v) (stepD P' st' (v.1, v.2 * r)) := by
  obtain ⟨e1, e2⟩ := h
  have hx : (b : Int) * (v.2 * r).num = a * v.2.num := int_rel hr (by rw [← h2, ← h1])
  have hP2 : (b : Int) * (P' : Int) = a * (P : Int) := by exact_mod_cast hP
  have hm := emod_rel (show (0 : Int) < a by omega) (show (0 : Int) < b by omega) hx hP2
  have hz := zero_rel (show (0 : Int) < a by omega) (show (0 : Int) < b by omega) hm
  unfold stepD
  by_cases h0 : v.2.num % (P : Int) = 0
  · rw [if_pos h0, if_pos (hz.2 h0)]
    exact ⟨e1, e2⟩
  · rw [if_neg h0, if_neg (fun e => h0 (hz.1 e))]
    refine ⟨?_, gcd_rel e2 (nat_rel hm)⟩
    show st'.1 ++ _ = mulU (st.1 ++ _) r
    rw [e1, rel_int (by omega) hr hm]
    simp [mulU]
theorem foldD_rel {a b : Nat} {r : Rat} (ha : 0 < a) (hb : 0 < b) (hr : r * (b : Int) = (a : Int)) {P P' : Nat} (hP : b * P' = a * P) : ∀ (vs : List QT) {st st' : List QT × Nat}, relS a b r st st' → (∀ v ∈ vs, intQ v.2 ∧ intQ (v.2 * r)) →
    relS a b r (vs.foldl (stepD P) st) ((mulU vs r).foldl (stepD P') st')
  | [], _, _, h, _ => h
  | v :: vs, _, _, h, hv => by
    rw [mulU_cons, List.foldl_cons, List.foldl_cons]
    exact foldD_rel ha hb hr hP vs (stepD_rel ha hb hr hP h (hv v (by simp)).1 (hv v (by simp)).2) fun w hw => hv w (by simp [hw])
theorem natR {n : Nat} (h : n ≠ 0) : ((n : Int) : Rat) ≠ 0 := by
  intro e
  have : (n : Int) = 0 := by exact_mod_cast e
  omega
theorem divE_rel {a b : Nat} {r : Rat} (ha : 0 < a) (hb : 0 < b) (hr : r * (b : Int) = (a : Int)) {P P' : Nat} (hP : b * P' = a * P) {st st' : List QT × Nat} (h : relS a b r st st') (hg : st.2 ≠ 0) (rel : Int) {c c' : Int} (hc : (b : Int) * c' = a * c) :
    divE rel P' c' st' = divE rel P c st := by
  obtain ⟨us, g⟩ := st
  obtain ⟨us', g'⟩ := st'
  obtain ⟨rfl, e2⟩ := h
  have e2 : b * g' = a * g := e2
  have hg : g ≠ 0 := hg
  have ha' : (0 : Int) < a := by omega
  have hb' : (0 : Int) < b := by omega
  have hg2 : (b : Int) * (g' : Int) = a * (g : Int) := by exact_mod_cast e2
  have hP2 : (b : Int) * (P' : Int) = a * (P : Int) := by exact_mod_cast hP
  have g0 : g' ≠ 0 := fun e => by
    have := (zero_rel ha' hb' hg2).1 (by omega)
    omega
  have hz := zero_rel ha' hb' (emod_rel ha' hb' hc hg2)
  have hgP : g' = P' ↔ g = P := by
    constructor
    · intro e
      rw [e, hP] at e2
      exact (Nat.eq_of_mul_eq_mul_left ha e2).symm
    · intro e
      rw [e, ← hP] at e2
      exact Nat.eq_of_mul_eq_mul_left hb e2
  have hgr : ((g' : Int) : Rat) = ((g : Int) : Rat) * r := rel_int (by omega) hr hg2
  have hcr : ((c' : Int) : Rat) = ((c : Int) : Rat) * r := rel_int (by omega) hr hc
  have r0 : r ≠ 0 := by
    intro e
    rw [e, Rat.zero_mul] at hr
    have : (0 : Int) = (a : Int) := by exact_mod_cast hr
    omega
  have n1 := natR hg
  have n2 := natR g0
  have hk : r * (((1 : Int) : Rat) / ((g' : Int) : Rat)) = ((1 : Int) : Rat) / ((g : Int) : Rat) := by
    rw [hgr]
    rw [hgr] at n2
    generalize ((1 : Int) : Rat) = o
    grind
  have o0 : ((1 : Int) : Rat) ≠ 0 := by decide
  have k0 : ((1 : Int) : Rat) / ((g : Int) : Rat) ≠ 0 := by
    rw [Rat.div_def]
    intro e
    exact (Rat.mul_eq_zero.1 e).elim o0 (fun e => n1 (by rw [← Rat.inv_inv ((g : Int) : Rat), e, Rat.inv_zero]))
  have k1 : ((1 : Int) : Rat) / ((g' : Int) : Rat) ≠ 0 := fun e => k0 (by rw [← hk, e, Rat.mul_zero])
  have eU : scU (mulU us r) (((1 : Int) : Rat) / ((g' : Int) : Rat)) = scU us (((1 : Int) : Rat) / ((g : Int) : Rat)) := by
    unfold scU
    rw [if_neg k0, if_neg k1, mulU_mul, hk]
  have eC : (c' : Rat) * (((1 : Int) : Rat) / ((g' : Int) : Rat)) = (c : Rat) * (((1 : Int) : Rat) / ((g : Int) : Rat)) := by
    rw [hcr, Rat.mul_assoc, hk]
  have eP := ediv_rel ha' hb' hP2 hg2
  unfold divE
  simp only [hgP, eU, eC, eP, ne_eq, hz]
theorem pos_ne {r : Rat} (h : 0 < r) : r ≠ 0 := fun e => by rw [e] at h; exact absurd h (by decide)
theorem natR_pos {n : Nat} (h : n ≠ 0) : 0 < ((n : Int) : Rat) := by
  have : (0 : Int) < (n : Int) := by omega
  exact_mod_cast this
theorem divV_scale (rel : Int) (us : List QT) (c : Rat) (M M' : Nat) (hM : M ≠ 0) {f : Rat} (hf : 0 < f) (hMf : ((M' : Int) : Rat) = ((M : Int) : Rat) * f) :
    divV rel (mulU us f) (c * f) M' = divV rel us c M := by
  have d1 := dD_ne us c
  have d2 := dD_ne (mulU us f) (c * f)
  have i1 := vs_int (us := us) (c := c)
  have i2 := vs_int (us := mulU us f) (c := c * f)
  have j1 := dD_int (us := us) (c := c)
  have j2 := dD_int (us := mulU us f) (c := c * f)
  unfold divV
  rw [scU_dD] at i1 i2
  rw [scU_dD, scU_dD]
  generalize dD us c = D at *
  generalize dD (mulU us f) (c * f) = D' at *
  have n1 := natR d1
  have p1 := natR_pos d1
  have p2 := natR_pos d2
  have hr : 0 < f * ((D' : Int) : Rat) / ((D : Int) : Rat) := by
    rw [Rat.div_def]
    exact Rat.mul_pos (Rat.mul_pos hf p2) (Rat.inv_pos.2 p1)
  have er : ((D : Int) : Rat) * (f * ((D' : Int) : Rat) / ((D : Int) : Rat)) = f * ((D' : Int) : Rat) := by grind
  generalize f * ((D' : Int) : Rat) / ((D : Int) : Rat) = r at *
  obtain ⟨a, b, ha, hb, hab⟩ := rat_ab hr
  have hP : b * (M' * D') = a * (M * D) := by
    have : (b : Int) * ((M' * D' : Nat) : Int) = a * ((M * D : Nat) : Int) := by
      refine int_rel hab ?_
      rw [Int.natCast_mul, Int.natCast_mul, Rat.intCast_mul, Rat.intCast_mul, hMf]
      grind
    exact_mod_cast this
  have eU : mulU (mulU us f) ((D' : Int) : Rat) = mulU (mulU us ((D : Int) : Rat)) r := by
    rw [mulU_mul, mulU_mul, er]
  rw [eU] at i2 ⊢
  have hc : c * f * ((D' : Int) : Rat) = c * ((D : Int) : Rat) * r := by
    rw [Rat.mul_assoc, ← er, Rat.mul_assoc]
  have hcn : (b : Int) * (c * f * ((D' : Int) : Rat)).num = a * (c * ((D : Int) : Rat)).num := int_rel hab (by rw [← j1, ← j2, hc])
  have hP2 : (b : Int) * ((M' * D' : Nat) : Int) = a * ((M * D : Nat) : Int) := by exact_mod_cast hP
  have hm := emod_rel (show (0 : Int) < a by omega) (show (0 : Int) < b by omega) hcn hP2
  have hS := foldD_rel ha hb hab hP (mulU us ((D : Int) : Rat)) (st := ([], M * D)) (st' := ([], M' * D')) ⟨rfl, hP⟩ fun v hv => ⟨i1 v hv, i2 (v.1, v.2 * r) (List.mem_map.2 ⟨v, hv, rfl⟩)⟩
  refine divE_rel ha hb hab hP hS ?_ rel hm
  have hg0 : ∀ (vs : List QT) (st : List QT × Nat), st.2 ≠ 0 → (vs.foldl (stepD (M * D)) st).2 ≠ 0 := by
    intro vs
    induction vs with
    | nil => exact fun _ h => h
    | cons v vs ih =>
      intro st h
      refine ih _ ?_
      unfold stepD
      split
      · exact h
      · have := Nat.gcd_pos_of_pos_left (v.2.num % ((M * D : Nat) : Int)).natAbs (show 0 < st.2 by omega)
        show Nat.gcd _ _ ≠ 0
        omega
  exact hg0 _ _ (Nat.mul_ne_zero hM d1)
theorem gcdU_rel {a b : Nat} {r f : Rat} (hr : r * (b : Int) = (a : Int)) {D D' : Nat} (er : ((D : Int) : Rat) * r = f * ((D' : Int) : Rat)) : ∀ (us : List QT) (g g' : Nat), b * g' = a * g → (∀ u ∈ us, u.2.den ∣ D ∧ (u.2 * f).den ∣ D') →
    b * (mulU us f).foldl (fun g u => Nat.gcd g (zU D' u).natAbs) g' = a * us.foldl (fun g u => Nat.gcd g (zU D u).natAbs) g
  | [], _, _, h, _ => h
  | u :: us, g, g', h, hu => by
    rw [mulU_cons, List.foldl_cons, List.foldl_cons]
    refine gcdU_rel hr er us _ _ (gcd_rel h (nat_rel (int_rel hr ?_))) fun w hw => hu w (by simp [hw])
    have h1 := zU_eq (u := u) (hu u (by simp)).1
    have h2 := zU_eq (u := (u.1, u.2 * f)) (hu u (by simp)).2
    rw [← h1, ← h2, Rat.mul_assoc, Rat.mul_assoc, er]
theorem prim_scale {us : List QT} {f : Rat} (hf : 0 < f) (hne : us ≠ []) (h0 : ∀ u ∈ us, u.2 ≠ 0) : prim (mulU us f) = prim us / f := by
  have d1 : lcmU 1 us ≠ 0 := lcmU_pos (by omega)
  have d2 : lcmU 1 (mulU us f) ≠ 0 := lcmU_pos (by omega)
  have v1 := (lcmU_dvd (us := us) (d := 1)).2
  have v2 := (lcmU_dvd (us := mulU us f) (d := 1)).2
  unfold prim gcdU
  generalize lcmU 1 us = D at *
  generalize lcmU 1 (mulU us f) = D' at *
  have n1 := natR d1
  have p1 := natR_pos d1
  have p2 := natR_pos d2
  have n2 := natR d2
  have hr : 0 < f * ((D' : Int) : Rat) / ((D : Int) : Rat) := by
    rw [Rat.div_def]
    exact Rat.mul_pos (Rat.mul_pos hf p2) (Rat.inv_pos.2 p1)
  have er : ((D : Int) : Rat) * (f * ((D' : Int) : Rat) / ((D : Int) : Rat)) = f * ((D' : Int) : Rat) := by grind
  generalize f * ((D' : Int) : Rat) / ((D : Int) : Rat) = r at *
  obtain ⟨a, b, ha, hb, hab⟩ := rat_ab hr
  have hg := gcdU_rel hab er us 0 0 rfl fun u hu => ⟨v1 u hu, v2 (u.1, u.2 * f) (List.mem_map.2 ⟨u, hu, rfl⟩)⟩
  have g0 : us.foldl (fun g u => Nat.gcd g (zU D u).natAbs) 0 ≠ 0 := gcdU_ne0 (.inr hne) fun u hu => zU_ne d1 (v1 u hu) (h0 u hu)
  generalize us.foldl (fun g u => Nat.gcd g (zU D u).natAbs) 0 = G at *
  generalize (mulU us f).foldl (fun g u => Nat.gcd g (zU D' u).natAbs) 0 = G' at *
  have hgr : ((G' : Int) : Rat) = ((G : Int) : Rat) * r := rel_int (by omega) hab (by exact_mod_cast hg)
  have n3 := natR g0
  have r0 := pos_ne hr
  have f0 := pos_ne hf
  rw [hgr]
  grind
theorem num_mul_neg {q f : Rat} (hf : 0 < f) : (q * f).num < 0 ↔ q.num < 0 := by
  have h1 : ∀ x : Rat, x.num < 0 ↔ ¬ 0 ≤ x := fun x => by rw [← Rat.num_nonneg]; omega
  rw [h1, h1]
  refine not_congr ⟨fun h => ?_, fun h => Rat.mul_nonneg h (Rat.le_of_lt hf)⟩
  have := Rat.mul_nonneg h (Rat.le_of_lt (Rat.inv_pos.2 hf))
  rwa [Rat.mul_assoc, Rat.mul_inv_cancel f (pos_ne hf), Rat.mul_one] at this
theorem sgn_mul {q f : Rat} (hf : 0 < f) : sgn (q * f) = sgn q := by
  have h1 := num_mul_neg (q := q) hf
  have h2 : (q * f).num = 0 ↔ q.num = 0 := by
    rw [Rat.num_eq_zero, Rat.num_eq_zero, Rat.mul_eq_zero]
    exact ⟨fun h => h.resolve_right (pos_ne hf), .inl⟩
  unfold sgn
  simp only [h1, h2]
theorem kQ_scale {us : List QT} {f : Rat} (rel : Int) (hf : 0 < f) (hne : us ≠ []) (h0 : ∀ u ∈ us, u.2 ≠ 0) : kQ rel (mulU us f) = kQ rel us / f := by
  have e : ((mulU us f).getD 0 ([], 0)).2 = (us.getD 0 ([], 0)).2 * f := by
    cases us with
    | nil => exact absurd rfl hne
    | cons u us => rfl
  have e2 : (rel = 3 ∧ ((us.getD 0 ([], 0)).2 * f).num < 0) ↔ (rel = 3 ∧ (us.getD 0 ([], 0)).2.num < 0) := and_congr_right fun _ => num_mul_neg hf
  unfold kQ
  rw [e, prim_scale hf hne h0]
  simp only [e2]
  split
  · rw [Rat.div_def, Rat.div_def, Rat.neg_mul]
  · rfl
theorem nrmV_scale (rel kd : Int) {us : List QT} {c f : Rat} (hf : 0 < f) (h0 : ∀ u ∈ us, u.2 ≠ 0) : nrmV rel kd (mulU us f) (c * f) = nrmV rel kd us c := by
  have f0 := pos_ne hf
  by_cases hne : us = []
  · subst hne
    have e : cmpQ rel (c * f) = cmpQ rel c := by
      unfold cmpQ
      have : c * f = 0 ↔ c = 0 := by
        rw [Rat.mul_eq_zero]
        exact ⟨fun h => h.resolve_right f0, .inl⟩
      simp only [sgn_mul hf, this]
    unfold nrmV
    rw [mulU_nil, if_pos rfl, if_pos rfl, e]
  · have hne2 : mulU us f ≠ [] := fun e => hne (List.map_eq_nil_iff.1 e)
    have ek := kQ_scale rel hf hne h0
    have ec : c * f * (kQ rel us / f) = c * kQ rel us := by
      generalize kQ rel us = x
      grind
    have eu : scU (mulU us f) (kQ rel us / f) = scU us (kQ rel us) := by
      have : f * (kQ rel us / f) = kQ rel us := by
        generalize kQ rel us = x
        grind
      unfold scU
      by_cases hk : kQ rel us = 0
      · rw [if_pos hk, if_pos (by rw [hk, Rat.div_def, Rat.zero_mul])]
      · rw [if_neg hk, if_neg (fun e => hk (by rw [← this, e, Rat.mul_zero])), mulU_mul, this]
    unfold nrmV
    rw [if_neg hne, if_neg hne2, ek, ec, eu]
end Go.PE
