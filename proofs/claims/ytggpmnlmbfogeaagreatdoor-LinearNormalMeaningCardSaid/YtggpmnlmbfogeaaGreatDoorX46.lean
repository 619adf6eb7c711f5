/-
  A part of the proof that the law's function returns true and leaves its arguments as they were, for every input (no condition): own lemmas of the proof, in the order of their use.
-/
import Derived.Test.YtggpmnlmbfogeaaGreatDoorX45
set_option linter.all false
namespace Go.PE
open Go.RowKit Go.Proofs.Tryz
set_option maxRecDepth 100000
theorem den1 {q : Rat} : q.den = 1 ↔ ∃ z : Int, q = (z : Rat) := by
 constructor
 ·intro h
  have e1 := Rat.num_divInt_den q
  rw [h] at e1
  exact ⟨q.num, e1.symm.trans (divInt_one' _)⟩
 ·rintro ⟨z, rfl⟩; rfl
theorem intQ_ex {q : Rat} : intQ q ↔ ∃ z : Int, q = (z : Rat) := ⟨fun h => ⟨_, h⟩, fun ⟨z, h⟩ => by rw [h]; rfl⟩
theorem den1_add {q : Rat} (y : Int) : (q + (y : Rat)).den = 1 ↔ q.den = 1 := by
 rw [den1, den1]
 constructor
 ·rintro ⟨z, h⟩
  exact ⟨z - y, by rw [Rat.intCast_sub, ← h]; grind⟩
 ·rintro ⟨z, h⟩
  exact ⟨z + y, by rw [Rat.intCast_add, h]⟩
def formI (rel kd : Int) (us : List QT) (q : Rat) (M : Nat) : Prop :=
 ∃ (rel' : Int) (us' : List QT) (q' : Rat) (m' : Bs) (M' : Nat), nV rel kd us q M = conQ rel' kd us' q' m' ∧ okU us' ∧ goodU us' ∧ us'.length ≤ us.length ∧ szQ q' 1000 ∧ okM rel' kd m' M' ∧
  nV rel' kd us' q' M' = nV rel kd us q M ∧ (∀ u ∈ us', ∃ w ∈ us, u.1 = w.1) ∧
  ∀ f : Bs → Rat, (kd = 2 → ∀ n, intQ (f n)) → holdQ rel' (q' + sumQ us' f) M' = holdQ rel (q + sumQ us f) M
theorem form_tru {rel kd : Int} {us : List QT} {q : Rat} {M : Nat} {b : Bool} (e : nV rel kd us q M = truQ kd b) (h : ∀ f : Bs → Rat, (kd = 2 → ∀ n, intQ (f n)) → holdQ rel (q + sumQ us f) M = b) : formI rel kd us q M := by
 have h1 : szQ (0 : Rat) 1000 := by
  refine szZ (a := 0) ?_
  rw [show (0 : Int).natAbs = 0 from rfl, dec_zero]; simp
 refine ⟨if b then 1 else 2, [], 0, [], 0, by rw [e, truQ_con], okU_nil, ⟨by simp, fun u h => (by cases h)⟩, by simp, h1, .inl ⟨rfl, by cases b <;> simp⟩, ?_, fun u h => (by cases h), fun f hf => ?_⟩
 ·rw [e, ← tru_norm]
  unfold nV
  rw [if_pos (by cases b <;> decide)]
 ·rw [h f hf]
  have := tru_hold b 0
  exact this
theorem prim_sz4 {us : List QT} (hl : us.length ≤ 4) (hs : ∀ u ∈ us, szQ u.2 100) (h0 : ∀ u ∈ us, u.2 ≠ 0) (hne : us ≠ []) : szQ (prim us) 501 := by
 have h1 := lcmU_len (us := us) (d := 1) (M := 100) hs
 rw [dec1_len] at h1
 have h2 : (dec (gcdU (lcmU 1 us) us)).length ≤ 501 := gcdU_len (by omega) fun u hu => by
  have := zU_len (d := lcmU 1 us) (hs u hu)
  omega
 have hv := (lcmU_dvd (us := us) (d := 1)).2
 have hd : lcmU 1 us ≠ 0 := lcmU_pos (by omega)
 have h3 : gcdU (lcmU 1 us) us ≠ 0 := gcdU_ne0 (.inr hne) fun u hu => zU_ne hd (hv u hu) (h0 u hu)
 unfold prim
 rw [show (((lcmU 1 us : Nat) : Int) : Rat) / ((gcdU (lcmU 1 us) us : Int) : Rat) = mkRat ((lcmU 1 us : Nat) : Int) (gcdU (lcmU 1 us) us) from (Rat.mkRat_eq_div _ _).symm]
 exact szQ_mk h3 (by rw [Int.natAbs_natCast]; omega) h2
theorem kQ_sz4 (rel : Int) {us : List QT} (hl : us.length ≤ 4) (hs : ∀ u ∈ us, szQ u.2 100) (h0 : ∀ u ∈ us, u.2 ≠ 0) (hne : us ≠ []) : szQ (kQ rel us) 501 := by
 have h := prim_sz4 hl hs h0 hne
 rcases kQ_cases rel us with e | ⟨_, _, e⟩
 ·rw [e]; exact h
 ·rw [e]; exact h.neg
theorem kQ_12 {rel : Int} (h : rel ≠ 3) (us : List QT) : kQ rel us = prim us := by
 unfold kQ
 rw [if_neg fun e => h e.1]
theorem form_le {rel kd : Int} {us : List QT} {q : Rat} (M : Nat) (hk : kd = 2 ∨ kd = 3) (hu : okU us) (hl : us.length ≤ 4) (hs : ∀ u ∈ us, szQ u.2 100) (hq : szQ q 100) (hr : rel = 1 ∨ rel = 2 ∨ rel = 3) : formI rel kd us q M := by
 have h0 : ∀ u ∈ us, u.2 ≠ 0 := fun u h => (hu.1 u h).2
 have en : ∀ us q M, nV rel kd us q M = nrmV rel kd us q := fun us q M => by unfold nV; rw [if_pos (by omega)]
 by_cases hne : us = []
 ·subst hne
  refine form_tru (b := cmpQ rel q) (by rw [en]; unfold nrmV; rw [if_pos rfl]) fun f _ => ?_
  rw [show q + sumQ [] f = q from Rat.add_zero q]
  unfold holdQ
  rw [if_pos (by omega)]
 have hk0 := kQ_ne (rel := rel) hne h0
 have hki := kQ_int (rel := rel) h0
 have hkk := kQ_kQ (rel := rel) hne h0
 have hksz := kQ_sz4 rel hl hs h0 hne
 have hkp : rel ≠ 3 → 0 < kQ rel us := fun h => by rw [kQ_12 h]; exact prim_pos hne h0
 have hp1 : rel ≠ 3 → prim (mulU us (kQ rel us)) = 1 := fun h => by rw [← kQ_12 h]; exact hkk
 have esc := scU_ne (us := us) hk0
 have hqk : szQ (q * kQ rel us) 601 := szQ_mul hq hksz
 have e0 : nV rel kd us q M = if kd = 3 then conQ rel kd (mulU us (kQ rel us)) (q * kQ rel us) [] else
   if rel = 1 then conQ 1 kd (mulU us (kQ rel us)) (-(flQ (-(q * kQ rel us)) : Rat)) [] else
   if rel = 2 then conQ 1 kd (mulU us (kQ rel us)) ((flQ (q * kQ rel us) : Rat) + 1) [] else
   if (q * kQ rel us).den = 1 then conQ rel kd (mulU us (kQ rel us)) (q * kQ rel us) [] else truQ kd false := by
  rw [en]
  unfold nrmV
  rw [if_neg hne, esc]
 have hsum : ∀ f : Bs → Rat, sumQ (mulU us (kQ rel us)) f = sumQ us f * kQ rel us := fun f => sumQ_mul us _ f
 have hmul : ∀ u ∈ mulU us (kQ rel us), szQ u.2 601 ∧ ∃ w ∈ us, u = (w.1, w.2 * kQ rel us) := fun u h => by
  obtain ⟨w, hw, rfl⟩ := mulU_mem h
  exact ⟨szQ_mul (hs w hw) hksz, w, hw, rfl⟩
 have hmi : ∀ u ∈ mulU us (kQ rel us), intQ u.2 := fun u h => by
  obtain ⟨w, hw, rfl⟩ := mulU_mem h
  exact hki w hw
 have hu2 := okU_mul hu hk0
 have hg2 : goodU (mulU us (kQ rel us)) := ⟨by rw [mulU_len]; omega, fun u h => ⟨(hmul u h).1.mono (by omega), (hu2.1 u h).2⟩⟩
 have hl2 : (mulU us (kQ rel us)).length ≤ us.length := by rw [mulU_len]; exact Nat.le_refl _
 have hne2 : mulU us (kQ rel us) ≠ [] := fun e => hne (List.map_eq_nil_iff.1 e)
 have hnm : ∀ u ∈ mulU us (kQ rel us), ∃ w ∈ us, u.1 = w.1 := fun u h => by
  obtain ⟨_, w, hw, rfl⟩ := hmul u h
  exact ⟨w, hw, rfl⟩
 have hmm : okM rel kd [] 0 := .inl ⟨rfl, hr⟩
 have hm1 : okM 1 kd [] 0 := .inl ⟨rfl, .inl rfl⟩
 generalize hus : mulU us (kQ rel us) = us' at *
 generalize kQ rel us = kk at *
 have hold : ∀ f : Bs → Rat, holdQ rel (q * kk + sumQ us' f) 0 = holdQ rel (q + sumQ us f) M := fun f => by
  rw [hsum, show q * kk + sumQ us f * kk = (q + sumQ us f) * kk by generalize sumQ us f = x; grind]
  rcases hr with rfl | rfl | rfl
  ·exact hold_scale (.inl rfl) (hkp (by decide)) 0 M
  ·exact hold_scale (.inr rfl) (hkp (by decide)) 0 M
  ·rw [hold3, hold3]
   have : (q + sumQ us f) * kk = 0 ↔ q + sumQ us f = 0 := by
    rw [Rat.mul_eq_zero]
    exact ⟨fun h => h.resolve_right hk0, .inl⟩
   simp only [this]
 by_cases hk3 : kd = 3
 ·rw [if_pos hk3] at e0
  refine ⟨rel, us', q * kk, [], 0, e0, hu2, hg2, hl2, hqk.mono (by omega), hmm, ?_, hnm, fun f _ => hold f⟩
  rw [e0, en]
  unfold nrmV
  rw [if_neg hne2, if_pos hk3, hkk, scU_one, Rat.mul_one]
 ·have hkd : kd = 2 := by omega
  rw [if_neg hk3] at e0
  have hsi : ∀ f : Bs → Rat, (kd = 2 → ∀ n, intQ (f n)) → ∃ s : Int, sumQ us' f = (s : Rat) := fun f hf => intQ_ex.1 (sum_int hmi (hf hkd))
  have n1 : rel ≠ 3 → ∀ z : Int, nV 1 kd us' (z : Rat) 0 = conQ 1 kd us' (z : Rat) [] := fun h z => by
   unfold nV
   rw [if_pos (by decide)]
   unfold nrmV
   rw [if_neg hne2, if_neg hk3, if_pos rfl, kQ_12 (by decide), hp1 h, scU_one, Rat.mul_one, ← Rat.intCast_neg, ← Rat.intCast_neg, flQ_int, Int.neg_neg]
  rcases hr with rfl | rfl | rfl
  ·rw [if_pos rfl] at e0
   have ez : (-(flQ (-(q * kk)) : Rat)) = ((-(flQ (-(q * kk))) : Int) : Rat) := (Rat.intCast_neg _).symm
   rw [ez] at e0
   refine ⟨1, us', _, [], 0, e0, hu2, hg2, hl2, ?_, hm1, by rw [e0]; exact n1 (by decide) _, hnm, fun f hf => ?_⟩
   ·rw [← ez]
    exact (flQ_sz hqk.neg).neg.mono (by omega)
   ·obtain ⟨s, hs2⟩ := hsi f hf
    rw [← hold f, hs2, hold1, hold1]
    refine decide_eq_decide.2 ?_
    have h1 := flQ_iff (z := s) (q := -(q * kk))
    have h2 : (((-(flQ (-(q * kk))) : Int) : Rat) + (s : Rat) ≤ 0) ↔ s ≤ flQ (-(q * kk)) := by
     rw [← Rat.intCast_add]
     have : (((-(flQ (-(q * kk))) + s : Int) : Rat) ≤ ((0 : Int) : Rat)) ↔ -(flQ (-(q * kk))) + s ≤ 0 := Rat.intCast_le_intCast
     rw [show ((0 : Int) : Rat) = 0 from rfl] at this
     rw [this]
     omega
    rw [h2, h1]
    constructor <;> intro h <;> grind
  ·rw [if_neg (by decide), if_pos rfl] at e0
   have ez : ((flQ (q * kk) : Rat) + 1) = ((flQ (q * kk) + 1 : Int) : Rat) := (Rat.intCast_add _ _).symm
   rw [ez] at e0
   refine ⟨1, us', _, [], 0, e0, hu2, hg2, hl2, ?_, hm1, by rw [e0]; exact n1 (by decide) _, hnm, fun f hf => ?_⟩
   ·refine szZ ?_
    have h1 := flQ_sz hqk
    have h2 : (dec (flQ (q * kk)).natAbs).length ≤ 602 := h1.1
    have h3 := dec_add_len (flQ (q * kk)).natAbs 1
    have h4 := dec_len_mono (show (flQ (q * kk) + 1).natAbs ≤ (flQ (q * kk)).natAbs + 1 by omega)
    rw [dec1_len] at h3
    omega
   ·obtain ⟨s, hs2⟩ := hsi f hf
    rw [← hold f, hs2, hold1, hold2]
    refine decide_eq_decide.2 ?_
    have h1 := flQ_iff (z := -s) (q := q * kk)
    have h2 : (((flQ (q * kk) + 1 : Int) : Rat) + (s : Rat) ≤ 0) ↔ ¬ -s ≤ flQ (q * kk) := by
     rw [← Rat.intCast_add]
     have : (((flQ (q * kk) + 1 + s : Int) : Rat) ≤ ((0 : Int) : Rat)) ↔ flQ (q * kk) + 1 + s ≤ 0 := Rat.intCast_le_intCast
     rw [show ((0 : Int) : Rat) = 0 from rfl] at this
     rw [this]
     omega
    rw [h2, h1, Rat.intCast_neg]
    constructor <;> intro h <;> grind
  ·rw [if_neg (by decide), if_neg (by decide)] at e0
   by_cases hd : (q * kk).den = 1
   ·rw [if_pos hd] at e0
    refine ⟨3, us', q * kk, [], 0, e0, hu2, hg2, hl2, hqk.mono (by omega), hmm, ?_, hnm, fun f _ => hold f⟩
    rw [e0, en]
    unfold nrmV
    rw [if_neg hne2, if_neg hk3, if_neg (by decide), if_neg (by decide), hkk, scU_one, Rat.mul_one, if_pos hd]
   ·rw [if_neg hd] at e0
    refine form_tru e0 fun f hf => ?_
    obtain ⟨s, hs2⟩ := hsi f hf
    rw [← hold f, hs2, hold3]
    refine decide_eq_false fun h => hd (den1.2 ⟨-s, ?_⟩)
    rw [Rat.intCast_neg]
    grind
def resL (P : Nat) (vs : List QT) : List QT := vs.filterMap fun v => if v.2.num % (P : Int) = 0 then none else some (v.1, ((v.2.num % (P : Int) : Int) : Rat))
def gF (P : Nat) (vs : List QT) (g : Nat) : Nat := vs.foldl (fun g v => Nat.gcd g (v.2.num % (P : Int)).natAbs) g
theorem resL_0 {P : Nat} {v : QT} {vs : List QT} (h : v.2.num % (P : Int) = 0) : resL P (v :: vs) = resL P vs := by
 unfold resL
 rw [List.filterMap_cons, if_pos h]
theorem resL_1 {P : Nat} {v : QT} {vs : List QT} (h : ¬ v.2.num % (P : Int) = 0) : resL P (v :: vs) = (v.1, ((v.2.num % (P : Int) : Int) : Rat)) :: resL P vs := by
 unfold resL
 rw [List.filterMap_cons, if_neg h]
theorem fold_res (P : Nat) : ∀ (vs : List QT) (st : List QT × Nat), vs.foldl (stepD P) st = (st.1 ++ resL P vs, gF P vs st.2)
 | [], st => by simp [resL, gF]
 | v :: vs, st => by
  rw [List.foldl_cons, fold_res P vs]
  unfold stepD
  by_cases h : v.2.num % (P : Int) = 0
  ·rw [if_pos h, resL_0 h]
   show _ = (_, gF P vs (Nat.gcd st.2 (v.2.num % (P : Int)).natAbs))
   rw [h, show (0 : Int).natAbs = 0 from rfl, Nat.gcd_zero_right]
  ·rw [if_neg h, resL_1 h, List.append_assoc]
   rfl
theorem resL_res (P : Nat) : ∀ (vs : List QT) (g : Nat), resL P (resL P vs) = resL P vs ∧ gF P (resL P vs) g = gF P vs g
 | [], _ => ⟨rfl, rfl⟩
 | v :: vs, g => by
  by_cases h : v.2.num % (P : Int) = 0
  ·rw [resL_0 h]
   have e : gF P (v :: vs) g = gF P vs g := by
    show gF P vs (Nat.gcd g (v.2.num % (P : Int)).natAbs) = _
    rw [h, show (0 : Int).natAbs = 0 from rfl, Nat.gcd_zero_right]
   rw [e]
   exact resL_res P vs g
  ·have e1 : (((v.2.num % (P : Int) : Int) : Rat)).num % (P : Int) = v.2.num % (P : Int) := by
    show v.2.num % (P : Int) % (P : Int) = _
    exact Int.emod_emod_of_dvd _ (Int.dvd_refl _)
   rw [resL_1 h, resL_1 (by rw [e1]; exact h), e1, (resL_res P vs g).1]
   refine ⟨rfl, ?_⟩
   show gF P (resL P vs) (Nat.gcd g ((((v.2.num % (P : Int) : Int) : Rat)).num % (P : Int)).natAbs) = gF P vs (Nat.gcd g (v.2.num % (P : Int)).natAbs)
   rw [e1, (resL_res P vs _).2]
theorem gF_dvd (P : Nat) : ∀ (vs : List QT) (g : Nat), gF P vs g ∣ g ∧ ∀ v ∈ vs, ((gF P vs g : Nat) : Int) ∣ v.2.num % (P : Int)
 | [], g => ⟨Nat.dvd_refl _, fun v h => by cases h⟩
 | v :: vs, g => by
  obtain ⟨h1, h2⟩ := gF_dvd P vs (Nat.gcd g (v.2.num % (P : Int)).natAbs)
  refine ⟨Nat.dvd_trans h1 (Nat.gcd_dvd_left _ _), fun w hw => ?_⟩
  rcases List.mem_cons.1 hw with rfl | hw
  ·exact Int.ofNat_dvd_left.2 (Nat.dvd_trans h1 (Nat.gcd_dvd_right _ _))
  ·exact h2 w hw
theorem resL_mem {P : Nat} {vs : List QT} {u : QT} (h : u ∈ resL P vs) : ∃ v ∈ vs, v.2.num % (P : Int) ≠ 0 ∧ u = (v.1, ((v.2.num % (P : Int) : Int) : Rat)) := by
 unfold resL at h
 obtain ⟨v, hv, he⟩ := List.mem_filterMap.1 h
 split at he
 ·cases he
 ·rename_i hne
  cases he
  exact ⟨v, hv, hne, rfl⟩
theorem resL_len (P : Nat) (vs : List QT) : (resL P vs).length ≤ vs.length := List.length_filterMap_le _ _
theorem okU_res {P : Nat} : ∀ {vs : List QT}, okU vs → okU (resL P vs)
 | [], h => h
 | v :: vs, h => by
  obtain ⟨h1, h2, h3⟩ := okU_cons.1 h
  have ih := okU_res (P := P) h3
  by_cases hz : v.2.num % (P : Int) = 0
  ·rw [resL_0 hz]; exact ih
  ·rw [resL_1 hz]
   refine okU_cons.2 ⟨⟨h1.1, fun e => hz ?_⟩, fun w hw => ?_, ih⟩
   ·have e : ((v.2.num % (P : Int) : Int) : Rat) = 0 := e
    exact_mod_cast e
   ·obtain ⟨x, hx, _, rfl⟩ := resL_mem hw
    exact h2 x hx
theorem sum_res {P : Nat} {f : Bs → Rat} (hf : ∀ n, intQ (f n)) : ∀ {vs : List QT}, (∀ v ∈ vs, intQ v.2) → ∃ y : Int, sumQ vs f = sumQ (resL P vs) f + ((P : Int) : Rat) * (y : Rat)
 | [], _ => ⟨0, by
  show (0 : Rat) = 0 + _ * ((0 : Int) : Rat)
  rw [show ((0 : Int) : Rat) = 0 from rfl, Rat.mul_zero, Rat.add_zero]⟩
 | v :: vs, h => by
  obtain ⟨y, hy⟩ := sum_res (P := P) hf fun w hw => h w (List.mem_cons_of_mem v hw)
  have h1 : v.2 = ((v.2.num : Int) : Rat) := h v (by simp)
  have h2 : f v.1 = (((f v.1).num : Int) : Rat) := hf v.1
  have h3 : ((v.2.num : Int) : Rat) = ((P : Int) : Rat) * ((v.2.num / (P : Int) : Int) : Rat) + ((v.2.num % (P : Int) : Int) : Rat) := by
   rw [← Rat.intCast_mul, ← Rat.intCast_add, Int.mul_ediv_add_emod]
  refine ⟨v.2.num / (P : Int) * (f v.1).num + y, ?_⟩
  rw [Rat.intCast_add, Rat.intCast_mul, ← h2]
  by_cases hz : v.2.num % (P : Int) = 0
  ·rw [resL_0 hz]
   rw [hz, show ((0 : Int) : Rat) = 0 from rfl, Rat.add_zero, ← h1] at h3
   show v.2 * f v.1 + sumQ vs f = _
   rw [hy]
   generalize v.2 = a at *
   generalize ((a.num / (P : Int) : Int) : Rat) = b at *
   rw [h3]
   grind
  ·rw [resL_1 hz]
   show v.2 * f v.1 + sumQ vs f = ((v.2.num % (P : Int) : Int) : Rat) * f v.1 + sumQ (resL P vs) f + _
   rw [hy]
   rw [← h1] at h3
   generalize v.2 = a at *
   generalize ((a.num / (P : Int) : Int) : Rat) = b at *
   generalize ((a.num % (P : Int) : Int) : Rat) = c at *
   rw [h3]
   grind
theorem sum_dvd {g : Nat} {f : Bs → Rat} (hf : ∀ n, intQ (f n)) : ∀ {vs : List QT}, (∀ v ∈ vs, ∃ z : Int, v.2 = (z : Rat) ∧ (g : Int) ∣ z) → ∃ w : Int, sumQ vs f = (w : Rat) ∧ (g : Int) ∣ w
 | [], _ => ⟨0, rfl, Int.dvd_zero _⟩
 | v :: vs, h => by
  obtain ⟨w, h1, h2⟩ := sum_dvd (g := g) hf fun x hx => h x (List.mem_cons_of_mem v hx)
  obtain ⟨z, h3, h4⟩ := h v (by simp)
  have h5 : f v.1 = (((f v.1).num : Int) : Rat) := hf v.1
  refine ⟨z * (f v.1).num + w, ?_, Int.dvd_add (Int.dvd_trans h4 (Int.dvd_mul_right _ _)) h2⟩
  show v.2 * f v.1 + sumQ vs f = _
  rw [h1, h3, h5, Rat.intCast_add, Rat.intCast_mul]
  rfl
theorem divE_tru1 {rel c0 : Int} {P : Nat} {st : List QT × Nat} (h : c0 % (st.2 : Int) ≠ 0) : divE rel P c0 st = truQ 2 (!decide (rel = 4)) := by unfold divE; rw [if_pos h]
theorem divE_tru2 {rel c0 : Int} {P : Nat} {st : List QT × Nat} (h : c0 % (st.2 : Int) = 0) (h2 : st.2 = P) : divE rel P c0 st = truQ 2 (decide (rel = 4)) := by unfold divE; rw [if_neg (fun e => e h), if_pos h2]
theorem divE_con {rel c0 : Int} {P : Nat} {st : List QT × Nat} (h : c0 % (st.2 : Int) = 0) (h2 : st.2 ≠ P) : divE rel P c0 st = conQ rel 2 (scU st.1 (((1 : Int) : Rat) / ((st.2 : Int) : Rat))) ((c0 : Rat) * (((1 : Int) : Rat) / ((st.2 : Int) : Rat))) (rs ((((P : Int) / (st.2 : Int) : Int)) : Rat)) := by
 unfold divE; rw [if_neg (fun e => e h), if_neg h2]
theorem lcm_one : ∀ {us : List QT}, (∀ u ∈ us, u.2.den = 1) → lcmU 1 us = 1
 | [], _ => rfl
 | u :: us, h => by
  show lcmU (Nat.lcm 1 u.2.den) us = 1
  rw [h u (by simp), Nat.lcm_self]
  exact lcm_one fun w hw => h w (List.mem_cons_of_mem u hw)
theorem divV_res {rel : Int} {P : Nat} (vs : List QT) (x : Int) : divV rel (resL P vs) ((x % (P : Int) : Int) : Rat) P = divE rel P (x % (P : Int)) (resL P vs, gF P vs P) := by
 have hd : dD (resL P vs) ((x % (P : Int) : Int) : Rat) = 1 := by
  unfold dD
  rw [show (((x % (P : Int) : Int) : Rat)).den = 1 from rfl]
  refine lcm_one fun u hu => ?_
  obtain ⟨v, _, _, rfl⟩ := resL_mem hu
  rfl
 unfold divV
 rw [hd, Nat.mul_one, show (((1 : Nat) : Int) : Rat) = 1 from rfl, Rat.mul_one, scU_one, fold_res, (resL_res P vs P).1, List.nil_append]
 rw [show (((x % (P : Int) : Int) : Rat)).num = x % (P : Int) from rfl, Int.emod_emod_of_dvd _ (Int.dvd_refl _)]
 show divE rel P _ (resL P vs, gF P (resL P vs) P) = _
 rw [(resL_res P vs P).2]
theorem form_div {rel : Int} {us : List QT} {q : Rat} {M : Nat} (hu : okU us) (hl : us.length ≤ 4) (hs : ∀ u ∈ us, szQ u.2 100) (hq : szQ q 100) (hr : rel = 4 ∨ rel = 5) (hM0 : M ≠ 0) (hM : (dec M).length ≤ 100) : formI rel 2 us q M := by
 have en : ∀ us q M, nV rel 2 us q M = divV rel us q M := fun us q M => by unfold nV; rw [if_neg (by omega)]
 have hd0 := dD_ne us q
 have hdl : (dec (dD us q)).length ≤ 500 := by
  have h1 := lcmU_len (us := us) (d := q.den) (M := 100) hs
  have := hq.2
  unfold dD
  omega
 have ei := dD_int (us := us) (c := q)
 have vi := vs_int (us := us) (c := q)
 have vok : okU (scU us ((dD us q : Int) : Rat)) := okU_sc hu
 have vl := vs_len (us := us) (c := q)
 have vn : ∀ v ∈ scU us ((dD us q : Int) : Rat), ∃ w ∈ us, v.1 = w.1 := by
  rw [scU_dD]
  intro v h
  obtain ⟨w, hw, rfl⟩ := mulU_mem h
  exact ⟨w, hw, rfl⟩
 have e0 : nV rel 2 us q M = divE rel (M * dD us q) ((q * ((dD us q : Int) : Rat)).num % ((M * dD us q : Nat) : Int)) (resL (M * dD us q) (scU us ((dD us q : Int) : Rat)), gF (M * dD us q) (scU us ((dD us q : Int) : Rat)) (M * dD us q)) := by
  rw [en]
  unfold divV
  rw [fold_res]
  rfl
 have hsum : ∀ f : Bs → Rat, (q + sumQ us f) / ((M : Int) : Rat) = (q * ((dD us q : Int) : Rat) + sumQ (scU us ((dD us q : Int) : Rat)) f) / (((M * dD us q : Nat) : Int) : Rat) := fun f => by
  rw [sumQ_sc, Int.natCast_mul, Rat.intCast_mul]
  have n1 := natR hM0
  have n2 := natR hd0
  generalize sumQ us f = x
  grind
 have hP0 : M * dD us q ≠ 0 := Nat.mul_ne_zero hM0 hd0
 have hPl : (dec (M * dD us q)).length ≤ 600 := by have := dec_mul_len M (dD us q); omega
 generalize M * dD us q = P at *
 generalize scU us ((dD us q : Int) : Rat) = vs at *
 generalize q * ((dD us q : Int) : Rat) = c at *
 have hh : ∀ (v : Rat) (M : Nat), holdQ rel v M = (decide ((v / ((M : Int) : Rat)).den = 1) == decide (rel = 4)) := fun v M => by unfold holdQ; rw [if_neg (by omega)]
 obtain ⟨hgP, hgv⟩ := gF_dvd P vs P
 have eres := divV_res (rel := rel) (P := P) vs c.num
 have hg0 : gF P vs P ≠ 0 := fun e => by rw [e] at hgP; exact hP0 (Nat.eq_zero_of_zero_dvd hgP)
 generalize gF P vs P = g at *
 have rdv : ∀ u ∈ resL P vs, ∃ z : Int, u.2 = (z : Rat) ∧ (g : Int) ∣ z ∧ z.natAbs < P ∧ z ≠ 0 := fun u h => by
  obtain ⟨v, hv, hne, rfl⟩ := resL_mem h
  have e1 := Int.emod_nonneg v.2.num (show (P : Int) ≠ 0 by omega)
  have e2 := Int.emod_lt_of_pos v.2.num (show (0 : Int) < P by omega)
  exact ⟨_, rfl, hgv v hv, by omega, hne⟩
 have c1 := Int.emod_nonneg c.num (show (P : Int) ≠ 0 by omega)
 have c2 := Int.emod_lt_of_pos c.num (show (0 : Int) < P by omega)
 have c3 : ((c.num : Int) : Rat) = ((P : Int) : Rat) * ((c.num / (P : Int) : Int) : Rat) + ((c.num % (P : Int) : Int) : Rat) := by
  rw [← Rat.intCast_mul, ← Rat.intCast_add, Int.mul_ediv_add_emod]
 have ei : c = ((c.num : Int) : Rat) := ei
 have nP := natR hP0
 have hsum2 : ∀ f : Bs → Rat, (∀ n, intQ (f n)) → (((q + sumQ us f) / ((M : Int) : Rat)).den = 1 ↔ ((((c.num % (P : Int) : Int) : Rat) + sumQ (resL P vs) f) / ((P : Int) : Rat)).den = 1) := fun f hf => by
  obtain ⟨y, hy⟩ := sum_res (P := P) hf vi
  rw [hsum, hy, ← den1_add (q := (((c.num % (P : Int) : Int) : Rat) + sumQ (resL P vs) f) / ((P : Int) : Rat)) (c.num / (P : Int) + y), Rat.intCast_add]
  rw [ei]
  rw [show (((c.num : Int) : Rat)).num = c.num from rfl]
  rw [c3]
  generalize ((P : Int) : Rat) = p at *
  generalize sumQ (resL P vs) f = s at *
  generalize ((c.num % (P : Int) : Int) : Rat) = c0 at *
  generalize ((c.num / (P : Int) : Int) : Rat) = cq at *
  have : (p * cq + c0 + (s + p * (y : Rat))) / p = (c0 + s) / p + (cq + (y : Rat)) := by grind
  rw [this]
 generalize c.num % (P : Int) = c0 at *
 have rok := okU_res (P := P) vok
 have rl := resL_len P vs
 have rn : ∀ u ∈ resL P vs, ∃ w ∈ us, u.1 = w.1 := fun u h => by
  obtain ⟨v, hv, _, rfl⟩ := resL_mem h
  exact vn v hv
 generalize resL P vs = rl0 at *
 have ng := natR hg0
 by_cases hz : c0 % (g : Int) = 0
 ·by_cases hgp : g = P
  ·refine form_tru (e0.trans (divE_tru2 hz hgp)) fun f hf => ?_
   have hnil : rl0 = [] := by
    cases rl0 with
    | nil => rfl
    | cons u l =>
     obtain ⟨z, _, h2, h3, h4⟩ := rdv u (by simp)
     have := Int.natAbs_dvd_natAbs.2 h2
     rw [Int.natAbs_natCast] at this
     have := Nat.le_of_dvd (by omega) this
     omega
   have hc0 : c0 = 0 := by
    rw [hgp, Int.emod_eq_of_lt c1 c2] at hz
    exact hz
   rw [hh]
   have : ((q + sumQ us f) / ((M : Int) : Rat)).den = 1 := by
    rw [hsum2 f (hf rfl), hnil, hc0]
    show ((((0 : Int) : Rat) + 0) / ((P : Int) : Rat)).den = 1
    rw [show ((0 : Int) : Rat) = 0 from rfl, Rat.add_zero, Rat.div_def, Rat.zero_mul]
    rfl
   rw [decide_eq_true this]
   simp
  ·have e0 := e0.trans (divE_con hz hgp)
   simp only at e0
   have k0 : ((1 : Int) : Rat) / ((g : Int) : Rat) ≠ 0 := by
    rw [show ((1 : Int) : Rat) = 1 from rfl]
    intro e
    grind
   have kg : ((1 : Int) : Rat) / ((g : Int) : Rat) * ((g : Int) : Rat) = 1 := by
    rw [show ((1 : Int) : Rat) = 1 from rfl]
    grind
   rw [scU_ne k0] at e0
   obtain ⟨cy, hcy⟩ := Int.dvd_of_emod_eq_zero hz
   obtain ⟨M', hM'⟩ := hgP
   have eM : ((P : Int) / (g : Int) : Int) = (M' : Int) := by
    rw [hM', Int.natCast_mul, Int.mul_ediv_cancel_left _ (by omega)]
   rw [eM] at e0
   have hMf : ((P : Int) : Rat) = ((M' : Int) : Rat) * ((g : Int) : Rat) := by
    rw [hM', Int.natCast_mul, Rat.intCast_mul, Rat.mul_comm]
   have hM'0 : M' ≠ 0 := fun e => hP0 (by rw [hM', e, Nat.mul_zero])
   have hM'l : (dec M').length ≤ 600 := Nat.le_trans (dec_len_mono (by rw [hM']; exact Nat.le_mul_of_pos_left M' (by omega))) hPl
   have kdv : ∀ {z : Int} {y : Int}, z = (g : Int) * y → (z : Rat) * (((1 : Int) : Rat) / ((g : Int) : Rat)) = (y : Rat) := fun {z y} e => by
    rw [e, Rat.intCast_mul, Rat.mul_comm ((g : Int) : Rat), Rat.mul_assoc, Rat.mul_comm ((g : Int) : Rat), kg, Rat.mul_one]
   have le_of : ∀ {z y : Int}, z = (g : Int) * y → z.natAbs < P → (dec y.natAbs).length ≤ 600 := fun {z y} e h => by
    refine Nat.le_trans (dec_len_mono ?_) hPl
    rw [e, Int.natAbs_mul, Int.natAbs_natCast] at h
    have := Nat.le_mul_of_pos_left y.natAbs (show 0 < g by omega)
    omega
   have hu2 := okU_mul rok k0
   have hmul : ∀ u ∈ mulU rl0 (((1 : Int) : Rat) / ((g : Int) : Rat)), szQ u.2 600 ∧ ∃ w ∈ us, u.1 = w.1 := fun u h => by
    obtain ⟨w, hw, rfl⟩ := mulU_mem h
    obtain ⟨z, h1, ⟨y, h2⟩, h3, _⟩ := rdv w hw
    refine ⟨?_, rn w hw⟩
    show szQ (w.2 * _) 600
    rw [h1, kdv h2]
    exact szZ (le_of h2 h3)
   have hll : (mulU rl0 (((1 : Int) : Rat) / ((g : Int) : Rat))).length ≤ us.length := by rw [mulU_len]; omega
   refine ⟨rel, _, _, _, M', e0, hu2, ⟨by omega, fun u h => ⟨(hmul u h).1.mono (by omega), (hu2.1 u h).2⟩⟩, hll, ?_, .inr ⟨rfl, hr, hM'0, rfl, by omega⟩, ?_, fun u h => (hmul u h).2, fun f hf => ?_⟩
   ·rw [kdv hcy]
    exact (szZ (le_of hcy (by omega))).mono (by omega)
   ·rw [e0, en, ← divV_scale rel _ _ M' P hM'0 (natR_pos hg0) hMf, mulU_mul, Rat.mul_assoc, kg, Rat.mul_one, mulU_one, eres, divE_con hz hgp]
    simp only
    rw [scU_ne k0, eM]
   ·rw [hh, hh]
    have := hsum2 f (hf rfl)
    rw [sumQ_mul]
    have e : ((c0 : Rat) * (((1 : Int) : Rat) / ((g : Int) : Rat)) + sumQ rl0 f * (((1 : Int) : Rat) / ((g : Int) : Rat))) / ((M' : Int) : Rat) = ((c0 : Rat) + sumQ rl0 f) / ((P : Int) : Rat) := by
     rw [hMf, show ((1 : Int) : Rat) = 1 from rfl]
     have n3 := natR hM'0
     generalize sumQ rl0 f = s
     grind
    rw [e]
    simp only [this]
 ·refine form_tru (e0.trans (divE_tru1 hz)) fun f hf => ?_
  rw [hh]
  have : ¬ ((q + sumQ us f) / ((M : Int) : Rat)).den = 1 := by
   rw [hsum2 f (hf rfl), den1]
   rintro ⟨z, hz2⟩
   obtain ⟨w, h1, h2⟩ := sum_dvd (g := g) (hf rfl) fun u h => (by
    obtain ⟨z, h1, h2, _⟩ := rdv u h
    exact ⟨z, h1, h2⟩ : ∃ z : Int, u.2 = (z : Rat) ∧ (g : Int) ∣ z)
   rw [h1] at hz2
   have e : ((c0 + w : Int) : Rat) = (((P : Int) * z : Int) : Rat) := by
    rw [Rat.intCast_add, Rat.intCast_mul, ← hz2]
    grind
   have e : c0 + w = (P : Int) * z := by exact_mod_cast e
   refine hz (Int.emod_eq_zero_of_dvd ?_)
   have h3 : (g : Int) ∣ (P : Int) := Int.natCast_dvd_natCast.2 hgP
   have h4 : (g : Int) ∣ c0 + w := by rw [e]; exact Int.dvd_trans h3 (Int.dvd_mul_right _ _)
   have h5 := Int.dvd_sub h4 h2
   rwa [Int.add_sub_cancel] at h5
  rw [decide_eq_false this]
  cases decide (rel = 4) <;> rfl
theorem nV_form {rel kd : Int} {us : List QT} {q : Rat} {m : Bs} {M : Nat} (hk : kd = 2 ∨ kd = 3) (hu : okU us) (hl : us.length ≤ 4) (hs : ∀ u ∈ us, szQ u.2 100) (hq : szQ q 100) (hm : okM rel kd m M) (hml : m.length ≤ 100) : formI rel kd us q M := by
 rcases hm with ⟨rfl, hr⟩ | ⟨rfl, hr, hM0, rfl, hM⟩
 ·exact form_le M hk hu hl hs hq hr
 ·rw [rs_nat] at hml
  exact form_div hu hl hs hq hr hM0 hml
end Go.PE
namespace Go.PE
open Go.RowKit Go.Proofs.Tryz
set_option maxRecDepth 100000
variable {k : Nat}
theorem fE_int {es : List Bq} (he : ∀ e ∈ es, okB e ∧ e.2.1 = 2) (n : Bs) : intQ (fE es n) := by
 unfold fE
 generalize (fiQ es (nmP n)).toNat = j
 by_cases hj : j < es.length
 ·have e1 : es.getD j ([], 1, 0) = es[j] := by simp [List.getD, List.getElem?_eq_getElem hj]
  obtain ⟨⟨h, _⟩, h2⟩ := he es[j] (List.getElem_mem hj)
  rw [e1]
  rcases h with h | ⟨_, h⟩ | h
  ·omega
  ·exact intQ_ex.2 (den1.1 h)
  ·omega
 ·have e1 : es.getD j ([], 1, 0) = ([], 1, 0) := by simp [List.getD, List.getElem?_eq_none (Nat.le_of_not_lt hj)]
  rw [e1]; rfl
set_option maxHeartbeats 3200000 in
theorem law10_T (l n : List Int) (hl : l.length ≤ 4611686018427387000) (hn : n.length ≤ 4611686018427387000) (aw : T 20 18 [] = some (.bool true, [])) :
  T 21 10 [.imm 1 (zrow l), .imm 1 (zrow n)] = some (.bool true, []) := by
 obtain ⟨rel, kd, us, q, m, M, hG, hu, hl4, hs, hq, hk, hm, hml⟩ := conG_ex (l.take 400, 0)
 have hv := conG_nm (l.take 400, 0) hG
 have hc0 : okCh (l.take 400, 0) := ⟨by simp only [List.length_take]; omega, by simp only; omega⟩
 have g1 := new_T (k := 19) l (by omega)
 have g2 := conG_T (k := 9) (l.take 400, 0) hc0
 rw [hG] at g2
 generalize (conG (l.take 400, 0)).2 = C2 at g2
 have g2 : T 20 20 [.box (0, 0) (chC (l.take 400, 0))] = some (conQ rel kd us q m, [chC C2]) := g2
 have g3 := new_T (k := 19) n (by omega)
 obtain ⟨es, C3, hnm, he, g4⟩ := envQ_T n hk
 have hg : goodU us := ⟨by omega, fun u h => ⟨(hs u h).mono (by omega), (hu.1 u h).2⟩⟩
 have hq1 : szQ q 1000 := hq.mono (by omega)
 obtain ⟨rel', us', q', m', M', e1, hu', hg', hl', hq', hm', e2, hnn, hold⟩ := nV_form hk hu hl4 hs hq hm hml
 have n1 := normal_V (k := 6) hk hu hg hq1 hm
 have n2 := normal_V (k := 6) hk hu' hg' hq' hm'
 rw [e2] at n2
 rw [e1] at n1 n2
 have p1 := holdsV_T (k := 5) hk hu hg hl4 hq1 hm hnm he hv
 have p2 := holdsV_T (k := 5) hk hu' hg' (by omega) hq' hm' hnm he fun u h => by
  obtain ⟨w, hw, e⟩ := hnn u h
  rw [e]; exact hv w hw
 rw [hold (fE es) fun hkd => fE_int fun e h => ⟨(he e h).1, by rw [(he e h).2]; exact hkd⟩] at p2
 have q1 := sameCon_T (k := 18) rel' kd (tx us') (rs q') m' (by rw [tx_len]; omega)
 generalize holdQ rel (q + sumQ us (fE es)) M = b0 at *
 unfold conQ at *
 cases b0
 all_goals
  refine enter rfl func10 rfl (by decide) (by kernel_rfl) rfl rfl ?_
  refine zs1 g1 ?_
  refine zs2 g2 ?_
  refine zd2 g3 ?_
  refine zd5 g4 ?_
  refine zs2 n1 ?_
  refine zs2 n2 ?_
  refine WX.call tab_eq rfl rfl rfl rfl rfl (viaA (p1) (by simp only [List.drop_zero, List.take_length])) rfl rfl ?_
  refine zs0 ?_
  refine WX.call tab_eq rfl rfl rfl rfl rfl (viaA (p2) (by simp only [List.drop_zero, List.take_length])) rfl rfl ?_
  refine zs1 q1 ?_
  refine zs2 aw ?_
  rfl
end Go.PE
