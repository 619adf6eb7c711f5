/-
  A part of the proof that the law's function returns true and leaves its arguments as they were, for every input (no condition): own lemmas of the proof, in the order of their use.
-/
import Derived.Test.YtggpmnlmbfogeaaGreatDoorX29
set_option linter.all false
namespace Go.PE
open Go.RowKit Go.Proofs.Tryz
set_option maxRecDepth 100000
theorem emod_rel {a b x x' P P' : Int} (ha : 0 < a) (hb : 0 < b) (hx : b * x' = a * x) (hP : b * P' = a * P) : b * (x' % P') = a * (x % P) := by
 rw [← Int.mul_emod_mul_of_pos _ _ hb, ← Int.mul_emod_mul_of_pos _ _ ha, hx, hP]
theorem ediv_rel {a b x x' P P' : Int} (ha : 0 < a) (hb : 0 < b) (hx : b * x' = a * x) (hP : b * P' = a * P) : x' / P' = x / P := by
 rw [← Int.mul_ediv_mul_of_pos x' P' hb, ← Int.mul_ediv_mul_of_pos x P ha, hx, hP]
theorem zero_rel {a b x x' : Int} (ha : 0 < a) (hb : 0 < b) (hx : b * x' = a * x) : x' = 0 ↔ x = 0 := by
 constructor
 ·rintro rfl
  rw [Int.mul_zero] at hx
  exact (Int.mul_eq_zero.1 hx.symm).resolve_left (by omega)
 ·rintro rfl
  rw [Int.mul_zero] at hx
  exact (Int.mul_eq_zero.1 hx).resolve_left (by omega)
theorem nat_rel {a b : Nat} {x x' : Int} (hx : (b : Int) * x' = a * x) : b * x'.natAbs = a * x.natAbs := by
 have := congrArg Int.natAbs hx
 rwa [Int.natAbs_mul, Int.natAbs_mul, Int.natAbs_natCast, Int.natAbs_natCast] at this
theorem gcd_rel {a b g g' y y' : Nat} (hg : b * g' = a * g) (hy : b * y' = a * y) : b * Nat.gcd g' y' = a * Nat.gcd g y := by
 rw [← Nat.gcd_mul_left, ← Nat.gcd_mul_left, hg, hy]
theorem int_rel {a b : Nat} {r : Rat} (hr : r * (b : Int) = (a : Int)) {x x' : Int} (h : (x' : Rat) = (x : Rat) * r) : (b : Int) * x' = a * x := by
 have : (((b : Int) * x' : Int) : Rat) = (((a : Int) * x : Int) : Rat) := by
  rw [Rat.intCast_mul, Rat.intCast_mul, h, ← hr]
  grind
 exact_mod_cast this
theorem rel_int {a b : Nat} (hb : b ≠ 0) {r : Rat} (hr : r * (b : Int) = (a : Int)) {x x' : Int} (h : (b : Int) * x' = a * x) : (x' : Rat) = (x : Rat) * r := by
 have h2 : (((b : Int) * x' : Int) : Rat) = (((a : Int) * x : Int) : Rat) := by rw [h]
 rw [Rat.intCast_mul, Rat.intCast_mul, ← hr] at h2
 have hb' : ((b : Int) : Rat) ≠ 0 := by
  intro e
  have : (b : Int) = 0 := by exact_mod_cast e
  omega
 grind
theorem num_pos {q : Rat} : 0 < q.num ↔ 0 < q := by
 rw [Rat.lt_iff]
 simp
theorem mul_den (r : Rat) : r * ((r.den : Int) : Rat) = (r.num : Rat) := by
 have h : r = (r.num : Rat) / ((r.den : Int) : Rat) := by
  have h1 := Rat.mkRat_self r
  rw [Rat.mkRat_eq_div] at h1
  exact h1.symm
 have n : ((r.den : Int) : Rat) ≠ 0 := by
  intro e
  have h2 : (r.den : Int) = 0 := by exact_mod_cast e
  have := r.den_pos
  omega
 generalize ((r.den : Int) : Rat) = d at *
 generalize (r.num : Rat) = m at *
 rw [h]
 grind
theorem rat_ab {r : Rat} (h : 0 < r) : ∃ a b : Nat, 0 < a ∧ 0 < b ∧ r * (b : Int) = (a : Int) := by
 have hn : 0 < r.num := num_pos.2 h
 refine ⟨r.num.natAbs, r.den, by omega, r.den_pos, ?_⟩
 have e : ((r.num.natAbs : Nat) : Int) = r.num := by omega
 rw [e]
 exact mul_den r
def relS (a b : Nat) (r : Rat) (st st' : List QT × Nat) : Prop := st'.1 = mulU st.1 r ∧ b * st'.2 = a * st.2
theorem stepD_rel {a b : Nat} {r : Rat} (ha : 0 < a) (hb : 0 < b) (hr : r * (b : Int) = (a : Int)) {P P' : Nat} (hP : b * P' = a * P) {st st' : List QT × Nat} (h : relS a b r st st') {v : QT} (h1 : intQ v.2) (h2 : intQ (v.2 * r)) :
  relS a b r (stepD P st v) (stepD P' st' (v.1, v.2 * r)) := by
 obtain ⟨e1, e2⟩ := h
 have hx : (b : Int) * (v.2 * r).num = a * v.2.num := int_rel hr (by rw [← h2, ← h1])
 have hP2 : (b : Int) * (P' : Int) = a * (P : Int) := by exact_mod_cast hP
 have hm := emod_rel (show (0 : Int) < a by omega) (show (0 : Int) < b by omega) hx hP2
 have hz := zero_rel (show (0 : Int) < a by omega) (show (0 : Int) < b by omega) hm
 unfold stepD
 by_cases h0 : v.2.num % (P : Int) = 0
 ·rw [if_pos h0, if_pos (hz.2 h0)]
  exact ⟨e1, e2⟩
 ·rw [if_neg h0, if_neg (fun e => h0 (hz.1 e))]
  refine ⟨?_, gcd_rel e2 (nat_rel hm)⟩
  show st'.1 ++ _ = mulU (st.1 ++ _) r
  rw [e1, rel_int (by omega) hr hm]
  simp [mulU]
theorem foldD_rel {a b : Nat} {r : Rat} (ha : 0 < a) (hb : 0 < b) (hr : r * (b : Int) = (a : Int)) {P P' : Nat} (hP : b * P' = a * P) : ∀ (vs : List QT) {st st' : List QT × Nat}, relS a b r st st' → (∀ v ∈ vs, intQ v.2 ∧ intQ (v.2 * r)) →
  relS a b r (vs.foldl (stepD P) st) ((mulU vs r).foldl (stepD P') st')
 | [], _, _, h, _ => h
 | v :: vs, _, _, h, hv => by
  rw [mulU_cons, List.foldl_cons, List.foldl_cons]
  exact foldD_rel ha hb hr hP vs (stepD_rel ha hb hr hP h (hv v (by simp)).1 (hv v (by simp)).2) fun w hw => hv w (by simp [hw])
theorem natR {n : Nat} (h : n ≠ 0) : ((n : Int) : Rat) ≠ 0 := by
 intro e
 have : (n : Int) = 0 := by exact_mod_cast e
 omega
theorem divE_rel {a b : Nat} {r : Rat} (ha : 0 < a) (hb : 0 < b) (hr : r * (b : Int) = (a : Int)) {P P' : Nat} (hP : b * P' = a * P) {st st' : List QT × Nat} (h : relS a b r st st') (hg : st.2 ≠ 0) (rel : Int) {c c' : Int} (hc : (b : Int) * c' = a * c) :
  divE rel P' c' st' = divE rel P c st := by
 obtain ⟨us, g⟩ := st
 obtain ⟨us', g'⟩ := st'
 obtain ⟨rfl, e2⟩ := h
 have e2 : b * g' = a * g := e2
 have hg : g ≠ 0 := hg
 have ha' : (0 : Int) < a := by omega
 have hb' : (0 : Int) < b := by omega
 have hg2 : (b : Int) * (g' : Int) = a * (g : Int) := by exact_mod_cast e2
 have hP2 : (b : Int) * (P' : Int) = a * (P : Int) := by exact_mod_cast hP
 have g0 : g' ≠ 0 := fun e => by
  have := (zero_rel ha' hb' hg2).1 (by omega)
  omega
 have hz := zero_rel ha' hb' (emod_rel ha' hb' hc hg2)
 have hgP : g' = P' ↔ g = P := by
  constructor
  ·intro e
   rw [e, hP] at e2
   exact (Nat.eq_of_mul_eq_mul_left ha e2).symm
  ·intro e
   rw [e, ← hP] at e2
   exact Nat.eq_of_mul_eq_mul_left hb e2
 have hgr : ((g' : Int) : Rat) = ((g : Int) : Rat) * r := rel_int (by omega) hr hg2
 have hcr : ((c' : Int) : Rat) = ((c : Int) : Rat) * r := rel_int (by omega) hr hc
 have r0 : r ≠ 0 := by
  intro e
  rw [e, Rat.zero_mul] at hr
  have : (0 : Int) = (a : Int) := by exact_mod_cast hr
  omega
 have n1 := natR hg
 have n2 := natR g0
 have hk : r * (((1 : Int) : Rat) / ((g' : Int) : Rat)) = ((1 : Int) : Rat) / ((g : Int) : Rat) := by
  rw [hgr]
  rw [hgr] at n2
  generalize ((1 : Int) : Rat) = o
  grind
 have o0 : ((1 : Int) : Rat) ≠ 0 := by decide
 have k0 : ((1 : Int) : Rat) / ((g : Int) : Rat) ≠ 0 := by
  rw [Rat.div_def]
  intro e
  exact (Rat.mul_eq_zero.1 e).elim o0 (fun e => n1 (by rw [← Rat.inv_inv ((g : Int) : Rat), e, Rat.inv_zero]))
 have k1 : ((1 : Int) : Rat) / ((g' : Int) : Rat) ≠ 0 := fun e => k0 (by rw [← hk, e, Rat.mul_zero])
 have eU : scU (mulU us r) (((1 : Int) : Rat) / ((g' : Int) : Rat)) = scU us (((1 : Int) : Rat) / ((g : Int) : Rat)) := by
  unfold scU
  rw [if_neg k0, if_neg k1, mulU_mul, hk]
 have eC : (c' : Rat) * (((1 : Int) : Rat) / ((g' : Int) : Rat)) = (c : Rat) * (((1 : Int) : Rat) / ((g : Int) : Rat)) := by
  rw [hcr, Rat.mul_assoc, hk]
 have eP := ediv_rel ha' hb' hP2 hg2
 unfold divE
 simp only [hgP, eU, eC, eP, ne_eq, hz]
theorem pos_ne {r : Rat} (h : 0 < r) : r ≠ 0 := fun e => by rw [e] at h; exact absurd h (by decide)
theorem natR_pos {n : Nat} (h : n ≠ 0) : 0 < ((n : Int) : Rat) := by
 have : (0 : Int) < (n : Int) := by omega
 exact_mod_cast this
theorem divV_scale (rel : Int) (us : List QT) (c : Rat) (M M' : Nat) (hM : M ≠ 0) {f : Rat} (hf : 0 < f) (hMf : ((M' : Int) : Rat) = ((M : Int) : Rat) * f) :
  divV rel (mulU us f) (c * f) M' = divV rel us c M := by
 have d1 := dD_ne us c
 have d2 := dD_ne (mulU us f) (c * f)
 have i1 := vs_int (us := us) (c := c)
 have i2 := vs_int (us := mulU us f) (c := c * f)
 have j1 := dD_int (us := us) (c := c)
 have j2 := dD_int (us := mulU us f) (c := c * f)
 unfold divV
 rw [scU_dD] at i1 i2
 rw [scU_dD, scU_dD]
 generalize dD us c = D at *
 generalize dD (mulU us f) (c * f) = D' at *
 have n1 := natR d1
 have p1 := natR_pos d1
 have p2 := natR_pos d2
 have hr : 0 < f * ((D' : Int) : Rat) / ((D : Int) : Rat) := by
  rw [Rat.div_def]
  exact Rat.mul_pos (Rat.mul_pos hf p2) (Rat.inv_pos.2 p1)
 have er : ((D : Int) : Rat) * (f * ((D' : Int) : Rat) / ((D : Int) : Rat)) = f * ((D' : Int) : Rat) := by grind
 generalize f * ((D' : Int) : Rat) / ((D : Int) : Rat) = r at *
 obtain ⟨a, b, ha, hb, hab⟩ := rat_ab hr
 have hP : b * (M' * D') = a * (M * D) := by
  have : (b : Int) * ((M' * D' : Nat) : Int) = a * ((M * D : Nat) : Int) := by
   refine int_rel hab ?_
   rw [Int.natCast_mul, Int.natCast_mul, Rat.intCast_mul, Rat.intCast_mul, hMf]
   grind
  exact_mod_cast this
 have eU : mulU (mulU us f) ((D' : Int) : Rat) = mulU (mulU us ((D : Int) : Rat)) r := by
  rw [mulU_mul, mulU_mul, er]
 rw [eU] at i2 ⊢
 have hc : c * f * ((D' : Int) : Rat) = c * ((D : Int) : Rat) * r := by
  rw [Rat.mul_assoc, ← er, Rat.mul_assoc]
 have hcn : (b : Int) * (c * f * ((D' : Int) : Rat)).num = a * (c * ((D : Int) : Rat)).num := int_rel hab (by rw [← j1, ← j2, hc])
 have hP2 : (b : Int) * ((M' * D' : Nat) : Int) = a * ((M * D : Nat) : Int) := by exact_mod_cast hP
 have hm := emod_rel (show (0 : Int) < a by omega) (show (0 : Int) < b by omega) hcn hP2
 have hS := foldD_rel ha hb hab hP (mulU us ((D : Int) : Rat)) (st := ([], M * D)) (st' := ([], M' * D')) ⟨rfl, hP⟩ fun v hv => ⟨i1 v hv, i2 (v.1, v.2 * r) (List.mem_map.2 ⟨v, hv, rfl⟩)⟩
 refine divE_rel ha hb hab hP hS ?_ rel hm
 have hg0 : ∀ (vs : List QT) (st : List QT × Nat), st.2 ≠ 0 → (vs.foldl (stepD (M * D)) st).2 ≠ 0 := by
  intro vs
  induction vs with
  | nil => exact fun _ h => h
  | cons v vs ih =>
   intro st h
   refine ih _ ?_
   unfold stepD
   split
   ·exact h
   ·have := Nat.gcd_pos_of_pos_left (v.2.num % ((M * D : Nat) : Int)).natAbs (show 0 < st.2 by omega)
    show Nat.gcd _ _ ≠ 0
    omega
 exact hg0 _ _ (Nat.mul_ne_zero hM d1)
theorem gcdU_rel {a b : Nat} {r f : Rat} (hr : r * (b : Int) = (a : Int)) {D D' : Nat} (er : ((D : Int) : Rat) * r = f * ((D' : Int) : Rat)) : ∀ (us : List QT) (g g' : Nat), b * g' = a * g → (∀ u ∈ us, u.2.den ∣ D ∧ (u.2 * f).den ∣ D') →
  b * (mulU us f).foldl (fun g u => Nat.gcd g (zU D' u).natAbs) g' = a * us.foldl (fun g u => Nat.gcd g (zU D u).natAbs) g
 | [], _, _, h, _ => h
 | u :: us, g, g', h, hu => by
  rw [mulU_cons, List.foldl_cons, List.foldl_cons]
  refine gcdU_rel hr er us _ _ (gcd_rel h (nat_rel (int_rel hr ?_))) fun w hw => hu w (by simp [hw])
  have h1 := zU_eq (u := u) (hu u (by simp)).1
  have h2 := zU_eq (u := (u.1, u.2 * f)) (hu u (by simp)).2
  rw [← h1, ← h2, Rat.mul_assoc, Rat.mul_assoc, er]
theorem prim_scale {us : List QT} {f : Rat} (hf : 0 < f) (hne : us ≠ []) (h0 : ∀ u ∈ us, u.2 ≠ 0) : prim (mulU us f) = prim us / f := by
 have d1 : lcmU 1 us ≠ 0 := lcmU_pos (by omega)
 have d2 : lcmU 1 (mulU us f) ≠ 0 := lcmU_pos (by omega)
 have v1 := (lcmU_dvd (us := us) (d := 1)).2
 have v2 := (lcmU_dvd (us := mulU us f) (d := 1)).2
 unfold prim gcdU
 generalize lcmU 1 us = D at *
 generalize lcmU 1 (mulU us f) = D' at *
 have n1 := natR d1
 have p1 := natR_pos d1
 have p2 := natR_pos d2
 have n2 := natR d2
 have hr : 0 < f * ((D' : Int) : Rat) / ((D : Int) : Rat) := by
  rw [Rat.div_def]
  exact Rat.mul_pos (Rat.mul_pos hf p2) (Rat.inv_pos.2 p1)
 have er : ((D : Int) : Rat) * (f * ((D' : Int) : Rat) / ((D : Int) : Rat)) = f * ((D' : Int) : Rat) := by grind
 generalize f * ((D' : Int) : Rat) / ((D : Int) : Rat) = r at *
 obtain ⟨a, b, ha, hb, hab⟩ := rat_ab hr
 have hg := gcdU_rel hab er us 0 0 rfl fun u hu => ⟨v1 u hu, v2 (u.1, u.2 * f) (List.mem_map.2 ⟨u, hu, rfl⟩)⟩
 have g0 : us.foldl (fun g u => Nat.gcd g (zU D u).natAbs) 0 ≠ 0 := gcdU_ne0 (.inr hne) fun u hu => zU_ne d1 (v1 u hu) (h0 u hu)
 generalize us.foldl (fun g u => Nat.gcd g (zU D u).natAbs) 0 = G at *
 generalize (mulU us f).foldl (fun g u => Nat.gcd g (zU D' u).natAbs) 0 = G' at *
 have hgr : ((G' : Int) : Rat) = ((G : Int) : Rat) * r := rel_int (by omega) hab (by exact_mod_cast hg)
 have n3 := natR g0
 have r0 := pos_ne hr
 have f0 := pos_ne hf
 rw [hgr]
 grind
theorem num_mul_neg {q f : Rat} (hf : 0 < f) : (q * f).num < 0 ↔ q.num < 0 := by
 have h1 : ∀ x : Rat, x.num < 0 ↔ ¬ 0 ≤ x := fun x => by rw [← Rat.num_nonneg]; omega
 rw [h1, h1]
 refine not_congr ⟨fun h => ?_, fun h => Rat.mul_nonneg h (Rat.le_of_lt hf)⟩
 have := Rat.mul_nonneg h (Rat.le_of_lt (Rat.inv_pos.2 hf))
 rwa [Rat.mul_assoc, Rat.mul_inv_cancel f (pos_ne hf), Rat.mul_one] at this
theorem sgn_mul {q f : Rat} (hf : 0 < f) : sgn (q * f) = sgn q := by
 have h1 := num_mul_neg (q := q) hf
 have h2 : (q * f).num = 0 ↔ q.num = 0 := by
  rw [Rat.num_eq_zero, Rat.num_eq_zero, Rat.mul_eq_zero]
  exact ⟨fun h => h.resolve_right (pos_ne hf), .inl⟩
 unfold sgn
 simp only [h1, h2]
end Go.PE
namespace Go.PE
open Go.RowKit Go.Proofs.Tryz
set_option maxRecDepth 100000
variable {k : Nat}
theorem scU_ne {us : List QT} {q : Rat} (h : q ≠ 0) : scU us q = mulU us q := by unfold scU; rw [if_neg h]
def okM (rel kd : Int) (m : Bs) (M : Nat) : Prop :=
 (m = [] ∧ (rel = 1 ∨ rel = 2 ∨ rel = 3)) ∨ (kd = 2 ∧ (rel = 4 ∨ rel = 5) ∧ M ≠ 0 ∧ m = rs ((M : Int) : Rat) ∧ (dec M).length ≤ 1000)
def nV (rel kd : Int) (us : List QT) (q : Rat) (M : Nat) : PV := if rel ≤ 3 then nrmV rel kd us q else divV rel us q M
theorem conB_ok {rel kd : Int} {us : List QT} {q : Rat} {m : Bs} {M : Nat} (hk : kd = 2 ∨ kd = 3) (hu : okU us) (hm : okM rel kd m M) : conB rel kd (tx us) (rs q) m = true := by
 have hl : linB kd (tx us) (rs q) = true := linB_tx.2 ⟨hk, hu⟩
 unfold conB
 rcases hm with ⟨rfl, hr⟩ | ⟨rfl, hr, hM, rfl, _⟩
 ·rw [if_pos hr, hl]; rfl
 ·rw [if_neg (by omega), if_pos hr, hl]
  have hs : 0 < sgn ((M : Int) : Rat) := by
   rcases sgn_cases ((M : Int) : Rat) with ⟨a, _⟩ | ⟨a, _⟩ | ⟨_, a⟩
   ·have a : (M : Int) < 0 := a
    omega
   ·exact absurd a (natR hM)
   ·rw [a]; decide
  unfold isIq sgq
  rw [rd_rs]
  simp only [Bool.true_and, decide_true]
  rw [decide_eq_true hs]
  rfl
theorem tx_small {us : List QT} {L : Nat} (hu : okU us) (hs : ∀ u ∈ us, szQ u.2 L) (hL : L ≤ 400000) : ∀ t ∈ tx us, smallT t := by
 intro t ht
 obtain ⟨u, h, rfl⟩ := List.mem_map.1 ht
 have h1 := (hu.1 u h).1
 have h2 := (hs u h).len
 unfold nameB at h1
 simp only [Bool.and_eq_true, decide_eq_true_eq] at h1
 exact ⟨by have := h1.2.1; show u.1.length < _; omega, by show (rs u.2).length < _; omega⟩
theorem okM_len {rel kd : Int} {m : Bs} {M : Nat} (hm : okM rel kd m M) : m.length ≤ 1000 := by
 rcases hm with ⟨rfl, _⟩ | ⟨_, _, _, rfl, h⟩
 ·simp
 ·rw [rs_nat]; exact h
theorem valid_V {rel kd : Int} {us : List QT} {q : Rat} {m : Bs} {M : Nat} (hk : kd = 2 ∨ kd = 3) (hu : okU us) (hg : goodU us) (hq : szQ q 1000) (hm : okM rel kd m M) : T (k + 13) 24 [conQ rel kd us q m] = some (.bool true, []) := by
 have h := con_T (k := k + 5) rel kd (tx us) (rs q) m (tx_small hu (fun u h => (hg.2 u h).1) (by omega)) (by have := hg.1; rw [tx_len]; omega) (by have := hq.len; omega) (by have := okM_len hm; omega)
 rw [conB_ok hk hu hm] at h
 exact h
theorem rvalid_V {rel kd : Int} {us : List QT} {q : Rat} {m : Bs} {M : Nat} (hk : kd = 2 ∨ kd = 3) (hu : okU us) (hg : goodU us) (hq : szQ q 1000) (hm : okM rel kd m M) : T (k + 13) 25 [conQ rel kd us q m] = some (.bool true, []) := by
 have h := rcon_T (k := k + 4) rel kd (tx us) (rs q) m (tx_small hu (fun u h => (hg.2 u h).1) (by omega)) (by have := hg.1; rw [tx_len]; omega) (by have := hq.len; omega) (by have := okM_len hm; omega)
 rw [conB_ok hk hu hm] at h
 exact h
theorem normal_V {rel kd : Int} {us : List QT} {q : Rat} {m : Bs} {M : Nat} (hk : kd = 2 ∨ kd = 3) (hu : okU us) (hg : goodU us) (hq : szQ q 1000) (hm : okM rel kd m M) :
  T (k + 14) 26 [conQ rel kd us q m] = some (.tup [nV rel kd us q M, .int .i64 0], []) := by
 have h1 := valid_V (k := k) hk hu hg hq hm
 unfold nV
 rcases hm with ⟨rfl, hr⟩ | ⟨rfl, hr, hM0, rfl, hM⟩
 ·rw [if_pos (by omega)]
  by_cases hne : us = []
  ·subst hne
   exact normal0_T (k := k + 1) rel kd q hr hq h1
  ·rcases hr with rfl | rfl | rfl
   ·exact normal1_T (k := k + 1) kd us q hk hne hg hq h1
   ·exact normal2_T (k := k + 1) kd us q hk hne hg hq h1
   ·exact normal3_T (k := k + 1) kd us q hk hne hg hq h1
 ·rw [if_neg (by omega)]
  exact normalD_T (k := k) rel us q M hr hg hq hM0 hM h1
theorem conG_m (c : Ch) : (conG c).1.m.length ≤ 100 := by
 have b4 := nx_lt (linG (nxC (nxC c))).2.1 (n := 12) (by omega) (by omega)
 unfold conG
 simp only
 generalize linG (nxC (nxC c)) = l at *
 generalize nxV l.2.1 12 = v4 at *
 by_cases hr : 4 ≤ 1 + nxV c 5
 ·rw [if_pos hr]
  show (rs ((1 + v4 : Int) : Rat)).length ≤ 100
  have e : (1 + v4 : Int) = (((1 + v4).toNat : Nat) : Int) := by omega
  rw [e, rs_nat]
  have := dec_len_mono (show (1 + v4).toNat ≤ 12 by omega)
  have h12 : (dec 12).length = 2 := by rw [← decN_eq]; rfl
  omega
 ·rw [if_neg hr]; simp
theorem conG_ex (c : Ch) : ∃ (rel kd : Int) (us : List QT) (q : Rat) (m : Bs) (M : Nat), (conG c).1 = ⟨rel, kd, tx us, rs q, m⟩ ∧ okU us ∧ us.length ≤ 4 ∧ (∀ u ∈ us, szQ u.2 100) ∧ szQ q 100 ∧ (kd = 2 ∨ kd = 3) ∧ okM rel kd m M ∧ m.length ≤ 100 := by
 obtain ⟨⟨hl, ht, hc, hm⟩, hv⟩ := conG_good c
 have hmm := conG_m c
 have e1 := conG_ts c
 have e2 := conG_c c
 have l4 := linG_len (nxC (nxC c))
 have l5 := linG_c (nxC (nxC c))
 have l6 := (linG_ok2 (nxC (nxC c))).2
 rw [← e1] at l4 l6
 rw [← e2] at l5
 generalize (conG c).1 = b at *
 obtain ⟨us, q, h1, h2, hg, hq, hk, hr⟩ := con_cases hv hl (fun t h => (ht t h).2) hc hm
 obtain ⟨rel, kd, ts, cc, m⟩ := b
 simp only at h1 h2 hk hr hv l4 l5 l6 hmm
 subst h1 h2
 have hu : okU us := by
  have h3 : linB kd (tx us) (rs q) = true := by
   unfold conB at hv
   split at hv
   ·simp only [Bool.and_eq_true] at hv; exact hv.1
   ·split at hv
    ·simp only [Bool.and_eq_true] at hv; exact hv.1
    ·cases hv
  exact (linB_tx.1 h3).2
 have hs : ∀ u ∈ us, szQ u.2 100 := fun u h => sz_of_len (by omega) (l6 (u.1, rs u.2) (List.mem_map.2 ⟨u, h, rfl⟩)).2
 rw [tx_len] at l4
 rcases hr with ⟨rfl, hr⟩ | ⟨rfl, hr, M, hM0, rfl, hM⟩
 ·exact ⟨rel, kd, us, q, [], 0, rfl, hu, l4, hs, sz_of_len (by omega) l5, hk, .inl ⟨rfl, hr⟩, hmm⟩
 ·exact ⟨rel, 2, us, q, _, M, rfl, hu, l4, hs, sz_of_len (by omega) l5, hk, .inr ⟨rfl, hr, hM0, rfl, hM⟩, hmm⟩
end Go.PE
namespace Go.PE
open Go.RowKit Go.Proofs.Tryz
set_option maxRecDepth 100000
variable {k : Nat}
theorem linV_T {kd : Int} {us : List QT} {c : Rat} (hk : kd = 2 ∨ kd = 3) (hu : okU us) {L : Nat} (hs : ∀ u ∈ us, szQ u.2 L) (hc : szQ c L) (hL : L ≤ 400000) (hn : us.length < 1073741824) :
  T (k + 7) 22 [linP kd us c] = some (.bool true, []) := by
 have h := linValid_T (k := k) kd (tx us) (rs c) (tx_small hu hs hL) (by rw [tx_len]; exact hn) (by have := hc.len; omega)
 rw [linB_tx.2 ⟨hk, hu⟩] at h
 exact h
theorem scaleE_T {kd : Int} {us : List QT} {c q : Rat} (hk : kd = 2 ∨ kd = 3) (hu : okU us) {L : Nat} (hs : ∀ u ∈ us, szQ u.2 L) (hc : szQ c L) (hq : szQ q L) (hL : L ≤ 400000) (hn : us.length < 1073741824) :
  T (k + 11) 32 [linP kd us c, .str (rs q)] = some (.tup [linP kd (scU us q) (c * q), .int .i64 0], []) := by
 have h1 := linV_T (k := k + 3) hk hu hs hc hL hn
 have h2 := valid_Q (k := k + 4) q (by have := hq.len; omega)
 have h3 := scale_T (k := k) kd us c q hc hq hs (by omega) hn
 refine enter rfl func32 rfl (by decide) (by kernel_rfl) rfl rfl ?_
 refine zs1 h1 ?_
 refine zs2 h2 ?_
 refine zs2 h3 ?_
 rfl
end Go.PE
namespace Go.PE
open Go.RowKit Go.Proofs.Tryz
set_option maxRecDepth 100000
def outU (us : List QT) (n : Bs) : List QT := us.filter fun u => decide (u.1 ≠ n)
theorem okU_out {us : List QT} (n : Bs) (h : okU us) : okU (outU us n) :=
 ⟨fun u hu => h.1 u (List.mem_filter.1 hu).1, List.Pairwise.filter _ h.2⟩
theorem co_out (us : List QT) (n m : Bs) : co (outU us n) m = if m = n then 0 else co us m := by
 induction us with
 | nil => simp [outU, co]
 | cons u us ih =>
  have e : outU (u :: us) n = if u.1 = n then outU us n else u :: outU us n := by
   unfold outU
   rw [List.filter_cons]
   by_cases h : u.1 = n <;> simp [h]
  rw [e]
  by_cases h : u.1 = n
  ·rw [if_pos h, ih]
   by_cases hm : m = n
   ·rw [if_pos hm, if_pos hm]
   ·rw [if_neg hm, if_neg hm]
    have : ¬ u.1 = m := fun e => hm (e ▸ h)
    simp only [co, if_neg this]
  ·rw [if_neg h, co, ih]
   by_cases hm : u.1 = m
   ·have : ¬ m = n := fun e => h (hm.trans e)
    simp only [co, if_pos hm, if_neg this]
   ·simp only [co, if_neg hm]
theorem outU_len (us : List QT) (n : Bs) : (outU us n).length ≤ us.length := List.length_filter_le _ _
theorem outU_mem {us : List QT} {n : Bs} {u : QT} (h : u ∈ outU us n) : u ∈ us := (List.mem_filter.1 h).1
theorem co_sz {us : List QT} {L : Nat} (h : ∀ u ∈ us, szQ u.2 L) (hL : 1 ≤ L) (n : Bs) : szQ (co us n) L := by
 induction us with
 | nil =>
  refine ⟨?_, ?_⟩
  ·show (dec 0).length ≤ L
   rw [dec_zero]; exact hL
  ·show (dec 1).length ≤ L
   rw [dec1_len]; exact hL
 | cons u us ih =>
  unfold co
  split
  ·exact h u (by simp)
  ·exact ih fun v hv => h v (by simp [hv])
theorem solve_nil {us : List QT} {n : Bs} (h : okU us) (hk : co us n ≠ 0) : addU (outU us n) (scU (scU (outU us n) (-1 / co us n)) (co us n)) = [] :=
 okU_ext (okU_add _ _ (okU_out n h) (okU_sc (okU_sc (okU_out n h)))) okU_nil fun m => by
  rw [co_add _ _ m (okU_out n h) (okU_sc (okU_sc (okU_out n h))), co_sc, co_sc, co_out]
  show _ = (0 : Rat)
  generalize (if m = n then 0 else co us m) = x
  generalize co us n = y at *
  grind
end Go.PE
namespace Go.PE
open Go.RowKit Go.Proofs.Tryz
set_option maxRecDepth 100000
variable {k : Nat}
theorem drop_cons {a : List QT} {i : Nat} (h : i < a.length) : a.drop i = a.getD i ([], 0) :: a.drop (i + 1) := by
 rw [List.drop_eq_getElem_cons h]
 simp [List.getD, List.getElem?_eq_getElem h]
theorem tx_snoc (acc : List QT) (u : QT) : (trow (tx acc)).take (trow (tx acc)).length ++ [[PV.str u.1, .str (rs u.2)]] = trow (tx (acc ++ [u])) := by
 rw [List.take_length]; simp [trow, tx]
theorem idx_eq {i : Nat} {n : Nat} : ((i : Int) < (n : Int)) ↔ i < n := by omega
set_option maxHeartbeats 3200000 in
theorem addC_T (f g : FuncId) (hfg : (f = 109 ∧ g = 53) ∨ (f = 110 ∧ g = 94)) (kd kd' : Int) (a b : List QT) (p q : Rat) (h0 : T k g [.str (rs p), .str (rs q)] = some (.str (rs (p + q)), []))
  (hadd : ∀ u ∈ a, ∀ v ∈ b, T k g [.str (rs u.2), .str (rs v.2)] = some (.str (rs (u.2 + v.2)), [])) (hla : a.length < 268435456) (hlb : b.length < 268435456) :
  T (k + 1) f [linP kd a p, linP kd' b q] = some (linP kd (addU a b) (p + q), []) := by
 rcases hfg with ⟨rfl, rfl⟩ | ⟨rfl, rfl⟩
 all_goals
  first
  | refine enter rfl func109 rfl (by decide) (by kernel_rfl) rfl rfl ?_
  | refine enter rfl func110 rfl (by decide) (by kernel_rfl) rfl rfl ?_
  refine zd1 h0 ?_
  refine W.loop (fun e m => ∃ (i j : Nat) (acc : List QT), e = [(2, .box (0, 0) [.int .i64 kd, .imm 2 (trow (tx a)), .str (rs p)]), (3, .box (0, 0) [.int .i64 kd', .imm 2 (trow (tx b)), .str (rs q)]), (4, .box (0, 0) [.int .i64 0, .own (0, 0) 2 [], .str []]), (5, .box (0, 0) [.int .i64 kd, .own (0, 0) 2 (trow (tx acc)), .str (rs (p + q))]), (6, .int .i64 i), (7, .int .i64 j)] ∧
   i ≤ a.length ∧ j ≤ b.length ∧ acc ++ addU (a.drop i) (b.drop j) = addU a b ∧ acc.length ≤ i + j ∧ m = (a.length - i) + (b.length - j)) (a.length + b.length) ?_ ?_ ?_
  ·exact ⟨0, 0, [], rfl, by omega, by omega, rfl, by simp, by omega⟩
  ·show _ < 4611686018427387904; omega
  ·rintro e m ⟨i, j, acc, rfl, hi, hj, hacc, hal, rfl⟩
   refine zs0 ?_
   refine WX.boolM rfl rfl (fun c1 => ?_) (fun c1 => ?_)
   ·have c1 := of_decide_eq_true c1
    rw [trow_len, tx_len, idx_eq] at c1
    have ha := tx_get (us := a) (i := i) c1
    rw [drop_cons c1] at hacc
    generalize hu : a.getD i ([], 0) = u at *
    have hum : u ∈ a := hu ▸ getD_mem c1
    refine zd8 ?_
    refine WX.boolMD rfl rfl (fun c2 => ?_) (fun c2 => ?_)
    ·have c2 := of_decide_eq_true c2
     rw [trow_len, tx_len] at c2
     have c2 : j = b.length := by omega
     subst c2
     refine zd7 ?_
     refine zd0 ?_
     refine WX.idxImmD tab_eq rfl rfl rfl rfl rfl rfl (by omega) (ha) ?_
     refine zd0 ?_
     refine WX.stepD tab_eq rfl rfl (by simp [trow_len, tx_len]; omega) ?_
     refine zd7 ?_
     rw [wrap_i64 (x := (i : Int) + 1) (by omega) (by omega)]
     show ∃ m', _
     refine ⟨(a.length - (i + 1)) + (b.length - b.length), by omega, i + 1, b.length, acc ++ [u], ?_, by omega, by omega, ?_, by simp; omega, rfl⟩
     ·rw [← tx_snoc]
      rfl
     ·rw [← hacc, List.drop_length, addU_nil, addU_nil, List.append_assoc]; rfl
    ·have c2 := of_decide_eq_false c2
     rw [trow_len, tx_len] at c2
     have c2 : j < b.length := by omega
     have hb := tx_get (us := b) (i := j) c2
     rw [drop_cons c2] at hacc
     generalize hv : b.getD j ([], 0) = v at *
     have hvm : v ∈ b := hv ▸ getD_mem c2
     refine zd0 ?_
     refine WX.boolMD rfl rfl (fun c3 => ?_) (fun c3 => ?_)
     ·refine zd0 ?_
      refine WX.idxImmD tab_eq rfl rfl rfl rfl rfl rfl (by omega) (ha) ?_
      refine zd0 ?_
      refine WX.idxImmD tab_eq rfl rfl rfl rfl rfl rfl (by omega) (hb) ?_
      refine zd7 ?_
      refine W.cond rfl (fun c4 => ?_) (fun c4 => ?_)
      ·rw [addU_lt c4] at hacc
       refine zd8 ?_
       refine WX.idxImmD tab_eq rfl rfl rfl rfl rfl rfl (by omega) (ha) ?_
       refine zd0 ?_
       refine WX.stepD tab_eq rfl rfl (by simp [trow_len, tx_len]; omega) ?_
       refine zd7 ?_
       rw [wrap_i64 (x := (i : Int) + 1) (by omega) (by omega)]
       show ∃ m', _
       refine ⟨(a.length - (i + 1)) + (b.length - j), by omega, i + 1, j, acc ++ [u], ?_, by omega, by omega, ?_, by simp; omega, rfl⟩
       ·rw [← tx_snoc]
        rfl
       ·rw [← hacc, drop_cons c2, hv, List.append_assoc]; rfl
      ·refine zd8 ?_
       refine WX.boolMD rfl rfl (fun c5 => ?_) (fun c5 => ?_)
       ·have c5 := of_decide_eq_true c5
        rw [trow_len, tx_len] at c5
        exact absurd c5 (by omega)
       ·refine zd0 ?_
        refine WX.idxImmD tab_eq rfl rfl rfl rfl rfl rfl (by omega) (hb) ?_
        refine zd0 ?_
        refine WX.idxImmD tab_eq rfl rfl rfl rfl rfl rfl (by omega) (ha) ?_
        refine zd7 ?_
        refine W.cond rfl (fun c6 => ?_) (fun c6 => ?_)
        ·rw [addU_gt c6] at hacc
         refine zd8 ?_
         refine WX.idxImmD tab_eq rfl rfl rfl rfl rfl rfl (by omega) (hb) ?_
         refine zd0 ?_
         refine WX.stepD tab_eq rfl rfl (by simp [trow_len, tx_len]; omega) ?_
         refine zd7 ?_
         rw [wrap_i64 (x := (j : Int) + 1) (by omega) (by omega)]
         show ∃ m', _
         refine ⟨(a.length - i) + (b.length - (j + 1)), by omega, i, j + 1, acc ++ [v], ?_, by omega, by omega, ?_, by simp; omega, rfl⟩
         ·rw [← tx_snoc]
          rfl
         ·rw [← hacc, drop_cons c1, hu, List.append_assoc]; rfl
        ·have c4 : Op.bytesLess u.1 v.1 = false := c4
         have c6 : Op.bytesLess v.1 u.1 = false := c6
         have he := lss_tri (a := u.1) (b := v.1) (by unfold lss; rw [c4]; decide) (by unfold lss; rw [c6]; decide)
         have hs := hadd u hum v hvm
         rw [addU_eq he] at hacc
         refine zd8 ?_
         refine WX.idxImmD tab_eq rfl rfl rfl rfl rfl rfl (by omega) (ha) ?_
         refine zd0 ?_
         refine WX.idxImmD tab_eq rfl rfl rfl rfl rfl rfl (by omega) (hb) ?_
         refine zd6 hs ?_
         refine W.cond rfl (fun c7 => ?_) (fun c7 => ?_)
         ·have c7 : u.2 + v.2 ≠ 0 := fun e => of_decide_eq_true c7 ((rs_is0 _).2 e)
          rw [if_neg c7] at hacc
          refine zd8 ?_
          refine WX.idxImmD tab_eq rfl rfl rfl rfl rfl rfl (by omega) (ha) ?_
          refine zd0 ?_
          refine WX.stepD tab_eq rfl rfl (by simp [trow_len, tx_len]; omega) ?_
          refine zd7 ?_
          rw [wrap_i64 (x := (i : Int) + 1) (by omega) (by omega), wrap_i64 (x := (j : Int) + 1) (by omega) (by omega)]
          show ∃ m', _
          refine ⟨(a.length - (i + 1)) + (b.length - (j + 1)), by omega, i + 1, j + 1, acc ++ [(u.1, u.2 + v.2)], ?_, by omega, by omega, ?_, by simp; omega, rfl⟩
          ·rw [← tx_snoc]
           rfl
          ·rw [← hacc, List.append_assoc]; rfl
         ·have c7 : u.2 + v.2 = 0 := (rs_is0 _).1 (Classical.not_not.1 (of_decide_eq_false c7))
          rw [if_pos c7] at hacc
          refine zs0 ?_
          rw [wrap_i64 (x := (i : Int) + 1) (by omega) (by omega), wrap_i64 (x := (j : Int) + 1) (by omega) (by omega)]
          show ∃ m', _
          exact ⟨(a.length - (i + 1)) + (b.length - (j + 1)), by omega, i + 1, j + 1, acc, rfl, by omega, by omega, hacc, by omega, rfl⟩
     ·have c3 := of_decide_eq_false c3
      rw [trow_len, tx_len] at c3
      exact absurd c3 (by omega)
   ·have c1 := of_decide_eq_false c1
    rw [trow_len, tx_len] at c1
    have c1 : i = a.length := by omega
    subst c1
    rw [List.drop_length, nil_addU] at hacc
    refine zs0 ?_
    refine W.cond rfl (fun c2 => ?_) (fun c2 => ?_)
    ·have c2 := of_decide_eq_true c2
     rw [trow_len, tx_len, idx_eq] at c2
     have hb := tx_get (us := b) (i := j) c2
     rw [drop_cons c2] at hacc
     generalize hv : b.getD j ([], 0) = v at *
     refine zd8 ?_
     refine WX.boolMD rfl rfl (fun c3 => ?_) (fun c3 => ?_)
     ·have c3 := of_decide_eq_true c3
      rw [trow_len, tx_len] at c3
      exact absurd c3 (by omega)
     ·refine zd0 ?_
      refine WX.boolMD rfl rfl (fun c4 => ?_) (fun c4 => ?_)
      ·have c4 := of_decide_eq_true c4
       rw [trow_len, tx_len] at c4
       exact absurd c4 (by omega)
      ·refine zd7 ?_
       refine zd0 ?_
       refine WX.boolMD rfl rfl (fun c5 => ?_) (fun c5 => ?_)
       ·refine zd7 ?_
        refine zd0 ?_
        refine WX.idxImmD tab_eq rfl rfl rfl rfl rfl rfl (by omega) (hb) ?_
        refine zd0 ?_
        refine WX.stepD tab_eq rfl rfl (by simp [trow_len, tx_len]; omega) ?_
        refine zd7 ?_
        rw [wrap_i64 (x := (j : Int) + 1) (by omega) (by omega)]
        show ∃ m', _
        refine ⟨(a.length - a.length) + (b.length - (j + 1)), by omega, a.length, j + 1, acc ++ [v], ?_, by omega, by omega, ?_, by simp; omega, rfl⟩
        ·rw [← tx_snoc]
         rfl
        ·rw [← hacc, List.drop_length, nil_addU, List.append_assoc]; rfl
       ·have c5 := of_decide_eq_false c5
        rw [trow_len, tx_len] at c5
        exact absurd c5 (by omega)
    ·have c2 := of_decide_eq_false c2
     rw [trow_len, tx_len, idx_eq] at c2
     have c2 : j = b.length := by omega
     subst c2
     rw [List.drop_length, List.append_nil] at hacc
     subst hacc
     refine zs0 ?_
     rfl
end Go.PE
namespace Go.PE
open Go.RowKit Go.Proofs.Tryz
set_option maxRecDepth 100000
variable {k : Nat}
theorem co_snoc_ne {us : List QT} {u : QT} {n : Bs} (h : u.1 ≠ n) : co (us ++ [u]) n = co us n := by
 induction us with
 | nil => simp [co, h]
 | cons w us ih =>
  rw [List.cons_append]
  unfold co
  rw [ih]
theorem co_new {us vs : List QT} {n : Bs} (h : ∀ w ∈ us, w.1 ≠ n) : co (us ++ vs) n = co vs n := by
 induction us with
 | nil => rfl
 | cons w us ih =>
  rw [List.cons_append]
  unfold co
  rw [if_neg (h w (by simp)), ih fun v hv => h v (by simp [hv])]
  cases vs <;> rfl
theorem okU_take {us : List QT} {i : Nat} (h : okU us) (hi : i < us.length) : ∀ w ∈ us.take i, w.1 ≠ (us.getD i ([], 0)).1 := by
 intro w hw
 obtain ⟨j, hj, rfl⟩ := List.mem_iff_getElem.1 hw
 rw [List.length_take] at hj
 have h2 := List.pairwise_iff_getElem.1 h.2 j i (by omega) hi (by omega)
 rw [List.getElem_take]
 simp only [List.getD, List.getElem?_eq_getElem hi, Option.getD_some]
 exact lss_ne h2
theorem outU_snoc (us : List QT) (u : QT) (n : Bs) : outU (us ++ [u]) n = if u.1 = n then outU us n else outU us n ++ [u] := by
 unfold outU
 rw [List.filter_append]
 by_cases h : u.1 = n <;> simp [h]
theorem split_T (kd : Int) (us : List QT) (c : Rat) (n : Bs) (hu : okU us) (hl : us.length < 268435456) :
  T (k + 1) 111 [linP kd us c, .str n] = some (.tup [.str (rs (co us n)), linP kd (outU us n) c], []) := by
 refine enter rfl func111 rfl (by decide) (by kernel_rfl) rfl rfl ?_
 refine zs0 ?_
 refine W.loop (fun e m => ∃ (i : Nat), e = [(1, .str n), (2, .box (0, 0) [.int .i64 kd, .imm 2 (trow (tx us)), .str (rs c)]), (5, .box (0, 0) [.int .i64 0, .own (0, 0) 2 [], .str []]), (6, .str (rs (co (us.take i) n))), (7, .box (0, 0) [.int .i64 kd, .own (0, 0) 2 (trow (tx (outU (us.take i) n))), .str (rs c)]), (15, .loc 2 (0, 0) 1), (16, .imm 2 (trow (tx us))), (17, .int .i64 (trow (tx us)).length), (18, .int .i64 i)] ∧
  i ≤ us.length ∧ m = us.length - i) us.length ?_ ?_ ?_
 ·refine ⟨0, ?_, by omega, by omega⟩
  rw [List.take_zero, show co [] n = 0 from rfl, rs_zero]
  rfl
 ·show _ < 4611686018427387904; omega
 ·rintro e m ⟨i, rfl, hi, rfl⟩
  refine zs0 ?_
  refine W.cond rfl (fun hlt => ?_) (fun hlt => ?_)
  ·have hlt := of_decide_eq_true hlt
   rw [trow_len, tx_len, idx_eq] at hlt
   have hget := tx_get (us := us) (i := i) hlt
   have htk := take_snoc hlt
   have hno := okU_take hu hlt
   generalize us.getD i ([], 0) = u at *
   have hol := outU_len (us.take i) n
   rw [List.length_take] at hol
   refine zs0 ?_
   refine WX.idxImm tab_eq rfl rfl rfl rfl rfl rfl (by omega) (hget) ?_
   refine zs0 ?_
   refine W.cond rfl (fun c1 => ?_) (fun c1 => ?_)
   ·have c1 := of_decide_eq_true c1
    have c1 : u.1 = n := c1
    have e1 : co (us.take (i + 1)) n = u.2 := by
     rw [htk, co_new fun w hw => c1 ▸ hno w hw]
     simp [co, c1]
    have e2 : outU (us.take (i + 1)) n = outU (us.take i) n := by rw [htk, outU_snoc, if_pos c1]
    refine zs0 ?_
    rw [wrap_i64 (x := (i : Int) + 1) (by omega) (by omega)]
    show ∃ m', _
    refine ⟨us.length - (i + 1), by omega, i + 1, ?_, by omega, rfl⟩
    rw [e1, e2]
    rfl
   ·have c1 := of_decide_eq_false c1
    have c1 : ¬ u.1 = n := c1
    have e1 : co (us.take (i + 1)) n = co (us.take i) n := by rw [htk, co_snoc_ne c1]
    have e2 : outU (us.take (i + 1)) n = outU (us.take i) n ++ [u] := by rw [htk, outU_snoc, if_neg c1]
    refine zs0 ?_
    refine WX.step tab_eq rfl rfl (by simp [trow_len, tx_len]; omega) ?_
    refine zs0 ?_
    rw [wrap_i64 (x := (i : Int) + 1) (by omega) (by omega)]
    show ∃ m', _
    refine ⟨us.length - (i + 1), by omega, i + 1, ?_, by omega, rfl⟩
    rw [e1, e2, ← tx_snoc]
    rfl
  ·have hlt := of_decide_eq_false hlt
   rw [trow_len, tx_len, idx_eq] at hlt
   have hie : i = us.length := by omega
   subst hie
   rw [List.take_length]
   refine zd8 ?_
   refine WX.nilD (by kernel_rfl) ?_
   refine zs0 ?_
   rfl
theorem coef_T (kd : Int) (us : List QT) (c : Rat) (n : Bs) (hl : us.length < 268435456) :
  T (k + 1) 112 [linP kd us c, .str n] = some (.str (rs (co us n)), []) := by
 refine enter rfl func112 rfl (by decide) (by kernel_rfl) rfl rfl ?_
 refine zs0 ?_
 refine W.loop (fun e m => ∃ (i : Nat), e = [(1, .str n), (2, .box (0, 0) [.int .i64 kd, .imm 2 (trow (tx us)), .str (rs c)]), (5, .int .i64 i)] ∧
  i ≤ us.length ∧ (∀ w ∈ us.take i, w.1 ≠ n) ∧ m = us.length - i) us.length ?_ ?_ ?_
 ·exact ⟨0, rfl, by omega, by simp, by omega⟩
 ·show _ < 4611686018427387904; omega
 ·rintro e m ⟨i, rfl, hi, hno, rfl⟩
  refine zs0 ?_
  refine W.cond rfl (fun hlt => ?_) (fun hlt => ?_)
  ·have hlt := of_decide_eq_true hlt
   rw [trow_len, tx_len, idx_eq] at hlt
   have hget := tx_get (us := us) (i := i) hlt
   have htk := take_snoc hlt
   have hdr := drop_cons hlt
   generalize us.getD i ([], 0) = u at *
   refine zs0 ?_
   refine WX.idxImm tab_eq rfl rfl rfl rfl rfl rfl (by omega) (hget) ?_
   refine zs0 ?_
   refine W.cond rfl (fun c1 => ?_) (fun c1 => ?_)
   ·have c1 := of_decide_eq_true c1
    have c1 : u.1 = n := c1
    have e1 : co us n = u.2 := by
     rw [← List.take_append_drop i us, co_new hno, hdr]
     simp [co, c1]
    rw [e1]
    refine zs0 ?_
    refine WX.idxImm tab_eq rfl rfl rfl rfl rfl rfl (by omega) (hget) ?_
    refine zs0 ?_
    rfl
   ·have c1 := of_decide_eq_false c1
    have c1 : ¬ u.1 = n := c1
    refine zs0 ?_
    rw [wrap_i64 (x := (i : Int) + 1) (by omega) (by omega)]
    show ∃ m', _
    refine ⟨us.length - (i + 1), by omega, i + 1, rfl, by omega, fun w hw => ?_, rfl⟩
    rw [htk] at hw
    rcases List.mem_append.1 hw with hw | hw
    ·exact hno w hw
    ·obtain rfl := List.mem_singleton.1 hw
     exact c1
  ·have hlt := of_decide_eq_false hlt
   rw [trow_len, tx_len, idx_eq] at hlt
   have hie : i = us.length := by omega
   subst hie
   rw [List.take_length] at hno
   rw [co_0 hno, rs_zero]
   refine zs0 ?_
   rfl
theorem without_T (kd : Int) (us : List QT) (c : Rat) (n : Bs) (hl : us.length < 268435456) :
  T (k + 2) 113 [linP kd us c, .str n] = some (linP kd (outU us n) c, []) := by
 have h := const_T (k := k + 1) kd (rs c)
 refine enter rfl func113 rfl (by decide) (by kernel_rfl) rfl rfl ?_
 refine zs1 h ?_
 refine W.loop (fun e m => ∃ (i : Nat), e = [(1, .str n), (2, .box (0, 0) [.int .i64 kd, .imm 2 (trow (tx us)), .str (rs c)]), (4, .box (0, 0) [.int .i64 0, .own (0, 0) 2 [], .str []]), (5, .box (0, 0) [.int .i64 kd, .own (0, 0) 2 (trow (tx (outU (us.take i) n))), .str (rs c)]), (6, .int .i64 i)] ∧
  i ≤ us.length ∧ m = us.length - i) us.length ?_ ?_ ?_
 ·refine ⟨0, ?_, by omega, by omega⟩
  rw [List.take_zero]
  rfl
 ·show _ < 4611686018427387904; omega
 ·rintro e m ⟨i, rfl, hi, rfl⟩
  refine zs0 ?_
  refine W.cond rfl (fun hlt => ?_) (fun hlt => ?_)
  ·have hlt := of_decide_eq_true hlt
   rw [trow_len, tx_len, idx_eq] at hlt
   have hget := tx_get (us := us) (i := i) hlt
   have htk := take_snoc hlt
   generalize us.getD i ([], 0) = u at *
   have hol := outU_len (us.take i) n
   rw [List.length_take] at hol
   refine zs0 ?_
   refine WX.idxImm tab_eq rfl rfl rfl rfl rfl rfl (by omega) (hget) ?_
   refine zs0 ?_
   refine W.cond rfl (fun c1 => ?_) (fun c1 => ?_)
   ·have c1 := of_decide_eq_true c1
    have c1 : u.1 ≠ n := c1
    have e2 : outU (us.take (i + 1)) n = outU (us.take i) n ++ [u] := by rw [htk, outU_snoc, if_neg c1]
    refine zd8 ?_
    refine WX.idxImmD tab_eq rfl rfl rfl rfl rfl rfl (by omega) (hget) ?_
    refine zd0 ?_
    refine WX.stepD tab_eq rfl rfl (by simp [trow_len, tx_len]; omega) ?_
    refine zd7 ?_
    rw [wrap_i64 (x := (i : Int) + 1) (by omega) (by omega)]
    show ∃ m', _
    refine ⟨us.length - (i + 1), by omega, i + 1, ?_, by omega, rfl⟩
    rw [e2, ← tx_snoc]
    rfl
   ·have c1 : u.1 = n := Classical.not_not.1 (of_decide_eq_false c1)
    have e2 : outU (us.take (i + 1)) n = outU (us.take i) n := by rw [htk, outU_snoc, if_pos c1]
    refine zs0 ?_
    rw [wrap_i64 (x := (i : Int) + 1) (by omega) (by omega)]
    show ∃ m', _
    refine ⟨us.length - (i + 1), by omega, i + 1, ?_, by omega, rfl⟩
    rw [e2]
    rfl
  ·have hlt := of_decide_eq_false hlt
   rw [trow_len, tx_len, idx_eq] at hlt
   have hie : i = us.length := by omega
   subst hie
   rw [List.take_length]
   refine zs0 ?_
   rfl
def zeroL : PV := .agg [.int .i64 0, .imm 2 [], .str []]
def linA (kd : Int) (xs : List (List PV)) (c : Bs) : PV := .agg [.int .i64 kd, .imm 2 xs, .str c]
theorem addX_T (f v g : FuncId) (hf : (f = 36 ∧ v = 22 ∧ g = 109) ∨ (f = 38 ∧ v = 23 ∧ g = 110)) (kd kd' : Int) (xs ys : List (List PV)) (c d : Bs) (b1 b2 : Bool)
  (h1 : T k v [linA kd xs c] = some (.bool b1, [])) (h2 : T k v [linA kd' ys d] = some (.bool b2, [])) (r : Int) (zs : List (List PV)) (w : Bs)
  (h3 : b1 = true → b2 = true → kd = kd' → T k g [linA kd xs c, linA kd' ys d] = some (linA r zs w, [])) :
  T (k + 1) f [linA kd xs c, linA kd' ys d] = some (.tup [if (b1 && b2 && decide (kd = kd')) = true then linA r zs w else zeroL, .int .i64 (if (b1 && b2) = true then (if kd = kd' then 0 else 3) else 1)], []) := by
 unfold linA at *
 rcases hf with ⟨rfl, rfl, rfl⟩ | ⟨rfl, rfl, rfl⟩
 all_goals
  cases b1
  ·first
   | refine enter rfl func36 rfl (by decide) (by kernel_rfl) rfl rfl ?_
   | refine enter rfl func38 rfl (by decide) (by kernel_rfl) rfl rfl ?_
   refine zs1 h1 ?_
   rfl
  ·cases b2
   ·first
    | refine enter rfl func36 rfl (by decide) (by kernel_rfl) rfl rfl ?_
    | refine enter rfl func38 rfl (by decide) (by kernel_rfl) rfl rfl ?_
    refine zs1 h1 ?_
    refine zs2 h2 ?_
    rfl
   ·by_cases hk : kd = kd'
    ·have h3 := h3 rfl rfl hk
     subst hk
     first
     | refine enter rfl func36 rfl (by decide) (by kernel_rfl) rfl rfl ?_
     | refine enter rfl func38 rfl (by decide) (by kernel_rfl) rfl rfl ?_
     refine zs1 h1 ?_
     refine zs2 h2 ?_
     refine W.cond rfl (fun c1 => ?_) (fun c1 => ?_)
     ·exact absurd rfl (of_decide_eq_true c1)
     ·refine zs1 h3 ?_
      simp only [decide_true, Bool.and_true, if_true]
      rfl
    ·rw [decide_eq_false hk, if_neg hk]
     first
     | refine enter rfl func36 rfl (by decide) (by kernel_rfl) rfl rfl ?_
     | refine enter rfl func38 rfl (by decide) (by kernel_rfl) rfl rfl ?_
     refine zs1 h1 ?_
     refine zs2 h2 ?_
     refine W.cond rfl (fun c1 => ?_) (fun c1 => ?_)
     ·refine zs0 ?_
      rfl
     ·exact absurd (of_decide_eq_false c1) (fun h => h hk)
theorem scaleX_T (f v n g : FuncId) (hf : (f = 32 ∧ v = 22 ∧ n = 70 ∧ g = 82) ∨ (f = 39 ∧ v = 23 ∧ n = 73 ∧ g = 92)) (kd : Int) (xs : List (List PV)) (c s : Bs) (b1 b2 : Bool)
  (h1 : T k v [linA kd xs c] = some (.bool b1, [])) (h2 : T k n [.str s] = some (.bool b2, [])) (r : Int) (zs : List (List PV)) (w : Bs)
  (h3 : b1 = true → b2 = true → T k g [linA kd xs c, .str s] = some (linA r zs w, [])) :
  T (k + 1) f [linA kd xs c, .str s] = some (.tup [if (b1 && b2) = true then linA r zs w else zeroL, .int .i64 (if (b1 && b2) = true then 0 else 1)], []) := by
 unfold linA at *
 rcases hf with ⟨rfl, rfl, rfl, rfl⟩ | ⟨rfl, rfl, rfl, rfl⟩
 all_goals
  cases b1
  ·first
   | refine enter rfl func32 rfl (by decide) (by kernel_rfl) rfl rfl ?_
   | refine enter rfl func39 rfl (by decide) (by kernel_rfl) rfl rfl ?_
   refine zs1 h1 ?_
   rfl
  ·cases b2
   ·first
    | refine enter rfl func32 rfl (by decide) (by kernel_rfl) rfl rfl ?_
    | refine enter rfl func39 rfl (by decide) (by kernel_rfl) rfl rfl ?_
    refine zs1 h1 ?_
    refine zs2 h2 ?_
    rfl
   ·have h3 := h3 rfl rfl
    first
    | refine enter rfl func32 rfl (by decide) (by kernel_rfl) rfl rfl ?_
    | refine enter rfl func39 rfl (by decide) (by kernel_rfl) rfl rfl ?_
    refine zs1 h1 ?_
    refine zs2 h2 ?_
    refine zs2 h3 ?_
    rfl
end Go.PE
namespace Go.PE
open Go.RowKit Go.Proofs.Tryz
set_option maxRecDepth 100000
variable {k : Nat}
theorem replP_T (kd kd' : Int) (xs ys : List (List PV)) (c d s : Bs) (b1 b2 b3 : Bool)
  (h1 : T k 22 [linA kd xs c] = some (.bool b1, [])) (h2 : T k 71 [.str s] = some (.bool b2, [])) (h3 : T k 22 [linA kd' ys d] = some (.bool b3, []))
  (K : Bs) (r1 r2 r : Int) (z1 z2 zs : List (List PV)) (w1 w2 w : Bs)
  (h4 : b1 = true → b2 = true → b3 = true → kd = kd' → T k 111 [linA kd xs c, .str s] = some (.tup [.str K, linA r1 z1 w1], []) ∧ T k 82 [linA kd' ys d, .str K] = some (linA r2 z2 w2, []) ∧ T k 109 [linA r1 z1 w1, linA r2 z2 w2] = some (linA r zs w, [])) :
  T (k + 1) 40 [linA kd xs c, .str s, linA kd' ys d] = some (.tup [if (b1 && b2 && b3 && decide (kd = kd')) = true then linA r zs w else zeroL, .int .i64 (if (b1 && b2 && b3) = true then (if kd = kd' then 0 else 3) else 1)], []) := by
 unfold linA at *
 cases b1
 ·refine enter rfl func40 rfl (by decide) (by kernel_rfl) rfl rfl ?_
  refine zs1 h1 ?_
  rfl
 ·cases b2
  ·refine enter rfl func40 rfl (by decide) (by kernel_rfl) rfl rfl ?_
   refine zs1 h1 ?_
   refine zs2 h2 ?_
   rfl
  ·cases b3
   ·refine enter rfl func40 rfl (by decide) (by kernel_rfl) rfl rfl ?_
    refine zs1 h1 ?_
    refine zs2 h2 ?_
    refine zs2 h3 ?_
    rfl
   ·by_cases hk : kd = kd'
    ·obtain ⟨g1, g2, g3⟩ := h4 rfl rfl rfl hk
     subst hk
     refine enter rfl func40 rfl (by decide) (by kernel_rfl) rfl rfl ?_
     refine zs1 h1 ?_
     refine zs2 h2 ?_
     refine zs2 h3 ?_
     refine W.cond rfl (fun c1 => ?_) (fun c1 => ?_)
     ·exact absurd rfl (of_decide_eq_true c1)
     ·refine zs1 g1 ?_
      refine zd2 g2 ?_
      refine zd5 g3 ?_
      simp only [decide_true, Bool.and_true, if_true]
      rfl
    ·rw [decide_eq_false hk, if_neg hk]
     refine enter rfl func40 rfl (by decide) (by kernel_rfl) rfl rfl ?_
     refine zs1 h1 ?_
     refine zs2 h2 ?_
     refine zs2 h3 ?_
     refine W.cond rfl (fun c1 => ?_) (fun c1 => ?_)
     ·refine zs0 ?_
      rfl
     ·exact absurd (of_decide_eq_false c1) (fun h => h hk)
theorem replR_T (kd kd' : Int) (xs ys : List (List PV)) (c d s : Bs) (b1 b2 b3 : Bool)
  (h1 : T k 23 [linA kd xs c] = some (.bool b1, [])) (h2 : T k 74 [.str s] = some (.bool b2, [])) (h3 : T k 23 [linA kd' ys d] = some (.bool b3, []))
  (K : Bs) (r1 r2 r : Int) (z1 z2 zs : List (List PV)) (w1 w2 w : Bs)
  (h4 : b1 = true → b2 = true → b3 = true → kd = kd' → T k 112 [linA kd xs c, .str s] = some (.str K, []) ∧ T k 113 [linA kd xs c, .str s] = some (linA r1 z1 w1, []) ∧ T k 92 [linA kd' ys d, .str K] = some (linA r2 z2 w2, []) ∧ T k 110 [linA r1 z1 w1, linA r2 z2 w2] = some (linA r zs w, [])) :
  T (k + 1) 41 [linA kd xs c, .str s, linA kd' ys d] = some (.tup [if (b1 && b2 && b3 && decide (kd = kd')) = true then linA r zs w else zeroL, .int .i64 (if (b1 && b2 && b3) = true then (if kd = kd' then 0 else 3) else 1)], []) := by
 unfold linA at *
 cases b1
 ·refine enter rfl func41 rfl (by decide) (by kernel_rfl) rfl rfl ?_
  refine zs1 h1 ?_
  rfl
 ·cases b2
  ·refine enter rfl func41 rfl (by decide) (by kernel_rfl) rfl rfl ?_
   refine zs1 h1 ?_
   refine zs2 h2 ?_
   rfl
  ·cases b3
   ·refine enter rfl func41 rfl (by decide) (by kernel_rfl) rfl rfl ?_
    refine zs1 h1 ?_
    refine zs2 h2 ?_
    refine zs2 h3 ?_
    rfl
   ·by_cases hk : kd = kd'
    ·obtain ⟨g1, g0, g2, g3⟩ := h4 rfl rfl rfl hk
     subst hk
     refine enter rfl func41 rfl (by decide) (by kernel_rfl) rfl rfl ?_
     refine zs1 h1 ?_
     refine zs2 h2 ?_
     refine zs2 h3 ?_
     refine W.cond rfl (fun c1 => ?_) (fun c1 => ?_)
     ·exact absurd rfl (of_decide_eq_true c1)
     ·refine zs1 g1 ?_
      refine zd2 g0 ?_
      refine zd4 g2 ?_
      refine zd5 g3 ?_
      simp only [decide_true, Bool.and_true, if_true]
      rfl
    ·rw [decide_eq_false hk, if_neg hk]
     refine enter rfl func41 rfl (by decide) (by kernel_rfl) rfl rfl ?_
     refine zs1 h1 ?_
     refine zs2 h2 ?_
     refine zs2 h3 ?_
     refine W.cond rfl (fun c1 => ?_) (fun c1 => ?_)
     ·refine zs0 ?_
      rfl
     ·exact absurd (of_decide_eq_false c1) (fun h => h hk)
def smL (ts : List Trm) (c : Bs) : Prop := ts.length ≤ 8 ∧ (∀ t ∈ ts, t.1.length ≤ 1000 ∧ t.2.length ≤ 1000) ∧ c.length ≤ 1000
theorem smL_sm {ts : List Trm} {c : Bs} (h : smL ts c) : ∀ t ∈ ts, smallT t := fun t ht => ⟨by have := (h.2.1 t ht).1; omega, by have := (h.2.1 t ht).2; omega⟩
theorem smL_q {us : List QT} {q : Rat} (h : smL (tx us) (rs q)) : us.length ≤ 8 ∧ (∀ u ∈ us, szQ u.2 1000) ∧ szQ q 1000 := by
 obtain ⟨h1, h2, h3⟩ := h
 rw [tx_len] at h1
 exact ⟨h1, fun u hu => sz_of_len (by omega) (h2 (u.1, rs u.2) (List.mem_map.2 ⟨u, hu, rfl⟩)).2, sz_of_len (by omega) h3⟩
theorem both_add (kd kd' : Int) (ts ts' : List Trm) (c c' : Bs) (h : smL ts c) (h' : smL ts' c') : ∃ (r : Int) (ws : List Trm) (w : Bs) (e : Int), ws.length ≤ 16 ∧
  T (k + 11) 36 [linA kd (trow ts) c, linA kd' (trow ts') c'] = some (.tup [linA r (trow ws) w, .int .i64 e], []) ∧ T (k + 11) 38 [linA kd (trow ts) c, linA kd' (trow ts') c'] = some (.tup [linA r (trow ws) w, .int .i64 e], []) := by
 have v1 := linValid_T (k := k + 3) kd ts c (smL_sm h) (by have := h.1; omega) (by have := h.2.2; omega)
 have v2 := linValid_T (k := k + 3) kd' ts' c' (smL_sm h') (by have := h'.1; omega) (by have := h'.2.2; omega)
 have r1 := rlinValid_T (k := k + 2) kd ts c (smL_sm h) (by have := h.1; omega) (by have := h.2.2; omega)
 have r2 := rlinValid_T (k := k + 2) kd' ts' c' (smL_sm h') (by have := h'.1; omega) (by have := h'.2.2; omega)
 by_cases hB : linB kd ts c = true ∧ linB kd' ts' c' = true ∧ kd = kd'
 ·obtain ⟨b1, b2, rfl⟩ := hB
  rw [b1] at v1 r1
  rw [b2] at v2 r2
  obtain ⟨us, p, rfl, rfl, hk, hu⟩ := linB_ex b1
  obtain ⟨vs, q, rfl, rfl, _, hv⟩ := linB_ex b2
  obtain ⟨l1, s1, p1⟩ := smL_q h
  obtain ⟨l2, s2, p2⟩ := smL_q h'
  have a1 := addC_T (k := k + 9) 109 53 (.inl ⟨rfl, rfl⟩) kd kd us vs p q (add_Q (k := k) p q p1 p2 (by omega)) (fun u hu v hv => add_Q (k := k) u.2 v.2 (s1 u hu) (s2 v hv) (by omega)) (by omega) (by omega)
  have a2 := addC_T (k := k + 9) 110 94 (.inr ⟨rfl, rfl⟩) kd kd us vs p q (radd_Q (k := k + 2) p q p1 p2 (by omega)) (fun u hu v hv => radd_Q (k := k + 2) u.2 v.2 (s1 u hu) (s2 v hv) (by omega)) (by omega) (by omega)
  have z1 := addX_T (k := k + 10) 36 22 109 (.inl ⟨rfl, rfl, rfl⟩) kd kd (trow (tx us)) (trow (tx vs)) (rs p) (rs q) true true v1 v2 kd (trow (tx (addU us vs))) (rs (p + q)) (fun _ _ _ => a1)
  have z2 := addX_T (k := k + 10) 38 23 110 (.inr ⟨rfl, rfl, rfl⟩) kd kd (trow (tx us)) (trow (tx vs)) (rs p) (rs q) true true r1 r2 kd (trow (tx (addU us vs))) (rs (p + q)) (fun _ _ _ => a2)
  rw [if_pos (show (true && true && decide (kd = kd)) = true by simp), if_pos (show (true && true) = true from rfl), if_pos rfl] at z1 z2
  exact ⟨kd, tx (addU us vs), rs (p + q), 0, by have := addU_len us vs; rw [tx_len]; omega, z1, z2⟩
 ·have z1 := addX_T (k := k + 10) 36 22 109 (.inl ⟨rfl, rfl, rfl⟩) kd kd' (trow ts) (trow ts') c c' _ _ v1 v2 0 [] [] (fun h1 h2 h3 => absurd ⟨h1, h2, h3⟩ hB)
  have z2 := addX_T (k := k + 10) 38 23 110 (.inr ⟨rfl, rfl, rfl⟩) kd kd' (trow ts) (trow ts') c c' _ _ r1 r2 0 [] [] (fun h1 h2 h3 => absurd ⟨h1, h2, h3⟩ hB)
  have e : zeroL = linA 0 [] [] := rfl
  rw [e, ite_self] at z1 z2
  exact ⟨0, [], [], _, by simp, z1, z2⟩
theorem both_scale (kd : Int) (ts : List Trm) (c s : Bs) (h : smL ts c) (hs : s.length ≤ 1000) : ∃ (r : Int) (ws : List Trm) (w : Bs) (e : Int), ws.length ≤ 16 ∧
  T (k + 11) 32 [linA kd (trow ts) c, .str s] = some (.tup [linA r (trow ws) w, .int .i64 e], []) ∧ T (k + 11) 39 [linA kd (trow ts) c, .str s] = some (.tup [linA r (trow ws) w, .int .i64 e], []) := by
 have v1 := linValid_T (k := k + 3) kd ts c (smL_sm h) (by have := h.1; omega) (by have := h.2.2; omega)
 have r1 := rlinValid_T (k := k + 2) kd ts c (smL_sm h) (by have := h.1; omega) (by have := h.2.2; omega)
 have v2 := valid_T (k := k + 4) s (by omega)
 have r2 := rvalid_T (k := k + 3) s (by omega)
 by_cases hB : linB kd ts c = true ∧ (rd s).isSome = true
 ·obtain ⟨b1, b2⟩ := hB
  rw [b1] at v1 r1
  rw [b2] at v2 r2
  obtain ⟨us, p, rfl, rfl, hk, hu⟩ := linB_ex b1
  obtain ⟨q, hq⟩ := Option.isSome_iff_exists.1 b2
  obtain rfl := rs_rd hq
  obtain ⟨l1, s1, p1⟩ := smL_q h
  have sq : szQ q 1000 := sz_of_len (by omega) hs
  have a1 := scale_T (k := k) kd us p q p1 sq s1 (by omega) (by omega)
  have a2 := times_T (k := k + 2) kd us p q p1 sq s1 (by omega) (by omega)
  have z1 := scaleX_T (k := k + 10) 32 22 70 82 (.inl ⟨rfl, rfl, rfl, rfl⟩) kd (trow (tx us)) (rs p) (rs q) true true v1 v2 kd (trow (tx (scU us q))) (rs (p * q)) (fun _ _ => a1)
  have z2 := scaleX_T (k := k + 10) 39 23 73 92 (.inr ⟨rfl, rfl, rfl, rfl⟩) kd (trow (tx us)) (rs p) (rs q) true true r1 r2 kd (trow (tx (scU us q))) (rs (p * q)) (fun _ _ => a2)
  rw [if_pos (show (true && true) = true from rfl), if_pos (show (true && true) = true from rfl)] at z1 z2
  exact ⟨kd, tx (scU us q), rs (p * q), 0, by have := scU_len us q; rw [tx_len]; omega, z1, z2⟩
 ·have z1 := scaleX_T (k := k + 10) 32 22 70 82 (.inl ⟨rfl, rfl, rfl, rfl⟩) kd (trow ts) c s _ _ v1 v2 0 [] [] (fun h1 h2 => absurd ⟨h1, h2⟩ hB)
  have z2 := scaleX_T (k := k + 10) 39 23 73 92 (.inr ⟨rfl, rfl, rfl, rfl⟩) kd (trow ts) c s _ _ r1 r2 0 [] [] (fun h1 h2 => absurd ⟨h1, h2⟩ hB)
  have e : zeroL = linA 0 [] [] := rfl
  rw [e, ite_self] at z1 z2
  exact ⟨0, [], [], _, by simp, z1, z2⟩
theorem both_repl (kd kd' : Int) (ts ts' : List Trm) (c c' n : Bs) (h : smL ts c) (h' : smL ts' c') (hn : n.length ≤ 1000) : ∃ (r : Int) (ws : List Trm) (w : Bs) (e : Int), ws.length ≤ 16 ∧
  T (k + 11) 40 [linA kd (trow ts) c, .str n, linA kd' (trow ts') c'] = some (.tup [linA r (trow ws) w, .int .i64 e], []) ∧ T (k + 11) 41 [linA kd (trow ts) c, .str n, linA kd' (trow ts') c'] = some (.tup [linA r (trow ws) w, .int .i64 e], []) := by
 have v1 := linValid_T (k := k + 3) kd ts c (smL_sm h) (by have := h.1; omega) (by have := h.2.2; omega)
 have v2 := linValid_T (k := k + 3) kd' ts' c' (smL_sm h') (by have := h'.1; omega) (by have := h'.2.2; omega)
 have r1 := rlinValid_T (k := k + 2) kd ts c (smL_sm h) (by have := h.1; omega) (by have := h.2.2; omega)
 have r2 := rlinValid_T (k := k + 2) kd' ts' c' (smL_sm h') (by have := h'.1; omega) (by have := h'.2.2; omega)
 have n1 := isName_T (k := k + 8) n (by omega)
 have n2 := rname_T (k := k + 8) n (by omega)
 by_cases hB : linB kd ts c = true ∧ nameB n = true ∧ linB kd' ts' c' = true ∧ kd = kd'
 ·obtain ⟨b1, b0, b2, rfl⟩ := hB
  rw [b1] at v1 r1
  rw [b2] at v2 r2
  rw [b0] at n1 n2
  obtain ⟨us, p, rfl, rfl, hk, hu⟩ := linB_ex b1
  obtain ⟨vs, q, rfl, rfl, _, hv⟩ := linB_ex b2
  obtain ⟨l1, s1, p1⟩ := smL_q h
  obtain ⟨l2, s2, p2⟩ := smL_q h'
  have sk : szQ (co us n) 1000 := co_sz s1 (by omega) n
  have so : ∀ u ∈ outU us n, szQ u.2 2000 := fun u hu => (s1 u (outU_mem hu)).mono (by omega)
  have lo := outU_len us n
  have ls := scU_len vs (co us n)
  have ss : ∀ u ∈ scU vs (co us n), szQ u.2 2000 := fun u hu => (scU_sz s2 sk u hu).mono (by omega)
  have sp : szQ (q * co us n) 2000 := (szQ_mul p2 sk).mono (by omega)
  have a1 := split_T (k := k + 9) kd us p n hu (by omega)
  have a2 := scale_T (k := k) kd vs q (co us n) p2 sk s2 (by omega) (by omega)
  have a3 := addC_T (k := k + 9) 109 53 (.inl ⟨rfl, rfl⟩) kd kd (outU us n) (scU vs (co us n)) p (q * co us n) (add_Q (k := k) p _ (p1.mono (by omega)) sp (by omega)) (fun u hu v hv => add_Q (k := k) u.2 v.2 (so u hu) (ss v hv) (by omega)) (by omega) (by omega)
  have c1 := coef_T (k := k + 9) kd us p n (by omega)
  have c2 := without_T (k := k + 8) kd us p n (by omega)
  have c3 := times_T (k := k + 2) kd vs q (co us n) p2 sk s2 (by omega) (by omega)
  have c4 := addC_T (k := k + 9) 110 94 (.inr ⟨rfl, rfl⟩) kd kd (outU us n) (scU vs (co us n)) p (q * co us n) (radd_Q (k := k + 2) p _ (p1.mono (by omega)) sp (by omega)) (fun u hu v hv => radd_Q (k := k + 2) u.2 v.2 (so u hu) (ss v hv) (by omega)) (by omega) (by omega)
  have z1 := replP_T (k := k + 10) kd kd (trow (tx us)) (trow (tx vs)) (rs p) (rs q) n true true true v1 n1 v2 _ kd kd kd _ _ _ _ _ _ (fun _ _ _ _ => ⟨a1, a2, a3⟩)
  have z2 := replR_T (k := k + 10) kd kd (trow (tx us)) (trow (tx vs)) (rs p) (rs q) n true true true r1 n2 r2 _ kd kd kd _ _ _ _ _ _ (fun _ _ _ _ => ⟨c1, c2, c3, c4⟩)
  rw [if_pos (show (true && true && true && decide (kd = kd)) = true by simp), if_pos (show (true && true && true) = true from rfl), if_pos rfl] at z1 z2
  exact ⟨kd, tx (addU (outU us n) (scU vs (co us n))), rs (p + q * co us n), 0, by have := addU_len (outU us n) (scU vs (co us n)); rw [tx_len]; omega, z1, z2⟩
 ·have z1 := replP_T (k := k + 10) kd kd' (trow ts) (trow ts') c c' n _ _ _ v1 n1 v2 [] 0 0 0 [] [] [] [] [] [] (fun h1 h2 h3 h4 => absurd ⟨h1, h2, h3, h4⟩ hB)
  have z2 := replR_T (k := k + 10) kd kd' (trow ts) (trow ts') c c' n _ _ _ r1 n2 r2 [] 0 0 0 [] [] [] [] [] [] (fun h1 h2 h3 h4 => absurd ⟨h1, h2, h3, h4⟩ hB)
  have e : zeroL = linA 0 [] [] := rfl
  rw [e, ite_self] at z1 z2
  exact ⟨0, [], [], _, by simp, z1, z2⟩
end Go.PE
