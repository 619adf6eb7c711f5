/-
  A part of the proof that the law's function returns true and leaves its arguments as they were, for every input (no condition): own lemmas of the proof, in the order of their use.
-/
import Derived.Test.YtggpmnlmbfogeaaGreatDoorX40
set_option linter.all false
namespace Go.PE
open Go.RowKit Go.Proofs.Tryz
set_option maxRecDepth 100000
variable {k : Nat}
def ccell (rel kd : Int) (us : List QT) (q : Rat) (m : Bs) : List PV := [.int .i64 rel, .int .i64 kd, .imm 2 (trow (tx us)), .str (rs q), .str m]
def negL (rel kd : Int) (us : List QT) (q : Rat) (m : Bs) : List (List PV) :=
 if rel = 1 then [ccell 2 kd (mulU us (-1)) (q * -1) []] else
 if rel = 2 then [ccell 1 kd (mulU us (-1)) (q * -1) []] else
 if rel = 3 then [ccell 2 kd us q [], ccell 2 kd (mulU us (-1)) (q * -1) []] else
 if rel = 4 then [ccell 5 kd us q m] else [ccell 4 kd us q m]
theorem rs_1 : rs 1 = [49] := by
 rw [show (1 : Rat) = ((1 : Int) : Rat) from rfl]
 exact (rs_nat 1).trans decOne
theorem one_sz : szQ 1 1000 := ⟨by show (dec 1).length ≤ _; rw [dec1_len]; omega, by show (dec 1).length ≤ _; rw [dec1_len]; omega⟩
theorem negate_T {rel kd : Int} {us : List QT} {q : Rat} {m : Bs} {M : Nat} (hk : kd = 2 ∨ kd = 3) (hu : okU us) (hg : goodU us) (hq : szQ q 1000) (hm : okM rel kd m M) :
  T (k + 14) 50 [conQ rel kd us q m] = some (.tup [.imm 5 (negL rel kd us q m), .int .i64 0], []) := by
 have h1 := valid_V (k := k) hk hu hg hq hm
 have l8 := hg.1
 have h2 := scale_T (k := k + 3) kd us q 1 hq one_sz (fun u h => (hg.2 u h).1) (by omega) (by omega)
 have h3 := scale_T (k := k + 3) kd us q (-1) hq (m1_sz.mono (by omega)) (fun u h => (hg.2 u h).1) (by omega) (by omega)
 rw [scU_one, Rat.mul_one, rs_1] at h2
 rw [scU_ne (by decide), rs_m1] at h3
 have hr : rel = 1 ∨ rel = 2 ∨ rel = 3 ∨ rel = 4 ∨ rel = 5 := by rcases hm with ⟨_, h⟩ | ⟨_, h, _⟩ <;> omega
 have h0 : rel = 1 ∨ rel = 2 ∨ rel = 3 → m = [] := fun h => by
  rcases hm with ⟨h, _⟩ | ⟨_, h', _⟩
  ·exact h
  ·omega
 rcases hr with rfl | rfl | rfl | rfl | rfl
 all_goals
  refine enter rfl func50 rfl (by decide) (by kernel_rfl) rfl rfl ?_
  refine zs1 h1 ?_
  refine zd2 h2 ?_
  refine zd5 h3 ?_
  rfl
theorem rnegate_T {rel kd : Int} {us : List QT} {q : Rat} {m : Bs} {M : Nat} (hk : kd = 2 ∨ kd = 3) (hu : okU us) (hg : goodU us) (hq : szQ q 1000) (hm : okM rel kd m M) :
  T (k + 14) 51 [conQ rel kd us q m] = some (.tup [.imm 5 (negL rel kd us q m), .int .i64 0], []) := by
 have h1 := rvalid_V (k := k) hk hu hg hq hm
 have l8 := hg.1
 have h2 := times_T (k := k + 5) kd us q 1 hq one_sz (fun u h => (hg.2 u h).1) (by omega) (by omega)
 have h3 := times_T (k := k + 5) kd us q (-1) hq (m1_sz.mono (by omega)) (fun u h => (hg.2 u h).1) (by omega) (by omega)
 rw [scU_one, Rat.mul_one, rs_1] at h2
 rw [scU_ne (by decide), rs_m1] at h3
 have hr : rel = 1 ∨ rel = 2 ∨ rel = 3 ∨ rel = 4 ∨ rel = 5 := by rcases hm with ⟨_, h⟩ | ⟨_, h, _⟩ <;> omega
 rcases hr with rfl | rfl | rfl | rfl | rfl
 ·refine enter rfl func51 rfl (by decide) (by kernel_rfl) rfl rfl ?_
  refine zs1 h1 ?_
  refine zs2 h3 ?_
  rfl
 ·refine enter rfl func51 rfl (by decide) (by kernel_rfl) rfl rfl ?_
  refine zs1 h1 ?_
  refine zs2 h3 ?_
  rfl
 ·refine enter rfl func51 rfl (by decide) (by kernel_rfl) rfl rfl ?_
  refine zs1 h1 ?_
  refine zs2 h3 ?_
  refine zd6 h2 ?_
  rfl
 all_goals
  refine enter rfl func51 rfl (by decide) (by kernel_rfl) rfl rfl ?_
  refine zs1 h1 ?_
  refine zs2 h3 ?_
  refine zd6 h2 ?_
  rfl
end Go.PE
namespace Go.PE
open Go.RowKit Go.Proofs.Tryz
set_option maxRecDepth 100000
variable {k : Nat}
theorem conG_nm (c : Ch) {us : List QT} {rel kd : Int} {q : Bs} {m : Bs} (h : (conG c).1 = ⟨rel, kd, tx us, q, m⟩) : ∀ u ∈ us, u.1 ∈ vars := by
 intro u hu
 have e := conG_ts c
 rw [h] at e
 have e : tx us = (linG (nxC (nxC c))).2.2 := e
 have := (linG_ok2 (nxC (nxC c))).2 (u.1, rs u.2) (by rw [← e]; exact List.mem_map.2 ⟨u, hu, rfl⟩)
 exact this.1
def fE (es : List Bq) (n : Bs) : Rat := (es.getD (fiQ es (nmP n)).toNat ([], 1, 0)).2.2
theorem evL_val {kd : Int} {es : List Bq} (hn : ∀ x ∈ vars, x ∈ es.map (·.1)) (he : ∀ e ∈ es, e.2.1 = kd) : ∀ (us : List QT) (s : Rat), (∀ u ∈ us, u.1 ∈ vars) → evL kd es us s = (rs (s + sumQ us (fE es)), 0)
 | [], s, _ => by rw [show sumQ [] (fE es) = 0 from rfl, Rat.add_zero]; rfl
 | u :: us, s, h => by
  have hm := hn u.1 (h u (by simp))
  obtain ⟨e, hes, hee⟩ := List.mem_map.1 hm
  have h1 : ¬ fiQ es (nmP u.1) < 0 := by
   have h2 := fi_any es (nmP u.1)
   rw [List.any_eq_true.2 ⟨e, hes, decide_eq_true hee⟩] at h2
   have := of_decide_eq_true h2
   omega
  rw [evL_cons, if_neg h1]
  obtain ⟨j, hj, hjl⟩ := fi_pos h1
  have hm2 : es.getD j ([], 1, 0) ∈ es := by simp [List.getD, List.getElem?_eq_getElem hjl]
  rw [if_neg (by rw [hj, Int.toNat_natCast]; exact fun h => h (he _ hm2)), evL_val hn he us _ fun w hw => h w (by simp [hw])]
  show (rs (s + u.2 * fE es u.1 + sumQ us (fE es)), (0 : Int)) = (rs (s + (u.2 * fE es u.1 + sumQ us (fE es))), 0)
  rw [Rat.add_assoc]
theorem holdsV_T {rel kd : Int} {us : List QT} {q : Rat} {m : Bs} {M : Nat} {es : List Bq} (hk : kd = 2 ∨ kd = 3) (hu : okU us) (hg : goodU us) (hl : us.length ≤ 4) (hq : szQ q 1000) (hm : okM rel kd m M) (hn : es.map (·.1) = vars) (he : ∀ e ∈ es, okB e ∧ e.2.1 = kd) (hv : ∀ u ∈ us, u.1 ∈ vars) :
  T (k + 15) 49 [conQ rel kd us q m, .imm 6 (erow es)] = some (.tup [.bool (holdQ rel (q + sumQ us (fE es)) M), .bool true], []) := by
 have e1 := evL_val (fun x h => hn ▸ h) (fun e h => (he e h).2) us q hv
 have hes : es.length = 4 := by have := congrArg List.length hn; simpa [vars] using this
 have hz : szQ (q + sumQ us (fE es)) 100000 := by
  rcases evL_cases (kd := kd) (es := es) (fun e h => (he e h).1) (A := 1000) us q 0 (fun u h => (hg.2 u h).1) hq with ⟨v, h1, h2⟩ | ⟨e, h0, h1⟩
  ·rw [e1] at h1
   have h3 : rs (q + sumQ us (fE es)) = rs v := congrArg Prod.fst h1
   rw [rs_inj h3]
   have := bdL_le 1000 1000 (show 0 + us.length ≤ 4 by omega)
   exact h2.mono (by omega)
  ·rw [e1] at h1
   exact absurd (congrArg Prod.snd h1).symm h0
 have h := holds_T (k := k) hk hu hg hl hq hm (by omega) (fun e h => (he e h).1) e1 hz
 generalize holdQ rel (q + sumQ us (fE es)) M = b at *
 refine enter rfl func49 rfl (by decide) (by kernel_rfl) rfl rfl ?_
 refine zs1 h ?_
 refine WX.moveB rfl rfl ?_
 refine zs0 ?_
 rfl
theorem sumQ_neg (us : List QT) (q : Rat) (f : Bs → Rat) : q * -1 + sumQ (mulU us (-1)) f = -(q + sumQ us f) := by
 rw [sumQ_mul]
 generalize sumQ us f = x
 grind
end Go.PE
