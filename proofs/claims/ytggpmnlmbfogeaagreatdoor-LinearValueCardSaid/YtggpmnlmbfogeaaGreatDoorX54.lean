/-
  A part of the proof that the law's function returns true and leaves its arguments as they were, for every input (no condition): own lemmas of the proof, in the order of their use.
-/
import Derived.Test.YtggpmnlmbfogeaaGreatDoorX45
import Derived.Test.YtggpmnlmbfogeaaGreatDoorX30
set_option linter.all false
namespace Go.PE
open Go.RowKit Go.Proofs.Tryz
set_option maxRecDepth 100000
variable {k : Nat}
theorem nodup_len : ∀ {l m : List Bs}, l.Nodup → (∀ x ∈ l, x ∈ m) → l.length ≤ m.length
 | [], _, _, _ => Nat.zero_le _
 | x :: l, m, h, hs => by
  obtain ⟨h1, h2⟩ := List.nodup_cons.1 h
  have hx := hs x (by simp)
  have h3 := nodup_len (m := m.erase x) h2 fun y hy => (List.mem_erase_of_ne (fun (e : y = x) => h1 (by rw [← e]; exact hy))).2 (hs y (List.mem_cons_of_mem x hy))
  rw [List.length_erase_of_mem hx] at h3
  have := List.length_pos_of_mem hx
  rw [List.length_cons]
  omega
theorem okU_len4 {us : List QT} (hu : okU us) (hv : ∀ u ∈ us, u.1 ∈ vars) : us.length ≤ 4 := by
 have h1 : (us.map (·.1)).Nodup := by
  unfold List.Nodup
  rw [List.pairwise_map]
  exact hu.2.imp fun h => lss_ne h
 have := nodup_len (m := vars) h1 fun x hx => by
  obtain ⟨u, hu, rfl⟩ := List.mem_map.1 hx
  exact hv u hu
 rw [List.length_map] at this
 exact this
theorem addU_all {p : Bs → Prop} (a b : List QT) : (∀ u ∈ a, p u.1) → (∀ v ∈ b, p v.1) → ∀ w ∈ addU a b, p w.1 := by
 fun_induction addU a b with
 | case1 b => exact fun _ h => h
 | case2 u a => exact fun h _ => h
 | case3 u a v b h ih =>
  intro ha hb w hw
  rcases List.mem_cons.1 hw with rfl | hw
  ·exact ha _ (by simp)
  ·exact ih (fun x hx => ha x (by simp [hx])) hb w hw
 | case4 u a v b h1 h ih =>
  intro ha hb w hw
  rcases List.mem_cons.1 hw with rfl | hw
  ·exact hb _ (by simp)
  ·exact ih ha (fun x hx => hb x (by simp [hx])) w hw
 | case5 u a v b h1 h2 h ih =>
  intro ha hb w hw
  exact ih (fun x hx => ha x (by simp [hx])) (fun x hx => hb x (by simp [hx])) w hw
 | case6 u a v b h1 h2 h ih =>
  intro ha hb w hw
  rcases List.mem_cons.1 hw with rfl | hw
  ·exact ha u (by simp)
  ·exact ih (fun x hx => ha x (by simp [hx])) (fun x hx => hb x (by simp [hx])) w hw
theorem scU_all {p : Bs → Prop} {us : List QT} {q : Rat} (h : ∀ u ∈ us, p u.1) : ∀ w ∈ scU us q, p w.1 := by
 unfold scU
 split
 ·intro w hw; cases hw
 ·intro w hw
  obtain ⟨u, hu, rfl⟩ := mulU_mem hw
  exact h u hu
theorem linQN_T (l : List Int) (kd : Int) : ∃ (us : List QT) (q : Rat) (C : Ch), okU us ∧ us.length ≤ 4 ∧ (∀ u ∈ us, szQ u.2 100) ∧ szQ q 100 ∧ (∀ u ∈ us, u.1 ∈ vars) ∧ LinIs l kd us q C := by
 have hc0 : okCh (l.take 400, 0) := ⟨by simp only [List.length_take]; omega, by simp only; omega⟩
 unfold LinIs
 generalize (l.take 400, 0) = C0 at *
 obtain ⟨us, q, ⟨e1, e2⟩, hu, hl, hs, hq⟩ := linG_ex C0
 refine ⟨us, q, (linG C0).2.1, hu, hl, hs, hq, fun u hu => ?_, fun k => ?_⟩
 ·have := (linG_ok2 C0).2 (u.1, rs u.2) (by rw [e2]; exact List.mem_map.2 ⟨u, hu, rfl⟩)
  exact this.1
 ·have h := linear_T (k := k) C0 hc0 kd
  rw [e1, e2] at h
  exact h
theorem okCh_env {kd : Int} : ∀ (l : List Bs) (st : Ch × List Bd), okCh st.1 → okCh (l.foldl (envS kd) st).1
 | [], _, h => h
 | x :: l, st, h => okCh_env l (envS kd st x) (okCh_numK h kd)
theorem envC_T (l : List Int) {kd : Int} (hk : kd = 2 ∨ kd = 3) : ∃ (es : List Bq) (C : Ch), es.map (·.1) = vars ∧ (∀ e ∈ es, okB e ∧ e.2.1 = kd) ∧ okCh C ∧ T 20 44 [.box (0, 0) (chC (l.take 400, 0)), .int .i64 kd] = some (.own (0, 0) 6 (erow es), [chC C]) := by
 have hc0 : okCh (l.take 400, 0) := ⟨by simp only [List.length_take]; omega, by simp only; omega⟩
 generalize (l.take 400, 0) = C0 at *
 obtain ⟨es, h1, h2, h3⟩ := env_ex hk C0
 have h := linEnv_T (k := 9) C0 hc0 kd
 rw [h1] at h
 exact ⟨es, (envC kd C0).1, h2, h3, okCh_env vars (C0, []) hc0, h⟩
theorem replE_T {kd : Int} {us vs : List QT} {p q : Rat} {n : Bs} (hk : kd = 2 ∨ kd = 3) (hu : okU us) (hv : okU vs) (hs : ∀ u ∈ us, szQ u.2 100) (ht : ∀ u ∈ vs, szQ u.2 100) (hp : szQ p 100) (hq : szQ q 100) (hl : us.length ≤ 4) (hm : vs.length ≤ 4) (hn : nameB n = true) :
  T (k + 11) 40 [linP kd us p, .str n, linP kd vs q] = some (.tup [linP kd (addU (outU us n) (scU vs (co us n))) (p + q * co us n), .int .i64 0], []) := by
 have v1 := linV_T (k := k + 3) hk hu hs hp (by omega) (by omega)
 have v2 := linV_T (k := k + 3) hk hv ht hq (by omega) (by omega)
 have hn40 : n.length ≤ 40 := by
  unfold nameB at hn
  simp only [Bool.and_eq_true, decide_eq_true_eq] at hn
  exact hn.2.1
 have n1 := isName_T (k := k + 8) n (by omega)
 rw [hn] at n1
 have sk : szQ (co us n) 100 := co_sz hs (by omega) n
 have so : ∀ u ∈ outU us n, szQ u.2 200 := fun u hu => (hs u (outU_mem hu)).mono (by omega)
 have lo := outU_len us n
 have ls := scU_len vs (co us n)
 have ss : ∀ u ∈ scU vs (co us n), szQ u.2 200 := fun u hu => (scU_sz ht sk u hu).mono (by omega)
 have sp : szQ (q * co us n) 200 := (szQ_mul hq sk).mono (by omega)
 have a1 := split_T (k := k + 9) kd us p n hu (by omega)
 have a2 := scale_T (k := k) kd vs q (co us n) hq sk ht (by omega) (by omega)
 have a3 := addC_T (k := k + 9) 109 53 (.inl ⟨rfl, rfl⟩) kd kd (outU us n) (scU vs (co us n)) p (q * co us n) (add_Q (k := k) p _ (hp.mono (by omega)) sp (by omega)) (fun u hu v hv => add_Q (k := k) u.2 v.2 (so u hu) (ss v hv) (by omega)) (by omega) (by omega)
 have z := replP_T (k := k + 10) kd kd (trow (tx us)) (trow (tx vs)) (rs p) (rs q) n true true true v1 n1 v2 _ kd kd kd _ _ _ _ _ _ (fun _ _ _ _ => ⟨a1, a2, a3⟩)
 rw [if_pos (show (true && true && true && decide (kd = kd)) = true by simp), if_pos (show (true && true && true) = true from rfl), if_pos rfl] at z
 exact z
theorem evalV_T {kd : Int} {us : List QT} {c : Rat} {es : List Bq} {A L : Nat} (hk : kd = 2 ∨ kd = 3) (hu : okU us) (hv : ∀ u ∈ us, u.1 ∈ vars) (hs : ∀ u ∈ us, szQ u.2 A) (hc : szQ c A) (hA : 47 * A + 31 * L ≤ 4000000) (hes : es.length < 1000000)
  (he : ∀ e ∈ es, okBL L e ∧ e.2.1 = kd) (hn : ∀ x ∈ vars, x ∈ es.map (·.1)) : T (k + 12) 45 [linP kd us c, .imm 6 (erow es)] = some (.tup [.str (rs (c + sumQ us (fE es))), .int .i64 0], []) ∧ szQ (c + sumQ us (fE es)) (46 * A + 30 * L) := by
 have hl := okU_len4 hu hv
 have h := eval_T (k := k) hk hu hl hs hc hA hes fun e h => (he e h).1
 have e1 := evL_val hn (fun e h => (he e h).2) us c hv
 rw [e1] at h
 refine ⟨h, ?_⟩
 rcases evL_cases (kd := kd) (es := es) (fun e h => (he e h).1) (A := A) us c 0 hs hc with ⟨v, h1, h2⟩ | ⟨e, h0, h1⟩
 ·rw [e1] at h1
  have h3 : rs (c + sumQ us (fE es)) = rs v := congrArg Prod.fst h1
  rw [rs_inj h3]
  have := bdL_le A L (show 0 + us.length ≤ 4 by omega)
  exact h2.mono this
 ·rw [e1] at h1
  exact absurd (congrArg Prod.snd h1).symm h0
theorem sumQ_upd {us : List QT} (h : okU us) {f g : Bs → Rat} {n : Bs} : (∀ u ∈ us, u.1 ≠ n → g u.1 = f u.1) → sumQ us g = sumQ us f + co us n * (g n - f n) := by
 induction us with
 | nil =>
  intro _
  show (0 : Rat) = 0 + 0 * _
  grind
 | cons u us ih =>
  intro hg
  obtain ⟨h1, h2, h3⟩ := okU_cons.1 h
  have ih := ih h3 fun v hv => hg v (List.mem_cons_of_mem u hv)
  simp only [sumQ]
  rw [ih]
  by_cases hn : u.1 = n
  ·have h0 : co us n = 0 := co_lt fun x hx => hn ▸ h2 x hx
   rw [h0]
   simp only [co, if_pos hn]
   subst hn
   grind
  ·simp only [co, if_neg hn]
   rw [hg u (by simp) hn]
   grind
theorem fE_hit (n : Bs) (kd : Int) (y : Rat) (es : List Bq) : fE ((n, kd, y) :: es) n = y := by
 unfold fE
 rw [fi_cons, if_pos (show nmP n (n, kd, y) = true from decide_eq_true rfl)]
 rfl
theorem fE_miss {n m : Bs} (h : m ≠ n) (kd : Int) (y : Rat) {es : List Bq} (hm : m ∈ es.map (·.1)) : fE ((n, kd, y) :: es) m = fE es m := by
 obtain ⟨e, he, rfl⟩ := List.mem_map.1 hm
 have h1 : ¬ fiQ es (nmP e.1) < 0 := by
  have h2 := fi_any es (nmP e.1)
  rw [List.any_eq_true.2 ⟨e, he, decide_eq_true rfl⟩] at h2
  have := of_decide_eq_true h2
  omega
 unfold fE
 rw [fi_cons, if_neg (show ¬ nmP e.1 (n, kd, y) = true from fun h' => h (of_decide_eq_true h').symm), if_neg h1]
 obtain ⟨j, hj, hjl⟩ := fi_pos h1
 rw [hj, show ((j : Int) + 1).toNat = j + 1 by omega, Int.toNat_natCast]
 rfl
theorem val_repl {us vs : List QT} {p q y : Rat} {kd : Int} {es : List Bq} {n : Bs} (hu : okU us) (hv : ∀ u ∈ us, u.1 ∈ vars) (hn : ∀ x ∈ vars, x ∈ es.map (·.1)) (hy : y = q + sumQ vs (fE es)) :
  p + q * co us n + sumQ (addU (outU us n) (scU vs (co us n))) (fE es) = p + sumQ us (fE ((n, kd, y) :: es)) := by
 rw [sumQ_add, sumQ_out n _ hu, sumQ_sc, sumQ_upd (n := n) (f := fE es) (g := fE ((n, kd, y) :: es)) hu fun u h hne => fE_miss hne kd y (hn _ (hv u h)), fE_hit, hy]
 generalize sumQ vs (fE es) = s
 generalize sumQ us (fE es) = t
 generalize fE es n = z
 grind
end Go.PE
namespace Go.PE
open Go.RowKit Go.Proofs.Tryz
set_option maxRecDepth 100000
variable {k : Nat}
set_option maxHeartbeats 6400000 in
theorem law12_T (l m n : List Int) (s : Int) (hl : l.length ≤ 4611686018427387000) (hm : m.length ≤ 4611686018427387000) (hn : n.length ≤ 4611686018427387000) (aw : T 20 18 [] = some (.bool true, [])) :
  T 21 12 [.imm 1 (zrow l), .imm 1 (zrow m), .imm 1 (zrow n), .int .i64 s] = some (.bool true, []) := by
 have b1 := modV_lt s 2 (by omega) (by omega)
 have m1 := mod_T (k := 19) s 2 (by omega) (by omega)
 obtain ⟨kd, hkd⟩ : ∃ kd, kd = 2 + modV s 2 := ⟨_, rfl⟩
 have hk : kd = 2 ∨ kd = 3 := by omega
 generalize modV s 2 = x at *
 have g1 := new_T (k := 19) l (by omega)
 have g2 := new_T (k := 19) m (by omega)
 have g3 := new_T (k := 19) n (by omega)
 obtain ⟨a, p, Ca, ha, la, sa, pa, va, ta⟩ := linQN_T l kd
 obtain ⟨b, q, Cb, hb, lb, sb, pb, vb, tb⟩ := linQN_T m kd
 have ta := ta 10
 have tb := tb 10
 obtain ⟨es, Ce, hes, he, hce, g4⟩ := envC_T n hk
 have nk := number_T (k := 11) Ce hce
 have sk := numQ_sz Ce
 generalize numQ Ce = z at *
 generalize numC Ce = Ck at *
 have hl4 : es.length = 4 := by have := congrArg List.length hes; simpa [vars] using this
 have hnv : ∀ x ∈ vars, x ∈ es.map (·.1) := fun x h => hes ▸ h
 have up : ∀ {us : List QT} {L M : Nat}, (∀ u ∈ us, szQ u.2 L) → L ≤ M → ∀ u ∈ us, szQ u.2 M := fun h hl u hu => (h u hu).mono hl
 have hu0 : nameB [117] = true := by decide
 obtain ⟨e1, z1⟩ := evalV_T (k := 8) hk ha va sa pa (by omega) (by omega) he hnv
 obtain ⟨e2, z2⟩ := evalV_T (k := 8) hk hb vb sb pb (by omega) (by omega) he hnv
 have a1 := addE_T (k := 9) hk ha hb sa sb pa pb (by omega) (by omega) (by omega)
 have a2 := scaleE_T (k := 9) hk ha sa pa sk (by omega) (by omega)
 have a3 := replE_T (k := 9) hk ha hb sa sb pa pb la lb hu0
 obtain ⟨e3, _⟩ := evalV_T (k := 8) (A := 400) hk (okU_add a b ha hb) (addU_all a b va vb) (up (addU_sz a b sa sb) (by omega)) ((szQ_add pa pb).mono (by omega)) (by omega) (by omega) he hnv
 obtain ⟨e4, _⟩ := evalV_T (k := 8) (A := 400) hk (okU_sc (q := z) ha) (scU_all va) (up (scU_sz sa sk) (by omega)) ((szQ_mul pa sk).mono (by omega)) (by omega) (by omega) he hnv
 have sc : szQ (co a [117]) 100 := co_sz sa (by omega) _
 have so : ∀ u ∈ outU a [117], szQ u.2 200 := fun u h => (sa u (outU_mem h)).mono (by omega)
 have ss : ∀ u ∈ scU b (co a [117]), szQ u.2 200 := scU_sz sb sc
 obtain ⟨e5, _⟩ := evalV_T (k := 8) (A := 1000) hk (okU_add _ _ (okU_out [117] ha) (okU_sc (q := co a [117]) hb)) (addU_all _ _ (fun u h => va u (outU_mem h)) (scU_all vb)) (up (addU_sz _ _ so ss) (by omega)) ((szQ_add pa (szQ_mul pb sc)).mono (by omega)) (by omega) (by omega) he hnv
 rw [val_repl (kd := kd) ha va hnv rfl] at e5
 rw [show p + q + sumQ (addU a b) (fE es) = p + sumQ a (fE es) + (q + sumQ b (fE es)) by rw [sumQ_add]; generalize sumQ a (fE es) = u; generalize sumQ b (fE es) = v; grind] at e3
 rw [show p * z + sumQ (scU a z) (fE es) = z * (p + sumQ a (fE es)) by rw [sumQ_sc]; generalize sumQ a (fE es) = u; grind] at e4
 have e6 : ((q + sumQ b (fE es)).den = 1 ∨ kd = 3) → T 20 45 [linP kd a p, .imm 6 (erow (([117], kd, q + sumQ b (fE es)) :: es))] = some (.tup [.str (rs (p + sumQ a (fE (([117], kd, q + sumQ b (fE es)) :: es)))), .int .i64 0], []) := fun h => by
  refine (evalV_T (k := 8) (A := 100) (L := 40000) hk ha va sa pa (by omega) (by rw [List.length_cons]; omega) (fun e h' => ?_) fun x h => by rw [List.map_cons]; exact List.mem_cons_of_mem _ (hnv x h)).1
  rcases List.mem_cons.1 h' with rfl | h'
  ·refine ⟨⟨?_, z2.mono (by omega)⟩, rfl⟩
   rcases hk with rfl | rfl
   ·exact .inr (.inl ⟨rfl, h.resolve_right (by decide)⟩)
   ·exact .inr (.inr rfl)
  ·obtain ⟨⟨h1, h2⟩, h3⟩ := he e h'
   exact ⟨⟨h1, h2.mono (by omega)⟩, h3⟩
 generalize fE (([117], kd, q + sumQ b (fE es)) :: es) = f' at *
 generalize p + sumQ a f' = v3 at *
 generalize p + sumQ a (fE es) = v1 at *
 generalize q + sumQ b (fE es) = v2 at *
 have i1 := risInt_Q (k := 13) v2 (by have := z2.len; omega)
 have p1 := add_Q (k := 11) v1 v2 z1 z2 (by omega)
 have p2 := mul_Q (k := 11) z v1 (L := 46 * 100 + 30 * 1000) (sk.mono (by omega)) z1 (by omega)
 generalize rs (v1 + v2) = w12 at *
 generalize rs (z * v1) = wz at *
 generalize rs v3 = w3 at *
 unfold linP at *
 refine enter rfl func12 rfl (by decide) (by kernel_rfl) rfl rfl ?_
 refine zs1 m1 ?_
 rw [wrap_i64 (x := 2 + x) (by omega) (by omega), ← hkd]
 refine zs2 g1 ?_
 refine zs2 ta ?_
 refine zs2 g2 ?_
 refine zs2 tb ?_
 refine zs2 g3 ?_
 refine zs2 g4 ?_
 refine zs2 nk ?_
 refine WX.call tab_eq rfl rfl rfl rfl rfl (viaA (e1) (by simp only [List.drop_zero, List.take_length])) rfl rfl ?_
 refine zs0 ?_
 refine WX.call tab_eq rfl rfl rfl rfl rfl (viaA (e2) (by simp only [List.drop_zero, List.take_length])) rfl rfl ?_
 refine zs1 a1 ?_
 refine zs2 a2 ?_
 refine zs2 a3 ?_
 refine WX.call tab_eq rfl rfl rfl rfl rfl (viaA (e3) (by simp only [List.drop_zero, List.take_length])) rfl rfl ?_
 refine zs0 ?_
 refine WX.call tab_eq rfl rfl rfl rfl rfl (viaA (e4) (by simp only [List.drop_zero, List.take_length])) rfl rfl ?_
 refine zs0 ?_
 refine WX.call tab_eq rfl rfl rfl rfl rfl (viaA (e5) (by simp only [List.drop_zero, List.take_length])) rfl rfl ?_
 refine zs0 ?_
 refine WX.step tab_eq rfl rfl (by simp [erow_len, hl4]) ?_
 refine zs0 ?_
 rcases hk with rfl | rfl
 ·by_cases hd : v2.den = 1
  ·rw [decide_eq_true hd] at i1
   have e6 := e6 (.inl hd)
   refine zs1 i1 ?_
   refine WX.step tab_eq rfl rfl (by simp) ?_
   refine zs0 ?_
   refine WX.call tab_eq rfl rfl rfl rfl rfl (viaA (e6) (by simp only [List.drop_zero, List.take_length]; rfl)) rfl rfl ?_
   refine zs1 p1 ?_
   refine WX.boolM rfl rfl (fun c1 => ?_) (fun c1 => ?_)
   ·refine zs1 p2 ?_
    refine WX.boolM rfl rfl (fun c2 => ?_) (fun c2 => ?_)
    ·refine zs0 ?_
     refine WX.boolM rfl rfl (fun c3 => ?_) (fun c3 => ?_)
     ·refine zs1 aw ?_
      rfl
     ·exact absurd rfl (of_decide_eq_false c3)
    ·exact absurd rfl (of_decide_eq_false c2)
   ·exact absurd rfl (of_decide_eq_false c1)
  ·rw [decide_eq_false hd] at i1
   refine zs1 i1 ?_
   refine zs2 p1 ?_
   refine WX.boolM rfl rfl (fun c1 => ?_) (fun c1 => ?_)
   ·refine zs1 p2 ?_
    refine WX.boolM rfl rfl (fun c2 => ?_) (fun c2 => ?_)
    ·refine zs1 aw ?_
     rfl
    ·exact absurd rfl (of_decide_eq_false c2)
   ·exact absurd rfl (of_decide_eq_false c1)
 ·have e6 := e6 (.inr rfl)
  refine zs0 ?_
  refine WX.step tab_eq rfl rfl (by simp) ?_
  refine zs0 ?_
  refine WX.call tab_eq rfl rfl rfl rfl rfl (viaA (e6) (by simp only [List.drop_zero, List.take_length]; rfl)) rfl rfl ?_
  refine zs1 p1 ?_
  refine WX.boolM rfl rfl (fun c1 => ?_) (fun c1 => ?_)
  ·refine zs1 p2 ?_
   refine WX.boolM rfl rfl (fun c2 => ?_) (fun c2 => ?_)
   ·refine zs0 ?_
    refine WX.boolM rfl rfl (fun c3 => ?_) (fun c3 => ?_)
    ·refine zs1 aw ?_
     rfl
    ·exact absurd rfl (of_decide_eq_false c3)
   ·exact absurd rfl (of_decide_eq_false c2)
  ·exact absurd rfl (of_decide_eq_false c1)
end Go.PE
