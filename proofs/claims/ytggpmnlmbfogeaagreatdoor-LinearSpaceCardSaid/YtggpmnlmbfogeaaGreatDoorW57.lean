/-
  A part of the proof that the law's function returns true and leaves its arguments as they were, for every input (no condition): own lemmas of the proof, in the order of their use.
-/
import Derived.Test.YtggpmnlmbfogeaaGreatDoorW56
set_option linter.all false
namespace Go.PE
open Go.RowKit Go.Proofs.Tryz
set_option maxRecDepth 100000
variable {k : Nat}
theorem addE_T {kd : Int} {us vs : List QT} {c d : Rat} (hk : kd = 2 ∨ kd = 3) (hu : okU us) (hv : okU vs) {L : Nat} (hs : ∀ u ∈ us, szQ u.2 L) (ht : ∀ u ∈ vs, szQ u.2 L) (hc : szQ c L) (hd : szQ d L) (hL : L ≤ 400000) (hn : us.length < 268435456) (hm : vs.length < 268435456) :
    T (k + 11) 36 [linP kd us c, linP kd vs d] = some (.tup [linP kd (addU us vs) (c + d), .int .i64 0], []) := by
  have h1 := linV_T (k := k + 3) hk hu hs hc hL (by omega)
  have h2 := linV_T (k := k + 3) hk hv ht hd hL (by omega)
  have h3 := addC_T (k := k + 9) 109 53 (.inl ⟨rfl, rfl⟩) kd kd us vs c d (add_Q (k := k) c d hc hd (by omega)) (fun u hu v hv => add_Q (k := k) u.2 v.2 (hs u hu) (ht v hv) (by omega)) hn hm
  refine enter rfl func36 rfl (by decide) (by kernel_rfl) rfl rfl ?_
  refine zs1 h1 ?_
  refine zs2 h2 ?_
  refine W.cond rfl (fun c1 => ?_) (fun c1 => ?_)
  · exact absurd rfl (of_decide_eq_true c1)
  · refine zs1 h3 ?_
    rfl
theorem linG_ex (c : Ch) : ∃ (us : List QT) (q : Rat), ((linG c).1 = rs q ∧ (linG c).2.2 = tx us) ∧ okU us ∧ us.length ≤ 4 ∧ (∀ u ∈ us, szQ u.2 100) ∧ szQ q 100 := by
  obtain ⟨us, q, h1, h2, _, hu⟩ := linB_ex (linG_lin 2 (.inl rfl) c)
  have l4 := linG_len c
  have l5 := linG_c c
  have l6 := (linG_ok2 c).2
  rw [h1] at l4 l6
  rw [h2] at l5
  rw [tx_len] at l4
  exact ⟨us, q, ⟨h2, h1⟩, hu, l4, fun u h => sz_of_len (by omega) (l6 (u.1, rs u.2) (List.mem_map.2 ⟨u, h, rfl⟩)).2, sz_of_len (by omega) l5⟩
theorem rs_m1 : rs (-1) = [45, 49] := by
  rw [show (-1 : Rat) = ((-1 : Int) : Rat) from rfl, rs_int]
  show qt true 1 1 = _
  unfold qt
  rw [decOne]
  rfl
theorem m1_sz : szQ (-1) 100 := ⟨by show (dec 1).length ≤ _; rw [dec1_len]; omega, by show (dec 1).length ≤ _; rw [dec1_len]; omega⟩
def LinIs (l : List Int) (kd : Int) (us : List QT) (q : Rat) (C : Ch) : Prop := ∀ k : Nat, T (k + 10) 21 [.box (0, 0) (chC (l.take 400, 0)), .int .i64 kd] = some (linP kd us q, [chC C])
theorem linQ_T (l : List Int) (kd : Int) : ∃ (us : List QT) (q : Rat) (C : Ch), okU us ∧ us.length ≤ 4 ∧ (∀ u ∈ us, szQ u.2 100) ∧ szQ q 100 ∧ LinIs l kd us q C := by
  have hc0 : okCh (l.take 400, 0) := ⟨by simp only [List.length_take]; omega, by simp only; omega⟩
  unfold LinIs
  generalize (l.take 400, 0) = C0 at *
  obtain ⟨us, q, ⟨e1, e2⟩, hu, hl, hs, hq⟩ := linG_ex C0
  refine ⟨us, q, (linG C0).2.1, hu, hl, hs, hq, fun k => ?_⟩
  have h := linear_T (k := k) C0 hc0 kd
  rw [e1, e2] at h
  exact h
theorem numQ_sz (c : Ch) : szQ (numQ c) 100 := sz_of_len (by omega) (numQ_len c)
set_option maxHeartbeats 3200000 in
theorem law6_T (l m n : List Int) (s : Int) (hl : l.length ≤ 4611686018427387000) (hm : m.length ≤ 4611686018427387000) (hn : n.length ≤ 17592186043904) (aw : T 20 18 [] = some (.bool true, [])) :
    T 21 6 [.imm 1 (zrow l), .imm 1 (zrow m), .imm 1 (zrow n), .int .i64 s] = some (.bool true, []) := by
  have b1 := modV_lt s 2 (by omega) (by omega)
  have m1 := mod_T (k := 19) s 2 (by omega) (by omega)
  obtain ⟨kd, hkd⟩ : ∃ kd, kd = 2 + modV s 2 := ⟨_, rfl⟩
  have hk : kd = 2 ∨ kd = 3 := by omega
  generalize modV s 2 = x at *
  have g1 := new_T (k := 19) l (by omega)
  have g2 := new_T (k := 19) m (by omega)
  have g3 := new_T (k := 19) n (by omega)
  have g4 := new_T (k := 19) (s :: n) (by simp only [List.length_cons]; omega)
  obtain ⟨a, p, Ca, ha, la, sa, pa, ta⟩ := linQ_T l kd
  obtain ⟨b, q, Cb, hb, lb, sb, pb, tb⟩ := linQ_T m kd
  obtain ⟨c, r, Cc, hc, lc, sc, pc, tc⟩ := linQ_T n kd
  have ta := ta 10
  have tb := tb 10
  have tc := tc 10
  have hc0 : okCh ((s :: n).take 400, 0) := ⟨by simp only [List.length_take]; omega, by simp only; omega⟩
  have nk := number_T (k := 11) ((s :: n).take 400, 0) hc0
  have sk := numQ_sz ((s :: n).take 400, 0)
  generalize numQ ((s :: n).take 400, 0) = z at *
  generalize numC ((s :: n).take 400, 0) = Ck at *
  have up : ∀ {us : List QT} {L M : Nat}, (∀ u ∈ us, szQ u.2 L) → L ≤ M → ∀ u ∈ us, szQ u.2 M := fun h hl u hu => (h u hu).mono hl
  have hab := okU_add a b ha hb
  have sab := addU_sz a b sa sb
  have lab := addU_len a b
  have e1 := addE_T (k := 9) hk ha hb sa sb pa pb (by omega) (by omega) (by omega)
  have e2 := addE_T (k := 9) hk hb ha sb sa pb pa (by omega) (by omega) (by omega)
  rw [← addU_comm ha hb, Rat.add_comm q p] at e2
  have e3 := addE_T (k := 9) hk hab hc (L := 400) (up sab (by omega)) (up sc (by omega)) ((szQ_add pa pb).mono (by omega)) (pc.mono (by omega)) (by omega) (by omega) (by omega)
  have e4 := addE_T (k := 9) hk hb hc sb sc pb pc (by omega) (by omega) (by omega)
  have lbc := addU_len b c
  have e5 := addE_T (k := 9) hk ha (okU_add b c hb hc) (L := 400) (up sa (by omega)) (up (addU_sz b c sb sc) (by omega)) (pa.mono (by omega)) ((szQ_add pb pc).mono (by omega)) (by omega) (by omega) (by omega)
  rw [← addU_assoc ha hb hc, ← Rat.add_assoc] at e5
  have e6 := scaleE_T (k := 9) hk hab (L := 400) (up sab (by omega)) ((szQ_add pa pb).mono (by omega)) (sk.mono (by omega)) (by omega) (by omega)
  have e7 := scaleE_T (k := 9) hk ha sa pa sk (by omega) (by omega)
  have e8 := scaleE_T (k := 9) hk hb sb pb sk (by omega) (by omega)
  have l7 := scU_len a z
  have l8 := scU_len b z
  have e9 := addE_T (k := 9) hk (okU_sc ha) (okU_sc hb) (L := 200) (up (scU_sz sa sk) (by omega)) (up (scU_sz sb sk) (by omega)) ((szQ_mul pa sk).mono (by omega)) ((szQ_mul pb sk).mono (by omega)) (by omega) (by omega) (by omega)
  rw [← scU_add z ha hb, ← Rat.add_mul] at e9
  have e10 := scaleE_T (k := 9) hk ha sa pa m1_sz (by omega) (by omega)
  have l10 := scU_len a (-1)
  have e11 := addE_T (k := 9) hk ha (okU_sc ha) (L := 200) (up sa (by omega)) (up (scU_sz sa m1_sz) (by omega)) (pa.mono (by omega)) ((szQ_mul pa m1_sz).mono (by omega)) (by omega) (by omega) (by omega)
  rw [addU_neg ha, show p + p * -1 = 0 by grind] at e11
  have q1 := same_T (k := 19) kd (tx (addU a b)) (rs (p + q)) (by rw [tx_len]; omega)
  have labc := addU_len (addU a b) c
  have q2 := same_T (k := 19) kd (tx (addU (addU a b) c)) (rs (p + q + r)) (by rw [tx_len]; omega)
  have lz := scU_len (addU a b) z
  have q3 := same_T (k := 19) kd (tx (scU (addU a b) z)) (rs ((p + q) * z)) (by rw [tx_len]; omega)
  rw [rs_m1] at e10
  unfold linP at *
  rw [rs_zero] at e11
  generalize rs (p + q + r) = w1 at *
  generalize rs ((p + q) * z) = w2 at *
  generalize tx (addU (addU a b) c) = w3 at *
  generalize tx (scU (addU a b) z) = w4 at *
  refine enter rfl func6 rfl (by decide) (by kernel_rfl) rfl rfl ?_
  refine zs1 m1 ?_
  rw [wrap_i64 (x := 2 + x) (by omega) (by omega), ← hkd]
  refine zs2 g1 ?_
  refine zs2 ta ?_
  refine zs2 g2 ?_
  refine zs2 tb ?_
  refine zs2 g3 ?_
  refine zs2 tc ?_
  refine WX.step tab_eq rfl rfl (by simp [zrow_len]; omega) ?_
  refine zs1 g4 ?_
  refine zs2 nk ?_
  refine zs2 e1 ?_
  refine zs2 e2 ?_
  refine zs2 e3 ?_
  refine zs2 e4 ?_
  refine zs2 e5 ?_
  refine zs2 e6 ?_
  refine zs2 e7 ?_
  refine zs2 e8 ?_
  refine zs2 e9 ?_
  refine zs2 e10 ?_
  refine zs2 e11 ?_
  refine zs2 q1 ?_
  refine zs2 q2 ?_
  refine zs2 q3 ?_
  refine zs2 aw ?_
  rfl
end Go.PE
