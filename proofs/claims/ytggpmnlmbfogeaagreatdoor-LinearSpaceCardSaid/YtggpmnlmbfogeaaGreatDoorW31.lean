/-
  A part of the proof that the law's function returns true and leaves its arguments as they were, for every input (no condition): own lemmas of the proof, in the order of their use.
-/
import Derived.Test.YtggpmnlmbfogeaaGreatDoorW30
set_option linter.all false
namespace Go.PE
open Go.RowKit Go.Proofs.Tryz
set_option maxRecDepth 100000
variable {k : Nat}
def okAll (ts : List Trm) : Prop := ∀ i, i < ts.length → okI ts i = true
theorem okAll_snoc {ts : List Trm} {x : Bs} {q : Rat} (h : okAll ts) (hx : nameB x = true) (hq : rs q ≠ [48]) (hlt : ∀ t ∈ ts, Op.bytesLess t.1 x = true) : okAll (ts ++ [(x, rs q)]) := by
  intro i hi
  rw [List.length_append, List.length_singleton] at hi
  by_cases he : i = ts.length
  · subst he
    unfold okI
    have e1 : (ts ++ [(x, rs q)]).getD ts.length ([], []) = (x, rs q) := by simp [List.getD]
    rw [e1]
    simp only [hx, rd_rs, Option.isSome_some, Bool.true_and]
    rw [decide_eq_true hq, Bool.true_and]
    by_cases h0 : ts.length = 0
    · rw [decide_eq_true h0]; rfl
    · have hl : ts.length - 1 < ts.length := by omega
      have e2 : (ts ++ [(x, rs q)]).getD (ts.length - 1) ([], []) = ts[ts.length - 1] := by
        simp [List.getD, List.getElem?_append_left hl, List.getElem?_eq_getElem hl]
      rw [e2, hlt _ (List.getElem_mem hl), Bool.or_true]
  · have hl : i < ts.length := by omega
    have h3 := h i hl
    unfold okI at h3 ⊢
    have e1 : (ts ++ [(x, rs q)]).getD i ([], []) = ts.getD i ([], []) := by simp [List.getD, List.getElem?_append_left hl]
    have e2 : (ts ++ [(x, rs q)]).getD (i - 1) ([], []) = ts.getD (i - 1) ([], []) := by
      have : i - 1 < ts.length := by omega
      simp [List.getD, List.getElem?_append_left this]
    rw [e1, e2]; exact h3
def linI (pre : List Bs) (ts : List Trm) : Prop := okAll ts ∧ ∀ t ∈ ts, t.1 ∈ pre ∧ t.2.length ≤ 100
theorem linS_in {st : Ch × List Trm} {x : Bs} {pre : List Bs} (h : linI pre st.2) (hx : nameB x = true) (hlt : ∀ a ∈ pre, Op.bytesLess a x = true) : linI (pre ++ [x]) (linS st x).2 := by
  obtain ⟨h1, h2⟩ := h
  unfold linS
  simp only
  split
  · rename_i hc
    refine ⟨okAll_snoc h1 hx hc.2 fun t ht => hlt _ (h2 t ht).1, fun t ht => ?_⟩
    rcases List.mem_append.1 ht with ht | ht
    · exact ⟨by simp [(h2 t ht).1], (h2 t ht).2⟩
    · obtain rfl := List.mem_singleton.1 ht
      exact ⟨by simp, numQ_len _⟩
  · exact ⟨h1, fun t ht => ⟨by simp [(h2 t ht).1], (h2 t ht).2⟩⟩
theorem linG_ok2 (c : Ch) : linI vars (linG c).2.2 := by
  have h0 : linI [] (numC c, ([] : List Trm)).2 := ⟨fun i hi => by simp at hi, fun t ht => by cases ht⟩
  have h1 := linS_in (x := [117]) h0 (by decide) (by decide)
  have h2 := linS_in (x := [118]) h1 (by decide) (by decide)
  have h3 := linS_in (x := [120]) h2 (by decide) (by decide)
  exact linS_in (x := [121]) h3 (by decide) (by decide)
theorem linG_lin (kd : Int) (hkd : kd = 2 ∨ kd = 3) (c : Ch) : linB kd (linG c).2.2 (linG c).1 = true := by
  have h := (linG_ok2 c).1
  unfold linB
  rw [show (linG c).1 = rs (numQ c) from rfl, rd_rs]
  simp only [Option.isSome_some, Bool.true_and, Bool.and_eq_true, Bool.or_eq_true, decide_eq_true_eq, List.all_eq_true, List.mem_range]
  exact ⟨hkd, h⟩
theorem conG_good (c : Ch) : smallC (conG c).1 ∧ conB (conG c).1.rel (conG c).1.kind (conG c).1.ts (conG c).1.c (conG c).1.m = true := by
  have b1 := nx_lt c (n := 5) (by omega) (by omega)
  have b2 := nx_lt (nxC c) (n := 2) (by omega) (by omega)
  have b4 := nx_lt (linG (nxC (nxC c))).2.1 (n := 12) (by omega) (by omega)
  have hv : ∀ a ∈ vars, a.length ≤ 1000 := by decide
  have hl := linG_len (nxC (nxC c))
  have hc := linG_c (nxC (nxC c))
  obtain ⟨h1, h2⟩ := linG_ok2 (nxC (nxC c))
  have h3 := fun kd hkd => linG_lin kd hkd (nxC (nxC c))
  unfold conG
  simp only
  generalize linG (nxC (nxC c)) = l at *
  generalize nxV c 5 = v1 at *
  generalize nxV (nxC c) 2 = v2 at *
  generalize nxV l.2.1 12 = v4 at *
  by_cases hr : 4 ≤ 1 + v1
  · rw [if_pos hr]
    refine ⟨⟨by show l.2.2.length ≤ 8; omega, fun t ht => ⟨hv _ (h2 t ht).1, by have := (h2 t ht).2; omega⟩, by show l.1.length ≤ 1000; omega, ?_⟩, ?_⟩
    · show (rs ((1 + v4 : Int) : Rat)).length ≤ 1000
      have e : (1 + v4 : Int) = (((1 + v4).toNat : Nat) : Int) := by omega
      rw [e, rs_nat]
      have := dec_len_mono (show (1 + v4).toNat ≤ 12 by omega)
      have h12 : (dec 12).length = 2 := by rw [← decN_eq]; rfl
      omega
    · unfold conB
      simp only
      rw [if_neg (by omega), if_pos (by omega), h3 2 (.inl rfl)]
      unfold isIq sgq
      rw [rd_rs]
      have hs : 0 < sgn ((1 + v4 : Int) : Rat) := by
        rcases sgn_cases ((1 + v4 : Int) : Rat) with ⟨a, _⟩ | ⟨a, _⟩ | ⟨_, a⟩
        · have a : 1 + v4 < 0 := a
          omega
        · have a : (1 + v4 : Int) = 0 := by exact_mod_cast a
          omega
        · rw [a]; decide
      simp only [Bool.true_and, decide_true]
      rw [decide_eq_true hs]
      rfl
  · rw [if_neg hr]
    refine ⟨⟨by show l.2.2.length ≤ 8; omega, fun t ht => ⟨hv _ (h2 t ht).1, by have := (h2 t ht).2; omega⟩, by show l.1.length ≤ 1000; omega, by simp⟩, ?_⟩
    unfold conB
    simp only
    rw [if_pos (by omega), h3 (2 + v2) (by omega)]
    rfl
end Go.PE
namespace Go.PE
open Go.RowKit Go.Proofs.Tryz
set_option maxRecDepth 100000
variable {k : Nat}
set_option maxHeartbeats 3200000 in
theorem law4_T (b : Con) (l : List Int) (hl : l.length ≤ 4611686018427387904) (aw : T 20 18 [] = some (.bool true, []))
    (hD : ∀ (rel : Int) (us : List QT) (c : Rat) (M : Nat), (rel = 4 ∨ rel = 5) → goodU us → szQ c 1000 → M ≠ 0 → (dec M).length ≤ 1000 → T 19 85 [conQ rel 2 us c (rs ((M : Int) : Rat))] = some (divV rel us c M, [])) :
    T 21 4 [.imm 1 (zrow l), .agg (conP b)] = some (.bool true, []) := by
  have s2 := small_T (k := 19) b.kind b.ts b.c
  have hB := @smB_spec b.ts b.c
  have hB2 : smB b.ts b.c = true → ∀ t ∈ b.ts, t.1.length ≤ 60 ∧ t.2.length ≤ 40 := by
    intro h
    unfold smB at h
    simp only [Bool.and_eq_true, decide_eq_true_eq, List.all_eq_true, List.mem_range] at h
    intro t ht
    obtain ⟨i, hi, rfl⟩ := List.mem_iff_getElem.1 ht
    have := h.2.2 i hi
    unfold smT at this
    simpa only [List.getD, List.getElem?_eq_getElem hi, Option.getD_some, Bool.and_eq_true, decide_eq_true_eq] using this
  generalize smB b.ts b.c = B at *
  refine enter rfl func4 rfl (by decide) (by kernel_rfl) rfl rfl ?_
  refine zs1 s2 ?_
  cases B
  · refine zs1 aw ?_
    rfl
  · refine zs0 ?_
    refine W.cond rfl (fun c1 => ?_) (fun c1 => ?_)
    · refine zs1 aw ?_
      rfl
    · have c1 := of_decide_eq_false c1
      refine zs0 ?_
      obtain ⟨e1, e2, e3⟩ := hB rfl
      have hc0 : okCh (l.take 400, 0) := ⟨by simp only [List.length_take]; omega, by simp only; omega⟩
      have g1 := new_T (k := 19) l hl
      have g2 := conG_T (k := 9) (l.take 400, 0) hc0
      obtain ⟨sg, vg⟩ := conG_good (l.take 400, 0)
      obtain ⟨v1, x1, n1, n2, ⟨r1, kd1, ts1, cc1, mm1, rfl, hl1⟩, hz⟩ := normal_both (k := 6) (conG (l.take 400, 0)).1 sg hD
      obtain rfl := hz vg
      obtain ⟨v2, x2, n3, n4, ⟨r2, kd2, ts2, cc2, mm2, rfl, hl2⟩, _⟩ := normal_both (k := 6) b ⟨e1, fun t ht => ⟨by have := (hB2 rfl t ht).1; omega, by have := (hB2 rfl t ht).2; omega⟩, by omega, by omega⟩ hD
      have q1 := sameCon_T (k := 18) r1 kd1 ts1 cc1 mm1 (by omega)
      have q2 := sameCon_T (k := 18) r2 kd2 ts2 cc2 mm2 (by omega)
      generalize conG (l.take 400, 0) = G at *
      refine zs2 g1 ?_
      refine zs2 g2 ?_
      refine zs2 n1 ?_
      refine zs2 n2 ?_
      refine zs2 n3 ?_
      refine zs2 n4 ?_
      refine zs2 q1 ?_
      refine WX.boolM rfl rfl (fun b1 => ?_) (fun b1 => ?_)
      · refine zs1 q2 ?_
        refine zs2 aw ?_
        rfl
      · exact absurd rfl (of_decide_eq_false b1)
end Go.PE
