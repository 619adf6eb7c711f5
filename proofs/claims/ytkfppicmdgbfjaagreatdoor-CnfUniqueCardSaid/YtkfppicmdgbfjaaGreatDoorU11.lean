/-
  A part of the proof that the law's function returns true and leaves its arguments as they were, for every input (no condition): own lemmas of the proof, in the order of their use.
-/
import Derived.Test.YtkfppicmdgbfjaaGreatDoorU10
set_option linter.all false
namespace Go.PE
open Go.RowKit
/-- Every order's edges lead back. -/
def edgesOk (ops : Array Oper) : Bool := (ops.toList.zipIdx).all fun (o, i) => o.after.all fun e => !(Region.binds .any e) || decide (e.on < i)
theorem edgesOk_spec {ops : Array Oper} (h : edgesOk ops = true) {j : Nat} {o : Oper} (hj : ops[j]? = some o) {e : Edge} (he : e ∈ o.after) (hb : Region.binds .any e = true) : e.on < j := by
  unfold edgesOk at h
  rw [List.all_eq_true] at h
  have := h (o, j) (by rw [List.mem_zipIdx_iff_getElem?]; simpa using hj)
  simp only [Array.all_eq_true_iff_forall_mem] at this
  have := this e he
  rw [hb] at this
  simpa using this
def bval (acc : Array Nat) (o : Oper) : Nat := o.after.foldl (fun s e => if Region.binds .any e then s ||| 2 ^ e.on ||| acc.getD e.on 0 else s) 0
theorem before_eq (ops : Array Oper) : Region.before ops = ops.toList.foldl (fun acc o => acc.push (bval acc o)) #[] := by
  rw [Array.foldl_toList]
  rfl
theorem bfold_prefix : ∀ (l : List Oper) (acc : Array Nat), (l.foldl (fun acc o => acc.push (bval acc o)) acc).size = acc.size + l.length ∧
    ∀ j, j < acc.size → (l.foldl (fun acc o => acc.push (bval acc o)) acc)[j]? = acc[j]?
  | [], acc => ⟨by simp, fun _ _ => rfl⟩
  | o :: l, acc => by
    obtain ⟨h1, h2⟩ := bfold_prefix l (acc.push (bval acc o))
    refine ⟨by rw [List.foldl_cons, h1]; simp; omega, fun j hj => ?_⟩
    rw [List.foldl_cons, h2 j (by simp; omega), Array.getElem?_push_lt hj]
    simp [hj]
theorem testBit_fold (acc : Array Nat) (i : Nat) : ∀ (es : List Edge) (s : Nat), (es.foldl (fun s e => if Region.binds .any e then s ||| 2 ^ e.on ||| acc.getD e.on 0 else s) s).testBit i = true →
    s.testBit i = true ∨ ∃ e ∈ es, Region.binds .any e = true ∧ (i = e.on ∨ (acc.getD e.on 0).testBit i = true)
  | [], s, h => .inl h
  | e :: es, s, h => by
    rw [List.foldl_cons] at h
    rcases testBit_fold acc i es _ h with h | ⟨e', h1, h2⟩
    · split at h
      · rename_i hb
        rw [Nat.testBit_or, Nat.testBit_or, Nat.testBit_two_pow, Bool.or_eq_true, Bool.or_eq_true] at h
        rcases h with (h | h) | h
        · exact .inl h
        · exact .inr ⟨e, by simp, hb, .inl (by simpa using (of_decide_eq_true h).symm)⟩
        · exact .inr ⟨e, by simp, hb, .inr h⟩
      · exact .inl h
    · exact .inr ⟨e', List.mem_cons_of_mem _ h1, h2⟩
theorem before_bit {ops : Array Oper} (hok : edgesOk ops = true) {j i : Nat} (h : ((Region.before ops).getD j 0).testBit i = true) :
    ∃ o, ops[j]? = some o ∧ ∃ e ∈ o.after, Region.binds .any e = true ∧ (i = e.on ∨ ((Region.before ops).getD e.on 0).testBit i = true) := by
  have hsz : (Region.before ops).size = ops.size := by rw [before_eq, (bfold_prefix ops.toList #[]).1]; simp
  by_cases hj : j < ops.size
  · have hl : j < ops.toList.length := by simpa using hj
    refine ⟨ops[j], by simp, ?_⟩
    have hsplit : ops.toList = ops.toList.take j ++ ops.toList[j] :: ops.toList.drop (j + 1) := by
      rw [← List.drop_eq_getElem_cons hl, List.take_append_drop]
    generalize hacc : (ops.toList.take j).foldl (fun acc o => acc.push (bval acc o)) #[] = acc
    have hasz : acc.size = j := by
      rw [← hacc, (bfold_prefix _ _).1]
      simp; omega
    have hfin : Region.before ops = (ops.toList.drop (j + 1)).foldl (fun acc o => acc.push (bval acc o)) (acc.push (bval acc ops.toList[j])) := by
      rw [before_eq]
      conv => lhs; rw [hsplit]
      rw [List.foldl_append, hacc, List.foldl_cons]
    have hpre := (bfold_prefix (ops.toList.drop (j + 1)) (acc.push (bval acc ops.toList[j]))).2
    have hval : (Region.before ops)[j]? = some (bval acc ops.toList[j]) := by
      rw [hfin, hpre j (by simp [hasz])]
      have := Array.getElem?_push_size (xs := acc) (x := bval acc ops.toList[j])
      rwa [hasz] at this
    have hlow : ∀ k, k < j → (Region.before ops).getD k 0 = acc.getD k 0 := by
      intro k hk
      rw [Array.getD_eq_getD_getElem?, Array.getD_eq_getD_getElem?, hfin, hpre k (by simp [hasz]; omega), Array.getElem?_push_lt (by omega)]
      simp [show k < acc.size by omega]
    rw [Array.getD_eq_getD_getElem?, hval, Option.getD_some] at h
    unfold bval at h
    rw [← Array.foldl_toList] at h
    rcases testBit_fold acc i _ 0 h with h | ⟨e, h1, h2, h3⟩
    · simp at h
    · have he : e ∈ (ops[j]).after := by simpa using h1
      refine ⟨e, he, h2, h3.imp id fun h3 => ?_⟩
      rw [hlow e.on (edgesOk_spec hok (j := j) (o := ops[j]) (by simp) he h2)]
      exact h3
  · rw [Array.getD_eq_getD_getElem?, Array.getElem?_eq_none (by omega)] at h
    simp at h
section
variable {P : Program} {C : Ctx} {a : Act} {w : World} {S S' : Stamp → Prop}
variable {Φ : FuncId → List PV → Option (PV × List (List PV))} {keep : List Nat}
/-- A run in the text's order: the slots before each operation, and what it does to them. -/
structure Trace (P : Program) (Φ : FuncId → List PV → Option (PV × List (List PV))) (keep : List Nat) (ops : Array Oper) (rid : Nat) (n : Nat) (E : Nat → Env) (U : Nat → Ups) (F : Nat → List Nat) : Prop where
  step : ∀ i, i < n → ∃ o, ops[i]? = some o ∧ stepO P Φ keep ops rid i o (E i) = some (U i) ∧ F i = foot ops o (E i)
  next : ∀ i, i < n → E (i + 1) = apply (U i) (E i)
theorem runLog_trace {ops : Array Oper} {rid : Nat} : ∀ (l : List Oper) (i : Nat) (e eN : List (Nat × PV)) (lg : List (List Nat × List Nat)), ops.toList.drop i = l → runLog P Φ keep ops rid i l e = some (eN, lg) →
    lg.length = l.length ∧ ∃ (E : Nat → Env) (U : Nat → Ups), E i = lookup e ∧ E (i + l.length) = lookup eN ∧
      (∀ k, i ≤ k → k < i + l.length → ∃ o, ops[k]? = some o ∧ stepO P Φ keep ops rid k o (E k) = some (U k) ∧ lg[k - i]? = some (foot ops o (E k), (U k).map (·.1)) ∧ E (k + 1) = apply (U k) (E k))
  | [], i, e, eN, lg, hl, h => by
    simp only [runLog, Option.some.injEq, Prod.mk.injEq] at h
    obtain ⟨rfl, rfl⟩ := h
    exact ⟨rfl, fun _ => lookup e, fun _ => [], rfl, rfl, fun k h1 h2 => by simp at h2; omega⟩
  | o :: l, i, e, eN, lg, hl, h => by
    simp only [runLog] at h
    split at h
    · rename_i u hu
      split at h
      · rename_i e' lg' hrest
        simp only [Option.some.injEq, Prod.mk.injEq] at h
        obtain ⟨rfl, rfl⟩ := h
        have hdrop : ops.toList.drop (i + 1) = l := by rw [← List.drop_drop, hl]; rfl
        obtain ⟨h0, E, U, h1, h2, h3⟩ := runLog_trace l (i + 1) (applyL u e) e' lg' hdrop hrest
        have ho : ops[i]? = some o := by
          have : (ops.toList.drop i)[0]? = some o := by rw [hl]; rfl
          simpa using this
        refine ⟨by simp [h0], fun k => if k = i then lookup e else E k, fun k => if k = i then u else U k, by simp, ?_, fun k hk1 hk2 => ?_⟩
        · show (if i + (o :: l).length = i then lookup e else E (i + (o :: l).length)) = lookup e'
          rw [if_neg (by simp), ← h2]
          congr 1
          simp only [List.length_cons]; omega
        · by_cases hki : k = i
          · subst hki
            refine ⟨o, ho, by simpa using hu, by simp, ?_⟩
            simp only [if_true]
            rw [if_neg (by omega), h1, lookup_applyL]
          · simp only [if_neg hki]
            obtain ⟨o', j1, j2, j3, j4⟩ := h3 k (by omega) (by simp only [List.length_cons] at hk2; omega)
            refine ⟨o', j1, j2, ?_, ?_⟩
            · rw [show k - i = (k - (i + 1)) + 1 by omega, List.getElem?_cons_succ]
              exact j3
            · rw [if_neg (by omega)]
              exact j4
      · cases h
    · cases h
theorem apply_eq_at {u : Ups} {f g : Env} {s : Nat} (h : f s = g s) : apply u f s = apply u g s := by
  induction u generalizing f g with
  | nil => exact h
  | cons q u ih =>
    rw [apply_cons, apply_cons]
    refine ih ?_
    by_cases hs : s = q.1
    · rw [hs, upd_same, upd_same]
    · rw [upd_other hs, upd_other hs]; exact h
theorem apply_comm {u v : Ups} (h : ∀ q ∈ u, ∀ q' ∈ v, q.1 ≠ q'.1) (f : Env) : apply u (apply v f) = apply v (apply u f) := by
  funext s
  by_cases hs : ∃ q ∈ u, q.1 = s
  · obtain ⟨q, hq, rfl⟩ := hs
    have hv : ∀ g : Env, apply v g q.1 = g q.1 := fun g => apply_other v g q.1 fun q' hq' he => h q hq q' hq' he.symm
    rw [hv]
    exact apply_eq_at (hv f)
  · have hu : ∀ g : Env, apply u g s = g s := fun g => apply_other u g s fun q hq he => hs ⟨q, hq, he⟩
    rw [hu]
    exact apply_eq_at (hu f).symm
/-- The slots when some of the operations are done. -/
def mix (E0 : Env) (U : Nat → Ups) (L : Nat → Bool) : Nat → Env
  | 0 => E0
  | k + 1 => if L k then apply (U k) (mix E0 U L k) else mix E0 U L k
section mixing
variable {n : Nat} {E : Nat → Env} {U : Nat → Ups} {F : Nat → List Nat} {bef : Nat → Nat → Bool} {L : Nat → Bool}
/-- Operations that may come up in either order do not meet. -/
structure Apart (n : Nat) (U : Nat → Ups) (F : Nat → List Nat) (bef : Nat → Nat → Bool) : Prop where
  wr : ∀ i j, i < j → j < n → bef j i = false → ∀ q ∈ U i, q.1 ∉ F j
  ww : ∀ i j, i < j → j < n → bef j i = false → ∀ q ∈ U i, ∀ q' ∈ U j, q.1 ≠ q'.1
  rw : ∀ i j, i < j → j < n → bef j i = false → ∀ q ∈ U j, q.1 ∉ F i
theorem mix_foot (hE : ∀ i, i < n → E (i + 1) = apply (U i) (E i)) (hA : Apart n U F bef) (hcl : ∀ j, L j = true → ∀ i, bef j i = true → L i = true) {i : Nat} (hi : i < n) (hL : L i = false)
    (hdep : ∀ j, bef i j = true → L j = true) {s : Nat} (hs : s ∈ F i) : mix (E 0) U L n s = E i s := by
  have h1 : ∀ k, k ≤ i → mix (E 0) U L k s = E k s := by
    intro k
    induction k with
    | zero => intro _; rfl
    | succ k ih =>
      intro hk
      rw [mix, hE k (by omega)]
      cases hLk : L k with
      | true =>
        simp only [if_true]
        exact apply_eq_at (ih (by omega))
      | false =>
        simp only [Bool.false_eq_true, if_false]
        rw [ih (by omega), apply_other (U k) (E k) s fun q hq hqs => ?_]
        cases hb : bef i k with
        | true => rw [hdep k hb] at hLk; cases hLk
        | false => exact hA.wr k i (by omega) hi hb q hq (hqs ▸ hs)
  have h2 : ∀ m, i + m ≤ n → mix (E 0) U L (i + m) s = E i s := by
    intro m
    induction m with
    | zero => intro _; exact h1 i (Nat.le_refl _)
    | succ m ih =>
      intro hm
      rw [← Nat.add_assoc, mix]
      cases hLk : L (i + m) with
      | false => simp only [Bool.false_eq_true, if_false]; exact ih (by omega)
      | true =>
        simp only [if_true]
        have hne : m ≠ 0 := fun h => by subst h; rw [Nat.add_zero, hL] at hLk; cases hLk
        rw [apply_other (U (i + m)) _ s fun q hq hqs => ?_]
        · exact ih (by omega)
        · cases hb : bef (i + m) i with
          | true => rw [hcl _ hLk _ hb] at hL; cases hL
          | false => exact hA.rw i (i + m) (by omega) (by omega) hb q hq (hqs ▸ hs)
  have := h2 (n - i) (by omega)
  rwa [show i + (n - i) = n by omega] at this
theorem mix_add (hA : Apart n U F bef) (hcl : ∀ j, L j = true → ∀ i, bef j i = true → L i = true) {i : Nat} (hi : i < n) (hL : L i = false) (E0 : Env) :
    mix E0 U (fun j => L j || j == i) n = apply (U i) (mix E0 U L n) := by
  have h1 : ∀ k, k ≤ i → mix E0 U (fun j => L j || j == i) k = mix E0 U L k := by
    intro k
    induction k with
    | zero => intro _; rfl
    | succ k ih =>
      intro hk
      rw [mix, mix, ih (by omega)]
      have : (k == i) = false := by simp; omega
      simp only [this, Bool.or_false]
  have h2 : ∀ m, i + 1 + m ≤ n → mix E0 U (fun j => L j || j == i) (i + 1 + m) = apply (U i) (mix E0 U L (i + 1 + m)) := by
    intro m
    induction m with
    | zero =>
      intro _
      rw [Nat.add_zero, mix, mix, h1 i (Nat.le_refl _)]
      simp [hL]
    | succ m ih =>
      intro hm
      rw [← Nat.add_assoc, mix, mix, ih (by omega)]
      have : (i + 1 + m == i) = false := by simp; omega
      simp only [this, Bool.or_false]
      cases hLk : L (i + 1 + m) with
      | false => simp
      | true =>
        simp only [if_true]
        refine apply_comm (fun q hq q' hq' he => ?_) _
        cases hb : bef (i + 1 + m) i with
        | true => rw [hcl _ hLk _ hb] at hL; cases hL
        | false => exact hA.ww i (i + 1 + m) (by omega) (by omega) hb q' hq' q hq he.symm
  have := h2 (n - (i + 1)) (by omega)
  rwa [show i + 1 + (n - (i + 1)) = n by omega] at this
theorem mix_full (hE : ∀ i, i < n → E (i + 1) = apply (U i) (E i)) (hL : ∀ i, i < n → L i = true) : mix (E 0) U L n = E n := by
  have : ∀ k, k ≤ n → mix (E 0) U L k = E k := by
    intro k
    induction k with
    | zero => intro _; rfl
    | succ k ih =>
      intro hk
      rw [mix, hL k (by omega), if_pos rfl, ih (by omega), hE k (by omega)]
  exact this n (Nat.le_refl _)
theorem mix_none (E0 : Env) (hL : ∀ i, L i = false) : ∀ k, mix E0 U L k = E0
  | 0 => rfl
  | k + 1 => by rw [mix, hL k, if_neg (by simp)]; exact mix_none E0 hL k
end mixing
theorem apartB_spec {ops : Array Oper} {lg : List (List Nat × List Nat)} (h : apartB ops lg = true) {n : Nat} {U : Nat → Ups} {F : Nat → List Nat} (hlg : ∀ i, i < n → lg[i]? = some (F i, (U i).map (·.1))) :
    Apart n U F (fun j i => ((Region.before ops).getD j 0).testBit i) := by
  have key : ∀ i j, i < j → j < n → ((Region.before ops).getD j 0).testBit i = false →
      disj ((U i).map (·.1)) (F j) = true ∧ disj ((U i).map (·.1)) ((U j).map (·.1)) = true ∧ disj ((U j).map (·.1)) (F i) = true := by
    intro i j hij hj hb
    unfold apartB at h
    simp only [List.all_eq_true] at h
    have h1 := h ((F j, (U j).map (·.1)), j) (by rw [List.mem_zipIdx_iff_getElem?]; exact hlg j hj) ((F i, (U i).map (·.1)), i) (by rw [List.mem_zipIdx_iff_getElem?]; exact hlg i (by omega))
    simp only [hij, decide_true, Bool.not_true, hb, Bool.false_or, Bool.and_eq_true] at h1
    exact ⟨h1.1.1, h1.1.2, h1.2⟩
  have dspec : ∀ {a b : List Nat}, disj a b = true → ∀ x ∈ a, x ∉ b := by
    intro a b hab x hx
    unfold disj at hab
    rw [List.all_eq_true] at hab
    simpa using hab x hx
  exact ⟨fun i j h1 h2 h3 q hq => dspec (key i j h1 h2 h3).1 q.1 (List.mem_map.2 ⟨q, hq, rfl⟩),
    fun i j h1 h2 h3 q hq q' hq' he => dspec (key i j h1 h2 h3).2.1 q.1 (List.mem_map.2 ⟨q, hq, rfl⟩) (he ▸ List.mem_map.2 ⟨q', hq', rfl⟩),
    fun i j h1 h2 h3 q hq => dspec (key i j h1 h2 h3).2.2 q.1 (List.mem_map.2 ⟨q, hq, rfl⟩)⟩
theorem Sat.drawn {e : Env} (H : Sat C S e a w) (n : Nat) : Sat C S e a { w with drawn := n } := by
  obtain ⟨⟨Fz, ob, I⟩, h2, hlt, h3, h4⟩ := H
  refine ⟨⟨Fz, ob, ?_⟩, h2, hlt, h3, h4⟩
  exact I.step (fun _ => False) (fun _ h => h) rfl rfl rfl (Nat.le_refl _) (fun _ _ _ => rfl) (fun s _ => ⟨rfl, rfl, rfl⟩) (fun _ h => h) (fun _ h => .inl h)
    (fun _ h => h.elim) (fun _ h => h.elim) (fun _ _ h => h.elim) (fun _ h => h.elim) (fun _ h => h.elim) (fun _ _ h => h.elim)
theorem wpAny_draw {lr : Option Nat} {m0 : Nat} {ops : Array Oper} {rid : Nat} (hM : ∀ g, Meets P g (Φ g)) (hd : ∀ o ∈ ops.toList, ∀ d, o.dst = some d → d < C.nt ∧ ¬ C.K d) (hok : edgesOk ops = true) {Q : Exit → Act → World → Prop}
    {E : Nat → Env} {U : Nat → Ups} {F : Nat → List Nat} (hT : Trace P Φ keep ops (rid + 1) ops.size E U F) (hA : Apart ops.size U F (fun j i => ((Region.before ops).getD j 0).testBit i))
    (hQ : ∀ a w, Sat C (fun s => s.1 ≤ rid + 1) (E ops.size) a w → Q .normal a w) :
    ∀ (fuel : Nat) (listed : Array Bool) (a : Act) (w : World), listed.size = ops.size → ((List.range ops.size).filter fun j => !listed.getD j false).length ≤ fuel →
      (∀ j, listed.getD j false = true → ∀ i, ((Region.before ops).getD j 0).testBit i = true → listed.getD i false = true) →
      Sat C (seen rid fun j => listed.getD j false = true) (mix (E 0) U (fun j => listed.getD j false) ops.size) a w → wpAnyIn (FW lr) m0 P .any ops Q fuel listed a w := by
  have allDone : ∀ (listed : Array Bool) (a : Act) (w : World), (∀ i, i < ops.size → listed.getD i false = true) →
      Sat C (seen rid fun j => listed.getD j false = true) (mix (E 0) U (fun j => listed.getD j false) ops.size) a w → Q .normal a w := by
    intro listed a w hall H
    rw [mix_full hT.next hall] at H
    obtain ⟨⟨Fz, ob, I⟩, h2, hlt, h3, h4⟩ := H
    exact hQ a w ⟨⟨Fz, ob, I.weaken fun s hs => by rcases hs with hs | hs <;> omega⟩, h2, hlt, h3, h4⟩
  have hget : ∀ (listed : Array Bool) (i : Nat), listed.size = ops.size → i < ops.size → listed.getD i true = listed.getD i false := by
    intro listed i h1 h2
    simp [Array.getD_eq_getD_getElem?, show i < listed.size by omega]
  have hready : ∀ (listed : Array Bool), listed.size = ops.size → ∀ i, i ∈ Region.ready .any ops listed ↔ i < ops.size ∧ listed.getD i false = false ∧ ∀ o, ops[i]? = some o → ∀ e ∈ o.after, Region.binds .any e = true → listed.getD e.on false = true := by
    intro listed hsz i
    unfold Region.ready
    rw [List.mem_filter, List.mem_range]
    constructor
    · rintro ⟨hi, h⟩
      rw [hget listed i hsz hi] at h
      simp only [Bool.and_eq_true, Bool.not_eq_true', Array.getElem?_eq_getElem hi, Option.map_some, Option.getD_some, Array.all_eq_true_iff_forall_mem, Bool.or_eq_true] at h
      refine ⟨hi, h.1, fun o ho e he hb => ?_⟩
      rw [Array.getElem?_eq_getElem hi, Option.some.injEq] at ho
      subst ho
      have := h.2 e he
      rw [hb] at this
      simpa using this
    · rintro ⟨hi, h1, h2⟩
      refine ⟨hi, ?_⟩
      rw [hget listed i hsz hi]
      simp only [Bool.and_eq_true, Bool.not_eq_true', Array.getElem?_eq_getElem hi, Option.map_some, Option.getD_some, Array.all_eq_true_iff_forall_mem, Bool.or_eq_true]
      refine ⟨h1, fun e he => ?_⟩
      cases hb : Region.binds .any e with
      | false => exact .inl rfl
      | true => exact .inr (h2 _ (Array.getElem?_eq_getElem hi) e he hb)
  have stuck : ∀ (listed : Array Bool), listed.size = ops.size → Region.ready .any ops listed = [] → ∀ i, i < ops.size → listed.getD i false = true := by
    intro listed hsz hr i
    induction i using Nat.strongRecOn with
    | _ i ih =>
      intro hi
      cases hL : listed.getD i false with
      | true => rfl
      | false =>
        have : i ∈ Region.ready .any ops listed := (hready listed hsz i).2 ⟨hi, hL, fun o ho e he hb => by
          have := edgesOk_spec hok ho he hb
          exact ih e.on this (by omega)⟩
        rw [hr] at this
        cases this
  intro fuel
  induction fuel with
  | zero =>
    intro listed a w hsz hlen hcl H
    have hall : ∀ i, i < ops.size → listed.getD i false = true := by
      intro i hi
      cases hL : listed.getD i false with
      | true => rfl
      | false =>
        have hmem : i ∈ (List.range ops.size).filter fun j => !listed.getD j false := List.mem_filter.2 ⟨List.mem_range.2 hi, by simp [hL]⟩
        have := List.length_pos_of_mem hmem
        omega
    refine ⟨?_, allDone listed a w hall H⟩
    cases hr : Region.ready .any ops listed with
    | nil => rfl
    | cons i l =>
      have := (hready listed hsz i).1 (by rw [hr]; simp)
      rw [hall i this.1] at this
      cases this.2.1
  | succ fuel ih =>
    intro listed a w hsz hlen hcl H
    refine ⟨fun hr => allDone listed a w (stuck listed hsz hr) H, fun i hi => ?_⟩
    obtain ⟨hi1, hi2, hi3⟩ := (hready listed hsz i).1 hi
    obtain ⟨o, ho, hstep, hF⟩ := hT.step i hi1
    have hdep : ∀ j, ((Region.before ops).getD i 0).testBit j = true → listed.getD j false = true := by
      intro j hj
      obtain ⟨o', ho', e, he, hb, h⟩ := before_bit hok hj
      have h1 := hi3 o' ho' e he hb
      rcases h with rfl | h
      · exact h1
      · exact hcl _ h1 _ h
    have hfoot : ∀ s ∈ foot ops o (E i), mix (E 0) U (fun j => listed.getD j false) ops.size s = E i s := fun s hs =>
      mix_foot (bef := fun j i => ((Region.before ops).getD j 0).testBit i) hT.next hA hcl hi1 hi2 hdep (by rw [hF]; exact hs)
    have hstep' : stepO P Φ keep ops (rid + 1) i o (mix (E 0) U (fun j => listed.getD j false) ops.size) = some (U i) := by
      rw [stepO_congr hfoot]; exact hstep
    have hget2 : ∀ j, (listed.setIfInBounds i true).getD j false = (listed.getD j false || j == i) := by
      intro j
      simp only [Array.getD_eq_getD_getElem?, Array.getElem?_setIfInBounds]
      by_cases hj : i = j
      · subst hj; simp [show i < listed.size by omega]
      · have : (j == i) = false := by simp; omega
        simp [hj, this]
    refine wpOp_step ho hM H (by simp [seen, hi2]) (fun d hd' => hd o (Array.mem_toList_iff.2 (Array.mem_of_getElem? ho)) d hd') hstep' fun a' w' H' => ?_
    refine ih (listed.setIfInBounds i true) a' w' (by simp [hsz]) ?_ ?_ ?_
    · have hlt : ((List.range ops.size).filter fun j => !(listed.setIfInBounds i true).getD j false).length < ((List.range ops.size).filter fun j => !listed.getD j false).length := by
        have he : ((List.range ops.size).filter fun j => !(listed.setIfInBounds i true).getD j false) = ((List.range ops.size).filter fun j => !listed.getD j false).filter fun j => !(j == i) := by
          rw [List.filter_filter]
          refine List.filter_congr fun j _ => ?_
          rw [hget2]
          cases listed.getD j false <;> cases (j == i) <;> rfl
        rw [he, List.length_filter_lt_length_iff_exists]
        exact ⟨i, List.mem_filter.2 ⟨List.mem_range.2 hi1, by simp [hi2]⟩, by simp⟩
      omega
    · intro j hj k hk
      rw [hget2] at hj ⊢
      rw [Bool.or_eq_true] at hj ⊢
      rcases hj with hj | hj
      · exact .inl (hcl j hj k hk)
      · have : j = i := by simpa using hj
        subst this
        exact .inl (hdep k hk)
    · have hmix := mix_add (E0 := E 0) (bef := fun j i => ((Region.before ops).getD j 0).testBit i) hA hcl hi1 hi2
      have hfun : (fun j => (listed.setIfInBounds i true).getD j false) = fun j => (listed.getD j false || j == i) := funext hget2
      rw [hfun, hmix]
      obtain ⟨⟨Fz, ob, I⟩, h2, hlt, h3, h4⟩ := H'
      refine ⟨⟨Fz, ob, I.weaken fun s hs => ?_⟩, h2, hlt, h3, h4⟩
      rcases hs with hs | rfl
      · rcases hs with hs | ⟨hs, hj⟩
        · exact .inl hs
        · have hj : listed.getD s.2 false = true := hj
          exact .inr ⟨hs, by show (listed.setIfInBounds i true).getD s.2 false = true; rw [hget2, hj]; rfl⟩
      · exact .inr ⟨rfl, by show (listed.setIfInBounds i true).getD i false = true; rw [hget2]; simp⟩
theorem wp_region_drawn {lr : Option Nat} {m0 : Nat} {ops : Array Oper} {rid id : Nat} (hm : P.follows .mixedOrders = true) (hM : ∀ g, Meets P g (Φ g)) (hd : ∀ o ∈ ops.toList, ∀ d, o.dst = some d → d < C.nt ∧ ¬ C.K d) (hok : edgesOk ops = true)
    {Q : Exit → Act → World → Prop} {e eN : List (Nat × PV)} {lg : List (List Nat × List Nat)}
    (h : runLog P Φ keep ops (rid + 1) 0 ops.toList e = some (eN, lg)) (hap : apartB ops lg = true) (H : Sat C (fun s => s.1 ≤ rid) (lookup e) a w)
    (hQ : ∀ a w, Sat C (fun s => s.1 ≤ rid + 1) (lookup eN) a w → Q .normal a w) : (Code.region id ops true).wpIn (FW lr) m0 P Q a w := by
  refine wpIn_region_any hm ?_
  obtain ⟨h0, E, U, h1, h2, h3⟩ := runLog_trace ops.toList 0 e eN lg rfl h
  rw [Nat.zero_add] at h2
  have hlen : ops.toList.length = ops.size := Array.length_toList
  rw [hlen] at h2 h3
  have hlg : ∀ i, i < ops.size → lg[i]? = some ((fun k => ((lg[k]?).map (·.1)).getD []) i, (U i).map (·.1)) := by
    intro i hi
    obtain ⟨o, _, _, h4, _⟩ := h3 i (Nat.zero_le _) (by omega)
    rw [Nat.sub_zero] at h4
    simp [h4]
  have hT : Trace P Φ keep ops (rid + 1) ops.size E U (fun k => ((lg[k]?).map (·.1)).getD []) := by
    refine ⟨fun i hi => ?_, fun i hi => ?_⟩
    · obtain ⟨o, k1, k2, k3, _⟩ := h3 i (Nat.zero_le _) (by omega)
      rw [Nat.sub_zero] at k3
      exact ⟨o, k1, k2, by simp [k3]⟩
    · obtain ⟨_, _, _, _, k4⟩ := h3 i (Nat.zero_le _) (by omega)
      exact k4
  have hz : ∀ j, (Array.replicate ops.size false).getD j false = false := by
    intro j
    rw [Array.getD_eq_getD_getElem?, Array.getElem?_replicate]
    split <;> rfl
  refine wpAny_draw hM hd hok hT (apartB_spec hap hlg) (fun a w H => hQ a w (by rwa [← h2])) ops.size _ a _ (by simp) ?_ (fun j hj => by rw [hz] at hj; cases hj) ?_
  · have := List.length_filter_le (fun j => !(Array.replicate ops.size false).getD j false) (List.range ops.size)
    rwa [List.length_range] at this
  · rw [mix_none _ hz, h1]
    obtain ⟨⟨Fz, ob, I⟩, k2, klt, k3, k4⟩ := H.drawn (w.drawn + 1)
    exact ⟨⟨Fz, ob, I.weaken fun s hs => .inl hs⟩, k2, klt, k3, k4⟩
end
end Go.PE
namespace Go.PE
open Go.RowKit
section
variable {P : Program} {C : Ctx} {B : Base} {Fz : Nat → Prop} {e : Env} {tm : Tm} {ob : Nat → List Nat} {a : Act} {w : World} {S S' : Stamp → Prop}
variable {Φ : FuncId → List PV → Option (PV × List (List PV))} {keep : List Nat}
theorem lookup_map (f : Nat → PV) : ∀ (l : List Nat) (s : Nat), lookup (l.map fun s => (s, f s)) s = if l.contains s then f s else .dead
  | [], s => rfl
  | t :: l, s => by
    rw [List.map_cons, lookup, lookup_map f l s]
    by_cases h : s = t
    · subst h; simp
    · simp [h]
theorem lookup_canon (live : List Nat) (e : Env) (s : Nat) : lookup (canon live e) s = if live.contains s then canonV live e (e s) else .dead := lookup_map (fun s => canonV live e (e s)) live s
def owns : PV → Bool
  | .own .. | .box .. | .omap .. => true
  | _ => false
theorem rowIf_canonV {live : List Nat} {v : PV} {pl : Option Nat} {st : Stamp} {sz : Nat} {xs : List (List PV)} (h : rowIf v pl st = some (sz, xs)) {sz' : Nat} {xs' : List (List PV)}
    (h' : rowIf (canonV live e v) pl (0, 0) = some (sz', xs')) : sz' = sz ∧ xs' = xs := by
  have h := rowIf_stamp h
  have h' := rowIf_stamp h'
  unfold rowAt? at h
  split at h
  · simp only [Option.some.injEq, Prod.mk.injEq] at h
    obtain ⟨rfl, rfl, rfl⟩ := h
    simp only [canonV, rowAt?, Option.some.injEq, Prod.mk.injEq] at h'
    exact ⟨h'.2.1.symm, h'.2.2.symm⟩
  · split at h
    · rename_i hc
      simp only [Option.some.injEq, Prod.mk.injEq] at h
      obtain ⟨rfl, rfl, rfl⟩ := h
      simp only [canonV, rowAt?, List.getElem?_map, hc, Option.map_some, stC, Option.some.injEq, Prod.mk.injEq] at h'
      exact ⟨h'.2.1.symm, h'.2.2.symm⟩
    · cases h
  · cases h
theorem slotRep_ref {s : Nat} {v : PV} (h : e s = v) (hr : isRef v = true) (h1 : RefV w Fz e tm (tm s) v) : SlotRep w Fz e tm s [] := by
  unfold SlotRep
  rw [h, if_pos hr]
  exact ⟨rfl, h1⟩
theorem slotRep_own {s : Nat} {v : PV} {bs : List Nat} (h : e s = v) (hr : isRef v = false) (h1 : Rep w Fz (tm s) v bs) : SlotRep w Fz e tm s bs := by
  unfold SlotRep
  rw [h, if_neg (by simp [hr])]
  exact h1
theorem Inv.canon (I : Inv B Fz e tm w ob S) (live : List Nat) : ∃ ob', Inv B Fz (lookup (PE.canon live e)) tm w ob' (fun s => s.1 ≤ 0) ∧ ∀ s b, b ∈ ob' s → b ∈ ob s := by
  refine ⟨fun s => if live.contains s && owns (e s) then ob s else [], ?_, fun s b hb => by
    simp only at hb
    split at hb
    · exact hb
    · cases hb⟩
  have hsub : ∀ s b, b ∈ (if live.contains s && owns (e s) then ob s else []) → b ∈ ob s := by
    intro s b hb
    split at hb
    · exact hb
    · cases hb
  refine { rep := ?_, nodup := ?_, disj := ?_, notFz := ?_, lt := ?_, glob := I.glob, fzlt := I.fzlt, mine := ?_, fz0 := I.fz0, fzo := I.fzo, stamps := ?_, os := I.os, tape := I.tape, output := I.output, size := I.size, frame := I.frame, dfr := fun D hD => ⟨(I.dfr D hD).1, (I.dfr D hD).2.1, fun s h => (I.dfr D hD).2.2.1 s (hsub s D h), (I.dfr D hD).2.2.2⟩ }
  · intro s
    by_cases hs : live.contains s = true
    · have hv : lookup (PE.canon live e) s = canonV live e (e s) := by rw [lookup_canon, if_pos hs]
      have hdead : canonV live e (e s) = .dead → owns (e s) = false → SlotRep w Fz (lookup (PE.canon live e)) tm s (if live.contains s && owns (e s) then ob s else []) := fun h1 h2 => by
        rw [h2, Bool.and_false]
        exact slotRep_ref (hv.trans h1) rfl trivial
      have hrefc : ∀ v, canonV live e (e s) = v → isRef v = true → owns (e s) = false → RefV w Fz (lookup (PE.canon live e)) tm (tm s) v → SlotRep w Fz (lookup (PE.canon live e)) tm s (if live.contains s && owns (e s) then ob s else []) := fun v h1 h0 h2 h3 => by
        rw [h2, Bool.and_false]
        exact slotRep_ref (hv.trans h1) h0 h3
      have hplain : ∀ v, canonV live e (e s) = v → isRef v = false → owns (e s) = false → Rep w Fz (tm s) v [] → SlotRep w Fz (lookup (PE.canon live e)) tm s (if live.contains s && owns (e s) then ob s else []) := fun v h1 h0 h2 h3 => by
        rw [h2, Bool.and_false]
        exact slotRep_own (hv.trans h1) h0 h3
      have hown : ∀ v, canonV live e (e s) = v → isRef v = false → owns (e s) = true → Rep w Fz (tm s) v (ob s) → SlotRep w Fz (lookup (PE.canon live e)) tm s (if live.contains s && owns (e s) then ob s else []) := fun v h1 h0 h2 h3 => by
        rw [h2, hs]
        exact slotRep_own (hv.trans h1) h0 h3
      cases he : e s with
      | loc r st o =>
        rw [← he]
        by_cases hr : live.contains r = true
        · cases her : e r with
          | box st' cs =>
            by_cases hst : st' = st
            · subst hst
              refine hrefc (.loc r (0, 0) o) (by rw [he]; simp only [canonV, hr, her, if_true]) rfl (by rw [he]; rfl) fun cs' h => ?_
              have href := I.ref s (by rw [he]; rfl)
              rw [he] at href
              exact href cs her
            · exact hdead (by rw [he]; simp only [canonV, hr, her, if_true, if_neg hst]) (by rw [he]; rfl)
          | _ => exact hdead (by rw [he]; simp only [canonV, hr, her, if_true]) (by rw [he]; rfl)
        · exact hdead (by rw [he]; simp only [canonV, if_neg hr]) (by rw [he]; rfl)
      | snap r pl st off len =>
        rw [← he]
        by_cases hr : live.contains r = true
        · cases hrow : rowIf (e r) pl st with
          | some q =>
            obtain ⟨sz0, xs0⟩ := q
            refine hrefc (.snap r pl (0, 0) off len) (by rw [he]; simp only [canonV, hr, hrow, if_true]) rfl (by rw [he]; rfl) fun sz xs h => ?_
            rw [lookup_canon, if_pos hr] at h
            obtain ⟨rfl, rfl⟩ := rowIf_canonV hrow h
            have href := I.ref s (by rw [he]; rfl)
            rw [he] at href
            exact href _ _ hrow
          | none => exact hdead (by rw [he]; simp only [canonV, hr, hrow, if_true]) (by rw [he]; rfl)
        · exact hdead (by rw [he]; simp only [canonV, if_neg hr]) (by rw [he]; rfl)
      | back g r pl st off len =>
        rw [← he]
        by_cases hr : live.contains r = true
        · cases hrow : rowIf (e r) pl st with
          | some q =>
            obtain ⟨sz0, xs0⟩ := q
            refine hrefc (.back g r pl (0, 0) off len) (by rw [he]; simp only [canonV, hr, hrow, if_true]) rfl (by rw [he]; rfl) fun sz xs h => ?_
            rw [lookup_canon, if_pos hr] at h
            obtain ⟨rfl, rfl⟩ := rowIf_canonV hrow h
            have href := I.ref s (by rw [he]; rfl)
            rw [he] at href
            exact href _ _ hrow
          | none => exact hdead (by rw [he]; simp only [canonV, hr, hrow, if_true]) (by rw [he]; rfl)
        · exact hdead (by rw [he]; simp only [canonV, if_neg hr]) (by rw [he]; rfl)
      | pvar r st =>
        rw [← he]
        by_cases hr : live.contains r = true
        · cases her : e r with
          | box st' cs =>
            by_cases hst : st' = st
            · subst hst
              refine hrefc (.pvar r (0, 0)) (by rw [he]; simp only [canonV, hr, her, if_true]) rfl (by rw [he]; rfl) fun cs' h => ?_
              have href := I.ref s (by rw [he]; rfl)
              rw [he] at href
              exact href cs her
            · exact hdead (by rw [he]; simp only [canonV, hr, her, if_true, if_neg hst]) (by rw [he]; rfl)
          | _ => exact hdead (by rw [he]; simp only [canonV, hr, her, if_true]) (by rw [he]; rfl)
        · exact hdead (by rw [he]; simp only [canonV, if_neg hr]) (by rw [he]; rfl)
      | mref r pl st =>
        rw [← he]
        by_cases hr : live.contains r = true
        · cases hrow : mapIf (e r) pl st with
          | some q =>
            obtain ⟨ks0, vs0⟩ := q
            refine hrefc (.mref r pl (0, 0)) (by rw [he]; simp only [canonV, hr, hrow, if_true]) rfl (by rw [he]; rfl) fun ks vs h => ?_
            have href := I.ref s (by rw [he]; rfl)
            rw [he] at href
            exact href _ _ hrow
          | none => exact hdead (by rw [he]; simp only [canonV, hr, hrow, if_true]) (by rw [he]; rfl)
        · exact hdead (by rw [he]; simp only [canonV, if_neg hr]) (by rw [he]; rfl)
      | omap st ks vs =>
        have hR := I.slot s (by rw [he]; rfl)
        rw [he] at hR
        rw [← he]
        exact hown _ (by rw [he]; rfl) rfl (by rw [he]; rfl) (hR.stC (0, 0))
      | oagg => rw [← he]; exact hdead (by rw [he]; rfl) (by rw [he]; rfl)
      | eloc => rw [← he]; exact hdead (by rw [he]; rfl) (by rw [he]; rfl)
      | dead => rw [← he]; exact hdead (by rw [he]; rfl) (by rw [he]; rfl)
      | own st sz xs =>
        have hR := I.slot s (by rw [he]; rfl)
        rw [he] at hR
        rw [← he]
        exact hown _ (by rw [he]; rfl) rfl (by rw [he]; rfl) (hR.stC (0, 0))
      | box st cs =>
        have hR := I.slot s (by rw [he]; rfl)
        rw [he] at hR
        rw [← he]
        exact hown _ (by rw [he]; rfl) rfl (by rw [he]; rfl) (hR.restamp (0, 0) (0, 0))
      | nils sz =>
        have hR := I.slot s (by rw [he]; rfl)
        rw [he] at hR
        rw [← he]
        refine hplain (.own (0, 0) sz []) (by rw [he]; rfl) rfl (by rw [he]; rfl) ?_
        have := hR.imm rfl
        generalize tm s = val at this
        cases this
        exact .ownNil (0, 0) sz
      | agg cs =>
        have hR := I.slot s (by rw [he]; rfl)
        rw [he] at hR
        rw [← he]
        refine hplain (.agg cs) (by rw [he]; rfl) rfl (by rw [he]; rfl) ?_
        generalize tm s = val at hR
        generalize ob s = obs at hR
        cases hR with
        | plain h => cases h
        | agg arr _ h => exact .agg arr cs h
      | tup vs =>
        cases vs with
        | nil =>
          have hR := I.slot s (by rw [he]; rfl)
          rw [he] at hR
          rw [← he]
          refine hplain (.tup []) (by rw [he]; rfl) rfl (by rw [he]; rfl) ?_
          generalize tm s = val at hR
          generalize ob s = obs at hR
          cases hR with
          | plain h => cases h
          | tup arr _ _ h =>
            refine .tup arr [] [] ?_
            generalize arr.toList = l at h
            cases h
            exact .nil
        | cons v vs => rw [← he]; exact hdead (by rw [he]; rfl) (by rw [he]; rfl)
      | self t => rw [← he]; exact hplain (.self t) (by rw [he]; rfl) rfl (by rw [he]; rfl) (.self _ t)
      | bnil t => rw [← he]; exact hplain (.bnil t) (by rw [he]; rfl) rfl (by rw [he]; rfl) (.bnil _ t)
      | _ =>
        have hR := I.slot s (by rw [he]; rfl)
        rw [he] at hR
        rw [← he]
        exact hplain _ (by rw [he]; rfl) rfl (by rw [he]; rfl) (.plain (hR.imm rfl))
    · have : live.contains s = false := by simpa using hs
      rw [this]
      exact slotRep_ref (v := .dead) (by rw [lookup_canon, if_neg hs]) rfl trivial
  · intro s
    split
    · exact I.nodup s
    · exact List.nodup_nil
  · intro s t hne b hb hb'
    exact I.disj s t hne b (hsub s b hb) (hsub t b hb')
  · intro s b hb; exact I.notFz s b (hsub s b hb)
  · intro s b hb; exact I.lt s b (hsub s b hb)
  · intro s b hb; exact I.mine s b (hsub s b hb)
  · intro s st hst
    rw [lookup_canon] at hst
    split at hst
    · have hz : st = (0, 0) := by
        cases he : e s with
        | own => rw [he] at hst; simpa [canonV, stampsOf, stamps1] using hst
        | nils => rw [he] at hst; simpa [canonV, stampsOf, stamps1] using hst
        | box st0 cs =>
          rw [he] at hst
          rcases stamps_boxC (0, 0) (0, 0) cs st (by simpa [canonV, stampsOf] using hst) with h | h <;> exact h
        | loc r st0 o =>
          rw [he] at hst
          simp only [canonV] at hst
          split at hst
          · split at hst
            · split at hst
              · simpa [stampsOf] using hst
              · simp [stampsOf, stamps1] at hst
            · simp [stampsOf, stamps1] at hst
          · simp [stampsOf, stamps1] at hst
        | snap r pl st0 off len =>
          rw [he] at hst
          simp only [canonV] at hst
          split at hst
          · split at hst
            · simpa [stampsOf] using hst
            · simp [stampsOf, stamps1] at hst
          · simp [stampsOf, stamps1] at hst
        | back g r pl st0 off len =>
          rw [he] at hst
          simp only [canonV] at hst
          split at hst
          · split at hst
            · simpa [stampsOf] using hst
            · simp [stampsOf, stamps1] at hst
          · simp [stampsOf, stamps1] at hst
        | mref r pl st0 =>
          rw [he] at hst
          simp only [canonV] at hst
          split at hst
          · split at hst
            · simpa [stampsOf] using hst
            · simp [stampsOf, stamps1] at hst
          · simp [stampsOf, stamps1] at hst
        | pvar r st0 =>
          rw [he] at hst
          simp only [canonV] at hst
          split at hst
          · split at hst
            · split at hst
              · simpa [stampsOf] using hst
              · simp [stampsOf, stamps1] at hst
            · simp [stampsOf, stamps1] at hst
          · simp [stampsOf, stamps1] at hst
        | omap => rw [he] at hst; simpa [canonV, stampsOf, stamps1] using hst
        | tup vs =>
          rw [he] at hst
          cases vs <;> simp [canonV, stampsOf, stamps1] at hst
        | _ => rw [he] at hst; simp [canonV, stampsOf, stamps1] at hst
      rw [hz]
      exact Nat.le_refl _
    · simp [stampsOf, stamps1] at hst
end
end Go.PE
namespace Go.PE
open Go.RowKit
section
variable {P : Program} {C : Ctx} {B : Base} {Fz : Nat → Prop} {e : Env} {tm : Tm} {ob : Nat → List Nat} {a : Act} {w : World} {S S' : Stamp → Prop}
variable {Φ : FuncId → List PV → Option (PV × List (List PV))} {keep : List Nat}
/-- A block that nothing speaks of. -/
def Away (L : Nat) (o : Obj) (B : Base) (w : World) (Fz : Nat → Prop) (ob : Nat → List Nat) : Prop :=
  w.heap[L]? = some o ∧ ¬ Fz L ∧ (∀ s, L ∉ ob s) ∧ B.w0.heap.size ≤ L
open Classical in
noncomputable def ownedL (ob : Nat → List Nat) (n : Nat) : List Nat := (List.range n).filter fun b => decide (∃ s, b ∈ ob s)
theorem mem_ownedL {n b : Nat} : b ∈ ownedL ob n ↔ b < n ∧ ∃ s, b ∈ ob s := by simp [ownedL]
noncomputable def Base.at (B : Base) (w : World) (ob : Nat → List Nat) (Fz : Nat → Prop) : Base := { w0 := w, A0 := ownedL ob w.heap.size, F0 := Fz, vv := B.vv, D0 := [] }
theorem Inv.rebase (I : Inv B Fz e tm w ob S) : Inv (B.at w ob Fz) Fz e tm w ob S :=
  { I with
    mine := fun s b hb => .inl (mem_ownedL.2 ⟨I.lt s b hb, s, hb⟩), fz0 := fun _ h => h, fzo := fun _ h => .inl h, os := rfl, tape := rfl, output := rfl,
    size := Nat.le_refl _, frame := fun _ _ _ => rfl, dfr := fun _ h => (by cases h) }
theorem Inv.unbase {Fz' : Nat → Prop} {e' : Env} {tm' : Tm} {w' : World} {ob' : Nat → List Nat} (I0 : Inv B Fz e tm w ob S) (I : Inv (B.at w ob Fz) Fz' e' tm' w' ob' S') :
    Inv B Fz' e' tm' w' ob' S' ∧ (∀ L o, Away L o B w Fz ob → Away L o B w' Fz' ob') ∧ (∀ b, Fz b → Fz' b ∧ w'.heap[b]? = w.heap[b]?) := by
  have hA : ∀ L o, Away L o B w Fz ob → Away L o B w' Fz' ob' := by
    rintro L o ⟨h1, h2, h3, h4⟩
    have hlt : L < w.heap.size := (Array.getElem?_eq_some_iff.1 h1).1
    have hn : L ∉ ownedL ob w.heap.size := fun h => by obtain ⟨_, s, hs⟩ := mem_ownedL.1 h; exact h3 s hs
    refine ⟨(I.frame L hlt hn).trans h1, fun hf => ?_, fun s hs => ?_, h4⟩
    · rcases I.fzo L hf with h | h | h
      · exact h2 h
      · exact hn h
      · exact absurd hlt (Nat.not_lt.2 h)
    · rcases I.mine s L hs with h | h
      · exact hn h
      · exact absurd hlt (Nat.not_lt.2 h)
  have hown : ∀ b, b ∈ ownedL ob w.heap.size → b ∈ B.A0 ∨ B.w0.heap.size ≤ b := fun b hb => by
    obtain ⟨_, s, hs⟩ := mem_ownedL.1 hb
    exact I0.mine s b hs
  refine ⟨{ I with mine := fun s b hb => ?_, fz0 := fun b hb => I.fz0 b (I0.fz0 b hb), fzo := fun b hb => ?_, os := I.os.trans I0.os, tape := I.tape.trans I0.tape,
                   output := I.output.trans I0.output, size := Nat.le_trans I0.size I.size, frame := fun i hi hA => ?_, dfr := fun D hD => hA D _ (I0.dfr D hD) }, hA, fun b hb => ⟨I.fz0 b hb, ?_⟩⟩
  · rcases I.mine s b hb with h | h
    · exact hown b h
    · exact .inr (Nat.le_trans I0.size h)
  · rcases I.fzo b hb with h | h | h
    · exact I0.fzo b h
    · exact .inr (hown b h)
    · exact .inr (.inr (Nat.le_trans I0.size h))
  · refine (I.frame i (Nat.lt_of_lt_of_le hi I0.size) fun h => ?_).trans (I0.frame i hi hA)
    rcases hown i h with h | h
    · exact hA h
    · omega
  · exact I.frame b (I0.fzlt b hb) fun h => by obtain ⟨_, s, hs⟩ := mem_ownedL.1 h; exact I0.notFz s b hs hb
theorem Inv.putOther (I : Inv B Fz e tm w ob S) {L : Nat} {o : Obj} (o' : Obj) (h : Away L o B w Fz ob) (hD : L ∉ B.D0) : Inv B Fz e tm (w.putObj L o') ob S := by
  obtain ⟨h1, h2, h3, h4⟩ := h
  have hw : ∀ b, b ≠ L → (w.putObj L o').heap[b]? = w.heap[b]? := fun b hb => World.putObj_heap_other hb
  have hfz : ∀ b, Fz b → (w.putObj L o').heap[b]? = w.heap[b]? := fun b hb => hw b fun h => h2 (h ▸ hb)
  have hob : ∀ s, ∀ b ∈ ob s, (w.putObj L o').heap[b]? = w.heap[b]? := fun s b hb => hw b fun h => h3 s (h ▸ hb)
  refine { I with rep := fun s => ?_, lt := fun s b hb => by rw [World.putObj_size]; exact I.lt s b hb, fzlt := fun b hb => by rw [World.putObj_size]; exact I.fzlt b hb, os := I.os, tape := I.tape, output := I.output,
                  size := by rw [World.putObj_size]; exact I.size, frame := fun i hi hA => (hw i (by omega)).trans (I.frame i hi hA), glob := I.glob.mono (fun _ h => h) hfz,
                  dfr := fun D hD' => ⟨(hw D fun h => hD (h ▸ hD')).trans (I.dfr D hD').1, (I.dfr D hD').2⟩ }
  have h := I.rep s
  unfold SlotRep at h ⊢
  split
  · rename_i hr
    rw [if_pos hr] at h
    exact ⟨h.1, h.2.step (I.stamps s) (fun _ h => h) hfz fun r => RootStep.kept (I.rep r) (hob r)⟩
  · rename_i hr
    rw [if_neg hr] at h
    exact h.mono (fun _ h => h) hfz (hob s)
theorem Away.put {L : Nat} {o : Obj} (o' : Obj) (h : Away L o B w Fz ob) : Away L o' B (w.putObj L o') Fz ob :=
  ⟨World.putObj_heap_same (Array.getElem?_eq_some_iff.1 h.1).1, h.2⟩
theorem Away.other {L D : Nat} {o o1 : Obj} (h : Away D o B w Fz ob) (hne : D ≠ L) : Away D o B (w.putObj L o1) Fz ob := ⟨(World.putObj_heap_other hne).trans h.1, h.2⟩
theorem rowIf_dead {pl : Option Nat} {st : Stamp} {q : Nat × List (List PV)} : rowIf .dead pl st ≠ some q := by cases pl <;> simp [rowIf, rowAt?]
theorem mapIf_dead {pl : Option Nat} {st : Stamp} {q : MKeys × List (List PV)} : mapIf .dead pl st ≠ some q := by cases pl <;> simp [mapIf, mapAt?]
theorem RefV.congrTm {tm2 : Tm} (h : ∀ s, e s ≠ .dead → tm2 s = tm s) {u : Value} {v : PV} (hs : RefV w Fz e tm u v) : RefV w Fz e tm2 u v := by
  cases v <;> simp only [RefV] at hs ⊢
  case loc r st o => intro cs hc; rw [h r (by rw [hc]; simp)]; exact hs cs hc
  case eloc r pl st i k => intro sz xs hc; rw [h r fun hd => by rw [hd] at hc; exact rowIf_dead hc]; exact hs sz xs hc
  case snap r pl st off len => intro sz xs hc; rw [h r fun hd => by rw [hd] at hc; exact rowIf_dead hc]; exact hs sz xs hc
  case back g r pl st off len => intro sz xs hc; rw [h r fun hd => by rw [hd] at hc; exact rowIf_dead hc]; exact hs sz xs hc
  case pvar r st => intro cs hc; rw [h r (by rw [hc]; simp)]; exact hs cs hc
  case mref r pl st => intro ks vs hc; rw [h r fun hd => by rw [hd] at hc; exact mapIf_dead hc]; exact hs ks vs hc
theorem Inv.congrTm (I : Inv B Fz e tm w ob S) {tm2 : Tm} (h : ∀ s, e s ≠ .dead → tm2 s = tm s) : Inv B Fz e tm2 w ob S := by
  refine { I with rep := fun s => ?_ }
  have hs := I.rep s
  unfold SlotRep at hs ⊢
  by_cases hd : e s = .dead
  · rw [hd] at hs ⊢
    rw [if_pos (show isRef .dead = true from rfl)] at hs ⊢
    exact ⟨hs.1, trivial⟩
  · rw [h s hd]
    split
    · rename_i hr
      rw [if_pos hr] at hs
      exact ⟨hs.1, hs.2.congrTm h⟩
    · rename_i hr
      rw [if_neg hr] at hs
      exact hs
/-- New blocks are laid that nothing speaks of. -/
theorem Inv.grow (I : Inv B Fz e tm w ob S) {w' : World} (hos : w'.os = w.os) (htape : w'.tape = w.tape) (hout : w'.output = w.output) (hsize : w.heap.size ≤ w'.heap.size)
    (hheap : ∀ b, b < w.heap.size → w'.heap[b]? = w.heap[b]?) : Inv B Fz e tm w' ob S :=
  I.step (fun _ => False) (fun _ h => h) hos htape hout hsize (fun b hb _ => hheap b hb) (fun s _ => ⟨rfl, rfl, rfl⟩) (fun _ h => h) (fun _ h => .inl h)
    (fun _ h => h.elim) (fun _ h => h.elim) (fun _ _ h => h.elim) (fun _ h => h.elim) (fun _ h => h.elim) (fun _ _ h => h.elim)
theorem Sat.canon (H : Sat C S e a w) (live : List Nat) : Sat C (fun s => s.1 ≤ 0) (lookup (PE.canon live e)) a w := by
  obtain ⟨⟨Fz, ob, I⟩, h2, hlt, h3, h4⟩ := H
  obtain ⟨ob', I', _⟩ := I.canon live
  exact ⟨⟨Fz, ob', I'⟩, h2, hlt, h3, h4⟩
/-! ### Code -/
def dstsOk (nt : Nat) (ks : List Nat) (ops : Array Oper) : Bool := ops.toList.all fun o => match o.dst with | some d => decide (d < nt) && !ks.contains d | none => true
/-- What is asked of the code alone. -/
def codeOK (nt : Nat) (ks : List Nat) : Code → Bool
  | .region _ ops draw => dstsOk nt ks ops && (!draw || edgesOk ops)
  | .seq x y | .cond _ x y => codeOK nt ks x && codeOK nt ks y
  | .block _ c | .loop c => codeOK nt ks c
  | .rangeFunc _ ps x y => ps.toList.all (fun d => decide (d < nt) && !ks.contains d) && codeOK nt ks x && codeOK nt ks y
  | _ => true
def noRF : Code → Bool
  | .seq x y | .cond _ x y => noRF x && noRF y
  | .block _ c | .loop c => noRF c
  | .rangeFunc .. => false
  | _ => true
theorem noW_noRF {live : List Nat} {c : Code} (h : noW live c = true) : noRF c = true := by
  induction c with
  | seq x y ihx ihy => simp only [noW, Bool.and_eq_true] at h; simp only [noRF, ihx h.1, ihy h.2, Bool.and_self]
  | cond c x y ihx ihy => simp only [noW, Bool.and_eq_true] at h; simp only [noRF, ihx h.1, ihy h.2, Bool.and_self]
  | block id c ih => exact ih h
  | loop c ih => exact ih h
  | rangeFunc => cases h
  | _ => rfl
theorem codeOK_noW {nt : Nat} {ks live : List Nat} {c : Code} (h : codeOK nt ks c = true) (h2 : noW live c = true) : codeOK nt (ks ++ live) c = true := by
  induction c with
  | seq x y ihx ihy => simp only [noW, codeOK, Bool.and_eq_true] at h h2 ⊢; exact ⟨ihx h.1 h2.1, ihy h.2 h2.2⟩
  | cond c x y ihx ihy => simp only [noW, codeOK, Bool.and_eq_true] at h h2 ⊢; exact ⟨ihx h.1 h2.1, ihy h.2 h2.2⟩
  | block id c ih => exact ih h h2
  | loop c ih => exact ih h h2
  | rangeFunc => cases h2
  | region id ops draw =>
    simp only [codeOK, Bool.and_eq_true] at h ⊢
    refine ⟨?_, h.2⟩
    have h1 := h.1
    simp only [noW] at h2
    unfold dstsOk at h1 ⊢
    rw [List.all_eq_true] at h1 h2 ⊢
    intro o ho
    have k1 := h1 o ho
    have k2 := h2 o ho
    cases hd : o.dst with
    | none => rfl
    | some d =>
      rw [hd] at k1 k2
      simp only [Bool.and_eq_true, Bool.not_eq_true', decide_eq_true_eq] at k1 k2 ⊢
      refine ⟨k1.1, ?_⟩
      simp at k1 k2 ⊢
      exact ⟨k1.2, k2⟩
  | _ => rfl
theorem dstsOk_spec {nt : Nat} {ks : List Nat} {ops : Array Oper} (h : dstsOk nt ks ops = true) : ∀ o ∈ ops.toList, ∀ d, o.dst = some d → d < nt ∧ ¬ d ∈ ks := by
  intro o ho d hd
  unfold dstsOk at h
  rw [List.all_eq_true] at h
  have := h o ho
  rw [hd] at this
  simpa using this
def exitOf : Ex → Exit
  | .normal => .normal
  | .exit id => .exit id
  | .ret => .ret
/-- What is shown of a piece of code. -/
def CodeS (P : Program) (Φ : FuncId → List PV → Option (PV × List (List PV))) (keep : List Nat) (lv : Nat → List Nat) (n : Nat) (c : Code) : Prop :=
  ∀ (C : Ctx) (ks : List Nat), C.K = (fun t => t ∈ ks) → ∀ (m b : Nat) (Q : Exit → Act → World → Prop) (rid rid' : Nat) (e e' : List (Nat × PV)) (ex : Ex) (a : Act) (w : World),
    (C.l = none ∨ noRF c = true) → codeOK C.nt ks c = true → exec P Φ keep lv n b c (rid, e) = some (ex, rid', e') →
    Sat C (fun s => s.1 ≤ rid) (lookup e) a w → (∀ a w, Sat C (fun s => s.1 ≤ rid') (lookup e') a w → Q (exitOf ex) a w) → c.wpIn (FW C.l) m P Q a w
theorem iter_of (hM : ∀ g, Meets P g (Φ g)) {g : FuncId} (h : itB g = true) : IterB P g := by
  have : g = 173 := by simpa [itB] using h
  subst this
  exact ((hM 145).2.2.2 173 rfl).2
theorem backLen_spec {e : Env} {t len : Nat} (h : backLen e t = some len) : ∃ g r pl st off q, e t = .back g r pl st off len ∧ itB g = true ∧ t ≠ VS ∧ rowIf (e r) pl st = some q := by
  unfold backLen at h
  split at h
  · rename_i g r pl st off len' he
    split at h
    · rename_i hc
      split at h
      · rename_i q hq
        cases h
        rw [Bool.and_eq_true] at hc
        exact ⟨g, r, pl, st, off, q, he, hc.1, by simpa using hc.2, hq⟩
      · cases h
    · cases h
  · cases h
theorem backCell_spec {e : Env} {t j : Nat} {c : PV} (h : backCell e t j = some c) : ∃ g r pl st off len sz xs z, e t = .back g r pl st off len ∧ rowIf (e r) pl st = some (sz, xs) ∧ xs[off + j]? = some [.int .i64 z] ∧ c = .int .i64 z := by
  unfold backCell at h
  split at h
  · rename_i g r pl st off len he
    split at h
    · rename_i sz xs hq
      split at h
      · rename_i z hz
        cases h
        exact ⟨g, r, pl, st, off, len, sz, xs, z, he, hq, hz, rfl⟩
      · cases h
    · cases h
  · cases h
end
end Go.PE
