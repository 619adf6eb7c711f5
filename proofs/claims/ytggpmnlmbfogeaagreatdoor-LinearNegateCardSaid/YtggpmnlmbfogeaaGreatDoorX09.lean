/-
  A part of the proof that the law's function returns true and leaves its arguments as they were, for every input (no condition): own lemmas of the proof, in the order of their use.
-/
import Derived.Test.YtggpmnlmbfogeaaGreatDoorX08
set_option linter.all false
namespace Go.PE
open Go.RowKit
def edgesOk (ops : Array Oper) : Bool := (ops.toList.zipIdx).all fun (o, i) => o.after.all fun e => !(Region.binds .any e) || decide (e.on < i)
theorem edgesOk_spec {ops : Array Oper} (h : edgesOk ops = true) {j : Nat} {o : Oper} (hj : ops[j]? = some o) {e : Edge} (he : e ∈ o.after) (hb : Region.binds .any e = true) : e.on < j := by
 unfold edgesOk at h
 rw [List.all_eq_true] at h
 have := h (o, j) (by rw [List.mem_zipIdx_iff_getElem?]; simpa using hj)
 simp only [Array.all_eq_true_iff_forall_mem] at this
 have := this e he
 rw [hb] at this
 simpa using this
def bval (acc : Array Nat) (o : Oper) : Nat := o.after.foldl (fun s e => if Region.binds .any e then s ||| 2 ^ e.on ||| acc.getD e.on 0 else s) 0
theorem before_eq (ops : Array Oper) : Region.before ops = ops.toList.foldl (fun acc o => acc.push (bval acc o)) #[] := by
 rw [Array.foldl_toList]
 rfl
theorem bfold_prefix : ∀ (l : List Oper) (acc : Array Nat), (l.foldl (fun acc o => acc.push (bval acc o)) acc).size = acc.size + l.length ∧
  ∀ j, j < acc.size → (l.foldl (fun acc o => acc.push (bval acc o)) acc)[j]? = acc[j]?
 | [], acc => ⟨by simp, fun _ _ => rfl⟩
 | o :: l, acc => by
  obtain ⟨h1, h2⟩ := bfold_prefix l (acc.push (bval acc o))
  refine ⟨by rw [List.foldl_cons, h1]; simp; omega, fun j hj => ?_⟩
  rw [List.foldl_cons, h2 j (by simp; omega), Array.getElem?_push_lt hj]
  simp [hj]
theorem testBit_fold (acc : Array Nat) (i : Nat) : ∀ (es : List Edge) (s : Nat), (es.foldl (fun s e => if Region.binds .any e then s ||| 2 ^ e.on ||| acc.getD e.on 0 else s) s).testBit i = true →
  s.testBit i = true ∨ ∃ e ∈ es, Region.binds .any e = true ∧ (i = e.on ∨ (acc.getD e.on 0).testBit i = true)
 | [], s, h => .inl h
 | e :: es, s, h => by
  rw [List.foldl_cons] at h
  rcases testBit_fold acc i es _ h with h | ⟨e', h1, h2⟩
  ·split at h
   ·rename_i hb
    rw [Nat.testBit_or, Nat.testBit_or, Nat.testBit_two_pow, Bool.or_eq_true, Bool.or_eq_true] at h
    rcases h with (h | h) | h
    ·exact .inl h
    ·exact .inr ⟨e, by simp, hb, .inl (by simpa using (of_decide_eq_true h).symm)⟩
    ·exact .inr ⟨e, by simp, hb, .inr h⟩
   ·exact .inl h
  ·exact .inr ⟨e', List.mem_cons_of_mem _ h1, h2⟩
theorem before_bit {ops : Array Oper} (hok : edgesOk ops = true) {j i : Nat} (h : ((Region.before ops).getD j 0).testBit i = true) :
  ∃ o, ops[j]? = some o ∧ ∃ e ∈ o.after, Region.binds .any e = true ∧ (i = e.on ∨ ((Region.before ops).getD e.on 0).testBit i = true) := by
 have hsz : (Region.before ops).size = ops.size := by rw [before_eq, (bfold_prefix ops.toList #[]).1]; simp
 by_cases hj : j < ops.size
 ·have hl : j < ops.toList.length := by simpa using hj
  refine ⟨ops[j], by simp, ?_⟩
  have hsplit : ops.toList = ops.toList.take j ++ ops.toList[j] :: ops.toList.drop (j + 1) := by
   rw [← List.drop_eq_getElem_cons hl, List.take_append_drop]
  generalize hacc : (ops.toList.take j).foldl (fun acc o => acc.push (bval acc o)) #[] = acc
  have hasz : acc.size = j := by
   rw [← hacc, (bfold_prefix _ _).1]
   simp; omega
  have hfin : Region.before ops = (ops.toList.drop (j + 1)).foldl (fun acc o => acc.push (bval acc o)) (acc.push (bval acc ops.toList[j])) := by
   rw [before_eq]
   conv => lhs; rw [hsplit]
   rw [List.foldl_append, hacc, List.foldl_cons]
  have hpre := (bfold_prefix (ops.toList.drop (j + 1)) (acc.push (bval acc ops.toList[j]))).2
  have hval : (Region.before ops)[j]? = some (bval acc ops.toList[j]) := by
   rw [hfin, hpre j (by simp [hasz])]
   have := Array.getElem?_push_size (xs := acc) (x := bval acc ops.toList[j])
   rwa [hasz] at this
  have hlow : ∀ k, k < j → (Region.before ops).getD k 0 = acc.getD k 0 := by
   intro k hk
   rw [Array.getD_eq_getD_getElem?, Array.getD_eq_getD_getElem?, hfin, hpre k (by simp [hasz]; omega), Array.getElem?_push_lt (by omega)]
   simp [show k < acc.size by omega]
  rw [Array.getD_eq_getD_getElem?, hval, Option.getD_some] at h
  unfold bval at h
  rw [← Array.foldl_toList] at h
  rcases testBit_fold acc i _ 0 h with h | ⟨e, h1, h2, h3⟩
  ·simp at h
  ·have he : e ∈ (ops[j]).after := by simpa using h1
   refine ⟨e, he, h2, h3.imp id fun h3 => ?_⟩
   rw [hlow e.on (edgesOk_spec hok (j := j) (o := ops[j]) (by simp) he h2)]
   exact h3
 ·rw [Array.getD_eq_getD_getElem?, Array.getElem?_eq_none (by omega)] at h
  simp at h
section
variable {P : Program} {C : Ctx} {a : Act} {w : World} {S S' : Stamp → Prop}
variable {Φ : FuncId → List PV → Option (PV × List (List PV))} {keep : List Nat}
structure Trace (P : Program) (Φ : FuncId → List PV → Option (PV × List (List PV))) (keep : List Nat) (ops : Array Oper) (rid : Nat) (n : Nat) (E : Nat → Env) (U : Nat → Ups) (F : Nat → List Nat) : Prop where
 step : ∀ i, i < n → ∃ o, ops[i]? = some o ∧ stepO P Φ keep ops rid i o (E i) = some (U i) ∧ F i = foot ops o (E i)
 next : ∀ i, i < n → E (i + 1) = apply (U i) (E i)
theorem runLog_trace {ops : Array Oper} {rid : Nat} : ∀ (l : List Oper) (i : Nat) (e eN : List (Nat × PV)) (lg : List (List Nat × List Nat)), ops.toList.drop i = l → runLog P Φ keep ops rid i l e = some (eN, lg) →
  lg.length = l.length ∧ ∃ (E : Nat → Env) (U : Nat → Ups), E i = lookup e ∧ E (i + l.length) = lookup eN ∧
   (∀ k, i ≤ k → k < i + l.length → ∃ o, ops[k]? = some o ∧ stepO P Φ keep ops rid k o (E k) = some (U k) ∧ lg[k - i]? = some (foot ops o (E k), (U k).map (·.1)) ∧ E (k + 1) = apply (U k) (E k))
 | [], i, e, eN, lg, hl, h => by
  simp only [runLog, Option.some.injEq, Prod.mk.injEq] at h
  obtain ⟨rfl, rfl⟩ := h
  exact ⟨rfl, fun _ => lookup e, fun _ => [], rfl, rfl, fun k h1 h2 => by simp at h2; omega⟩
 | o :: l, i, e, eN, lg, hl, h => by
  simp only [runLog] at h
  split at h
  ·rename_i u hu
   split at h
   ·rename_i e' lg' hrest
    simp only [Option.some.injEq, Prod.mk.injEq] at h
    obtain ⟨rfl, rfl⟩ := h
    have hdrop : ops.toList.drop (i + 1) = l := by rw [← List.drop_drop, hl]; rfl
    obtain ⟨h0, E, U, h1, h2, h3⟩ := runLog_trace l (i + 1) (applyL u e) e' lg' hdrop hrest
    have ho : ops[i]? = some o := by
     have : (ops.toList.drop i)[0]? = some o := by rw [hl]; rfl
     simpa using this
    refine ⟨by simp [h0], fun k => if k = i then lookup e else E k, fun k => if k = i then u else U k, by simp, ?_, fun k hk1 hk2 => ?_⟩
    ·show (if i + (o :: l).length = i then lookup e else E (i + (o :: l).length)) = lookup e'
     rw [if_neg (by simp), ← h2]
     congr 1
     simp only [List.length_cons]; omega
    ·by_cases hki : k = i
     ·subst hki
      refine ⟨o, ho, by simpa using hu, by simp, ?_⟩
      simp only [if_true]
      rw [if_neg (by omega), h1, lookup_applyL]
     ·simp only [if_neg hki]
      obtain ⟨o', j1, j2, j3, j4⟩ := h3 k (by omega) (by simp only [List.length_cons] at hk2; omega)
      refine ⟨o', j1, j2, ?_, ?_⟩
      ·rw [show k - i = (k - (i + 1)) + 1 by omega, List.getElem?_cons_succ]
       exact j3
      ·rw [if_neg (by omega)]
       exact j4
   ·cases h
  ·cases h
theorem apply_eq_at {u : Ups} {f g : Env} {s : Nat} (h : f s = g s) : apply u f s = apply u g s := by
 induction u generalizing f g with
 | nil => exact h
 | cons q u ih =>
  rw [apply_cons, apply_cons]
  refine ih ?_
  by_cases hs : s = q.1
  ·rw [hs, upd_same, upd_same]
  ·rw [upd_other hs, upd_other hs]; exact h
theorem apply_comm {u v : Ups} (h : ∀ q ∈ u, ∀ q' ∈ v, q.1 ≠ q'.1) (f : Env) : apply u (apply v f) = apply v (apply u f) := by
 funext s
 by_cases hs : ∃ q ∈ u, q.1 = s
 ·obtain ⟨q, hq, rfl⟩ := hs
  have hv : ∀ g : Env, apply v g q.1 = g q.1 := fun g => apply_other v g q.1 fun q' hq' he => h q hq q' hq' he.symm
  rw [hv]
  exact apply_eq_at (hv f)
 ·have hu : ∀ g : Env, apply u g s = g s := fun g => apply_other u g s fun q hq he => hs ⟨q, hq, he⟩
  rw [hu]
  exact apply_eq_at (hu f).symm
def mix (E0 : Env) (U : Nat → Ups) (L : Nat → Bool) : Nat → Env
 | 0 => E0
 | k + 1 => if L k then apply (U k) (mix E0 U L k) else mix E0 U L k
section mixing
variable {n : Nat} {E : Nat → Env} {U : Nat → Ups} {F : Nat → List Nat} {bef : Nat → Nat → Bool} {L : Nat → Bool}
structure Apart (n : Nat) (U : Nat → Ups) (F : Nat → List Nat) (bef : Nat → Nat → Bool) : Prop where
 wr : ∀ i j, i < j → j < n → bef j i = false → ∀ q ∈ U i, q.1 ∉ F j
 ww : ∀ i j, i < j → j < n → bef j i = false → ∀ q ∈ U i, ∀ q' ∈ U j, q.1 ≠ q'.1
 rw : ∀ i j, i < j → j < n → bef j i = false → ∀ q ∈ U j, q.1 ∉ F i
theorem mix_foot (hE : ∀ i, i < n → E (i + 1) = apply (U i) (E i)) (hA : Apart n U F bef) (hcl : ∀ j, L j = true → ∀ i, bef j i = true → L i = true) {i : Nat} (hi : i < n) (hL : L i = false)
  (hdep : ∀ j, bef i j = true → L j = true) {s : Nat} (hs : s ∈ F i) : mix (E 0) U L n s = E i s := by
 have h1 : ∀ k, k ≤ i → mix (E 0) U L k s = E k s := by
  intro k
  induction k with
  | zero => intro _; rfl
  | succ k ih =>
   intro hk
   rw [mix, hE k (by omega)]
   cases hLk : L k with
   | true =>
    simp only [if_true]
    exact apply_eq_at (ih (by omega))
   | false =>
    simp only [Bool.false_eq_true, if_false]
    rw [ih (by omega), apply_other (U k) (E k) s fun q hq hqs => ?_]
    cases hb : bef i k with
    | true => rw [hdep k hb] at hLk; cases hLk
    | false => exact hA.wr k i (by omega) hi hb q hq (hqs ▸ hs)
 have h2 : ∀ m, i + m ≤ n → mix (E 0) U L (i + m) s = E i s := by
  intro m
  induction m with
  | zero => intro _; exact h1 i (Nat.le_refl _)
  | succ m ih =>
   intro hm
   rw [← Nat.add_assoc, mix]
   cases hLk : L (i + m) with
   | false => simp only [Bool.false_eq_true, if_false]; exact ih (by omega)
   | true =>
    simp only [if_true]
    have hne : m ≠ 0 := fun h => by subst h; rw [Nat.add_zero, hL] at hLk; cases hLk
    rw [apply_other (U (i + m)) _ s fun q hq hqs => ?_]
    ·exact ih (by omega)
    ·cases hb : bef (i + m) i with
     | true => rw [hcl _ hLk _ hb] at hL; cases hL
     | false => exact hA.rw i (i + m) (by omega) (by omega) hb q hq (hqs ▸ hs)
 have := h2 (n - i) (by omega)
 rwa [show i + (n - i) = n by omega] at this
theorem mix_add (hA : Apart n U F bef) (hcl : ∀ j, L j = true → ∀ i, bef j i = true → L i = true) {i : Nat} (hi : i < n) (hL : L i = false) (E0 : Env) :
  mix E0 U (fun j => L j || j == i) n = apply (U i) (mix E0 U L n) := by
 have h1 : ∀ k, k ≤ i → mix E0 U (fun j => L j || j == i) k = mix E0 U L k := by
  intro k
  induction k with
  | zero => intro _; rfl
  | succ k ih =>
   intro hk
   rw [mix, mix, ih (by omega)]
   have : (k == i) = false := by simp; omega
   simp only [this, Bool.or_false]
 have h2 : ∀ m, i + 1 + m ≤ n → mix E0 U (fun j => L j || j == i) (i + 1 + m) = apply (U i) (mix E0 U L (i + 1 + m)) := by
  intro m
  induction m with
  | zero =>
   intro _
   rw [Nat.add_zero, mix, mix, h1 i (Nat.le_refl _)]
   simp [hL]
  | succ m ih =>
   intro hm
   rw [← Nat.add_assoc, mix, mix, ih (by omega)]
   have : (i + 1 + m == i) = false := by simp; omega
   simp only [this, Bool.or_false]
   cases hLk : L (i + 1 + m) with
   | false => simp
   | true =>
    simp only [if_true]
    refine apply_comm (fun q hq q' hq' he => ?_) _
    cases hb : bef (i + 1 + m) i with
    | true => rw [hcl _ hLk _ hb] at hL; cases hL
    | false => exact hA.ww i (i + 1 + m) (by omega) (by omega) hb q' hq' q hq he.symm
 have := h2 (n - (i + 1)) (by omega)
 rwa [show i + 1 + (n - (i + 1)) = n by omega] at this
theorem mix_full (hE : ∀ i, i < n → E (i + 1) = apply (U i) (E i)) (hL : ∀ i, i < n → L i = true) : mix (E 0) U L n = E n := by
 have : ∀ k, k ≤ n → mix (E 0) U L k = E k := by
  intro k
  induction k with
  | zero => intro _; rfl
  | succ k ih =>
   intro hk
   rw [mix, hL k (by omega), if_pos rfl, ih (by omega), hE k (by omega)]
 exact this n (Nat.le_refl _)
theorem mix_none (E0 : Env) (hL : ∀ i, L i = false) : ∀ k, mix E0 U L k = E0
 | 0 => rfl
 | k + 1 => by rw [mix, hL k, if_neg (by simp)]; exact mix_none E0 hL k
end mixing
theorem apartB_spec {ops : Array Oper} {lg : List (List Nat × List Nat)} (h : apartB ops lg = true) {n : Nat} {U : Nat → Ups} {F : Nat → List Nat} (hlg : ∀ i, i < n → lg[i]? = some (F i, (U i).map (·.1))) :
  Apart n U F (fun j i => ((Region.before ops).getD j 0).testBit i) := by
 have key : ∀ i j, i < j → j < n → ((Region.before ops).getD j 0).testBit i = false →
   disj ((U i).map (·.1)) (F j) = true ∧ disj ((U i).map (·.1)) ((U j).map (·.1)) = true ∧ disj ((U j).map (·.1)) (F i) = true := by
  intro i j hij hj hb
  unfold apartB at h
  simp only [List.all_eq_true] at h
  have h1 := h ((F j, (U j).map (·.1)), j) (by rw [List.mem_zipIdx_iff_getElem?]; exact hlg j hj) ((F i, (U i).map (·.1)), i) (by rw [List.mem_zipIdx_iff_getElem?]; exact hlg i (by omega))
  simp only [hij, decide_true, Bool.not_true, hb, Bool.false_or, Bool.and_eq_true] at h1
  exact ⟨h1.1.1, h1.1.2, h1.2⟩
 have dspec : ∀ {a b : List Nat}, disj a b = true → ∀ x ∈ a, x ∉ b := by
  intro a b hab x hx
  unfold disj at hab
  rw [List.all_eq_true] at hab
  simpa using hab x hx
 exact ⟨fun i j h1 h2 h3 q hq => dspec (key i j h1 h2 h3).1 q.1 (List.mem_map.2 ⟨q, hq, rfl⟩),
  fun i j h1 h2 h3 q hq q' hq' he => dspec (key i j h1 h2 h3).2.1 q.1 (List.mem_map.2 ⟨q, hq, rfl⟩) (he ▸ List.mem_map.2 ⟨q', hq', rfl⟩),
  fun i j h1 h2 h3 q hq => dspec (key i j h1 h2 h3).2.2 q.1 (List.mem_map.2 ⟨q, hq, rfl⟩)⟩
theorem Sat.drawn {e : Env} (H : Sat C S e a w) (n : Nat) : Sat C S e a { w with drawn := n } := by
 obtain ⟨⟨Fz, ob, I⟩, h2, hlt, h3, h4⟩ := H
 refine ⟨⟨Fz, ob, ?_⟩, h2, hlt, h3, h4⟩
 exact I.step (fun _ => False) (fun _ h => h) rfl rfl rfl (Nat.le_refl _) (fun _ _ _ => rfl) (fun s _ => ⟨rfl, rfl, rfl⟩) (fun _ h => h) (fun _ h => .inl h)
  (fun _ h => h.elim) (fun _ h => h.elim) (fun _ _ h => h.elim) (fun _ h => h.elim) (fun _ h => h.elim) (fun _ _ h => h.elim)
theorem wpAny_draw {ops : Array Oper} {rid : Nat} (hM : ∀ g, Meets P g (Φ g)) (hd : ∀ o ∈ ops.toList, ∀ d, o.dst = some d → d < C.nt ∧ ¬ C.K d) (hok : edgesOk ops = true) {Q : Exit → Act → World → Prop}
  {E : Nat → Env} {U : Nat → Ups} {F : Nat → List Nat} (hT : Trace P Φ keep ops (rid + 1) ops.size E U F) (hA : Apart ops.size U F (fun j i => ((Region.before ops).getD j 0).testBit i))
  (hQ : ∀ a w, Sat C (fun s => s.1 ≤ rid + 1) (E ops.size) a w → Q .normal a w) :
  ∀ (fuel : Nat) (listed : Array Bool) (a : Act) (w : World), listed.size = ops.size → ((List.range ops.size).filter fun j => !listed.getD j false).length ≤ fuel →
   (∀ j, listed.getD j false = true → ∀ i, ((Region.before ops).getD j 0).testBit i = true → listed.getD i false = true) →
   Sat C (seen rid fun j => listed.getD j false = true) (mix (E 0) U (fun j => listed.getD j false) ops.size) a w → wpAny P .any ops Q fuel listed a w := by
 have allDone : ∀ (listed : Array Bool) (a : Act) (w : World), (∀ i, i < ops.size → listed.getD i false = true) →
   Sat C (seen rid fun j => listed.getD j false = true) (mix (E 0) U (fun j => listed.getD j false) ops.size) a w → Q .normal a w := by
  intro listed a w hall H
  rw [mix_full hT.next hall] at H
  obtain ⟨⟨Fz, ob, I⟩, h2, hlt, h3, h4⟩ := H
  exact hQ a w ⟨⟨Fz, ob, I.weaken fun s hs => by rcases hs with hs | hs <;> omega⟩, h2, hlt, h3, h4⟩
 have hget : ∀ (listed : Array Bool) (i : Nat), listed.size = ops.size → i < ops.size → listed.getD i true = listed.getD i false := by
  intro listed i h1 h2
  simp [Array.getD_eq_getD_getElem?, show i < listed.size by omega]
 have hready : ∀ (listed : Array Bool), listed.size = ops.size → ∀ i, i ∈ Region.ready .any ops listed ↔ i < ops.size ∧ listed.getD i false = false ∧ ∀ o, ops[i]? = some o → ∀ e ∈ o.after, Region.binds .any e = true → listed.getD e.on false = true := by
  intro listed hsz i
  unfold Region.ready
  rw [List.mem_filter, List.mem_range]
  constructor
  ·rintro ⟨hi, h⟩
   rw [hget listed i hsz hi] at h
   simp only [Bool.and_eq_true, Bool.not_eq_true', Array.getElem?_eq_getElem hi, Option.map_some, Option.getD_some, Array.all_eq_true_iff_forall_mem, Bool.or_eq_true] at h
   refine ⟨hi, h.1, fun o ho e he hb => ?_⟩
   rw [Array.getElem?_eq_getElem hi, Option.some.injEq] at ho
   subst ho
   have := h.2 e he
   rw [hb] at this
   simpa using this
  ·rintro ⟨hi, h1, h2⟩
   refine ⟨hi, ?_⟩
   rw [hget listed i hsz hi]
   simp only [Bool.and_eq_true, Bool.not_eq_true', Array.getElem?_eq_getElem hi, Option.map_some, Option.getD_some, Array.all_eq_true_iff_forall_mem, Bool.or_eq_true]
   refine ⟨h1, fun e he => ?_⟩
   cases hb : Region.binds .any e with
   | false => exact .inl rfl
   | true => exact .inr (h2 _ (Array.getElem?_eq_getElem hi) e he hb)
 have stuck : ∀ (listed : Array Bool), listed.size = ops.size → Region.ready .any ops listed = [] → ∀ i, i < ops.size → listed.getD i false = true := by
  intro listed hsz hr i
  induction i using Nat.strongRecOn with
  | _ i ih =>
   intro hi
   cases hL : listed.getD i false with
   | true => rfl
   | false =>
    have : i ∈ Region.ready .any ops listed := (hready listed hsz i).2 ⟨hi, hL, fun o ho e he hb => by
     have := edgesOk_spec hok ho he hb
     exact ih e.on this (by omega)⟩
    rw [hr] at this
    cases this
 intro fuel
 induction fuel with
 | zero =>
  intro listed a w hsz hlen hcl H
  have hall : ∀ i, i < ops.size → listed.getD i false = true := by
   intro i hi
   cases hL : listed.getD i false with
   | true => rfl
   | false =>
    have hmem : i ∈ (List.range ops.size).filter fun j => !listed.getD j false := List.mem_filter.2 ⟨List.mem_range.2 hi, by simp [hL]⟩
    have := List.length_pos_of_mem hmem
    omega
  refine ⟨?_, allDone listed a w hall H⟩
  cases hr : Region.ready .any ops listed with
  | nil => rfl
  | cons i l =>
   have := (hready listed hsz i).1 (by rw [hr]; simp)
   rw [hall i this.1] at this
   cases this.2.1
 | succ fuel ih =>
  intro listed a w hsz hlen hcl H
  refine ⟨fun hr => allDone listed a w (stuck listed hsz hr) H, fun i hi => ?_⟩
  obtain ⟨hi1, hi2, hi3⟩ := (hready listed hsz i).1 hi
  obtain ⟨o, ho, hstep, hF⟩ := hT.step i hi1
  have hdep : ∀ j, ((Region.before ops).getD i 0).testBit j = true → listed.getD j false = true := by
   intro j hj
   obtain ⟨o', ho', e, he, hb, h⟩ := before_bit hok hj
   have h1 := hi3 o' ho' e he hb
   rcases h with rfl | h
   ·exact h1
   ·exact hcl _ h1 _ h
  have hfoot : ∀ s ∈ foot ops o (E i), mix (E 0) U (fun j => listed.getD j false) ops.size s = E i s := fun s hs =>
   mix_foot (bef := fun j i => ((Region.before ops).getD j 0).testBit i) hT.next hA hcl hi1 hi2 hdep (by rw [hF]; exact hs)
  have hstep' : stepO P Φ keep ops (rid + 1) i o (mix (E 0) U (fun j => listed.getD j false) ops.size) = some (U i) := by
   rw [stepO_congr hfoot]; exact hstep
  have hget2 : ∀ j, (listed.setIfInBounds i true).getD j false = (listed.getD j false || j == i) := by
   intro j
   simp only [Array.getD_eq_getD_getElem?, Array.getElem?_setIfInBounds]
   by_cases hj : i = j
   ·subst hj; simp [show i < listed.size by omega]
   ·have : (j == i) = false := by simp; omega
    simp [hj, this]
  refine wpOp_step ho hM H (by simp [seen, hi2]) (fun d hd' => hd o (Array.mem_toList_iff.2 (Array.mem_of_getElem? ho)) d hd') hstep' fun a' w' H' => ?_
  refine ih (listed.setIfInBounds i true) a' w' (by simp [hsz]) ?_ ?_ ?_
  ·have hlt : ((List.range ops.size).filter fun j => !(listed.setIfInBounds i true).getD j false).length < ((List.range ops.size).filter fun j => !listed.getD j false).length := by
    have he : ((List.range ops.size).filter fun j => !(listed.setIfInBounds i true).getD j false) = ((List.range ops.size).filter fun j => !listed.getD j false).filter fun j => !(j == i) := by
     rw [List.filter_filter]
     refine List.filter_congr fun j _ => ?_
     rw [hget2]
     cases listed.getD j false <;> cases (j == i) <;> rfl
    rw [he, List.length_filter_lt_length_iff_exists]
    exact ⟨i, List.mem_filter.2 ⟨List.mem_range.2 hi1, by simp [hi2]⟩, by simp⟩
   omega
  ·intro j hj k hk
   rw [hget2] at hj ⊢
   rw [Bool.or_eq_true] at hj ⊢
   rcases hj with hj | hj
   ·exact .inl (hcl j hj k hk)
   ·have : j = i := by simpa using hj
    subst this
    exact .inl (hdep k hk)
  ·have hmix := mix_add (E0 := E 0) (bef := fun j i => ((Region.before ops).getD j 0).testBit i) hA hcl hi1 hi2
   have hfun : (fun j => (listed.setIfInBounds i true).getD j false) = fun j => (listed.getD j false || j == i) := funext hget2
   rw [hfun, hmix]
   obtain ⟨⟨Fz, ob, I⟩, h2, hlt, h3, h4⟩ := H'
   refine ⟨⟨Fz, ob, I.weaken fun s hs => ?_⟩, h2, hlt, h3, h4⟩
   rcases hs with hs | rfl
   ·rcases hs with hs | ⟨hs, hj⟩
    ·exact .inl hs
    ·have hj : listed.getD s.2 false = true := hj
     exact .inr ⟨hs, by show (listed.setIfInBounds i true).getD s.2 false = true; rw [hget2, hj]; rfl⟩
   ·exact .inr ⟨rfl, by show (listed.setIfInBounds i true).getD i false = true; rw [hget2]; simp⟩
theorem wp_region_drawn {ops : Array Oper} {rid id : Nat} (hm : P.follows .mixedOrders = true) (hM : ∀ g, Meets P g (Φ g)) (hd : ∀ o ∈ ops.toList, ∀ d, o.dst = some d → d < C.nt ∧ ¬ C.K d) (hok : edgesOk ops = true)
  {Q : Exit → Act → World → Prop} {e eN : List (Nat × PV)} {lg : List (List Nat × List Nat)}
  (h : runLog P Φ keep ops (rid + 1) 0 ops.toList e = some (eN, lg)) (hap : apartB ops lg = true) (H : Sat C (fun s => s.1 ≤ rid) (lookup e) a w)
  (hQ : ∀ a w, Sat C (fun s => s.1 ≤ rid + 1) (lookup eN) a w → Q .normal a w) : (Code.region id ops true).wp P Q a w := by
 refine wp_region_any hm ?_
 obtain ⟨h0, E, U, h1, h2, h3⟩ := runLog_trace ops.toList 0 e eN lg rfl h
 rw [Nat.zero_add] at h2
 have hlen : ops.toList.length = ops.size := Array.length_toList
 rw [hlen] at h2 h3
 have hlg : ∀ i, i < ops.size → lg[i]? = some ((fun k => ((lg[k]?).map (·.1)).getD []) i, (U i).map (·.1)) := by
  intro i hi
  obtain ⟨o, _, _, h4, _⟩ := h3 i (Nat.zero_le _) (by omega)
  rw [Nat.sub_zero] at h4
  simp [h4]
 have hT : Trace P Φ keep ops (rid + 1) ops.size E U (fun k => ((lg[k]?).map (·.1)).getD []) := by
  refine ⟨fun i hi => ?_, fun i hi => ?_⟩
  ·obtain ⟨o, k1, k2, k3, _⟩ := h3 i (Nat.zero_le _) (by omega)
   rw [Nat.sub_zero] at k3
   exact ⟨o, k1, k2, by simp [k3]⟩
  ·obtain ⟨_, _, _, _, k4⟩ := h3 i (Nat.zero_le _) (by omega)
   exact k4
 have hz : ∀ j, (Array.replicate ops.size false).getD j false = false := by
  intro j
  rw [Array.getD_eq_getD_getElem?, Array.getElem?_replicate]
  split <;> rfl
 refine wpAny_draw hM hd hok hT (apartB_spec hap hlg) (fun a w H => hQ a w (by rwa [← h2])) ops.size _ a _ (by simp) ?_ (fun j hj => by rw [hz] at hj; cases hj) ?_
 ·have := List.length_filter_le (fun j => !(Array.replicate ops.size false).getD j false) (List.range ops.size)
  rwa [List.length_range] at this
 ·rw [mix_none _ hz, h1]
  obtain ⟨⟨Fz, ob, I⟩, k2, klt, k3, k4⟩ := H.drawn (w.drawn + 1)
  exact ⟨⟨Fz, ob, I.weaken fun s hs => .inl hs⟩, k2, klt, k3, k4⟩
end
end Go.PE
namespace Go.PE
open Go.RowKit
section
variable {P : Program} {C : Ctx} {B : Base} {Fz : Nat → Prop} {e : Env} {tm : Tm} {ob : Nat → List Nat} {a : Act} {w : World} {S S' : Stamp → Prop}
variable {Φ : FuncId → List PV → Option (PV × List (List PV))} {keep : List Nat}
theorem lookup_map (f : Nat → PV) : ∀ (l : List Nat) (s : Nat), lookup (l.map fun s => (s, f s)) s = if l.contains s then f s else .dead
 | [], s => rfl
 | t :: l, s => by
  rw [List.map_cons, lookup, lookup_map f l s]
  by_cases h : s = t
  ·subst h; simp
  ·simp [h]
theorem lookup_canon (live : List Nat) (e : Env) (s : Nat) : lookup (canon live e) s = if live.contains s then canonV live e (e s) else .dead := lookup_map (fun s => canonV live e (e s)) live s
def owns : PV → Bool
 | .own .. | .box .. => true
 | _ => false
theorem rowIf_canonV {live : List Nat} {v : PV} {pl : Option Nat} {st : Stamp} {sz : Nat} {xs : List (List PV)} (h : rowIf v pl st = some (sz, xs)) {sz' : Nat} {xs' : List (List PV)}
  (h' : rowIf (canonV live e v) pl (0, 0) = some (sz', xs')) : sz' = sz ∧ xs' = xs := by
 have h := rowIf_stamp h
 have h' := rowIf_stamp h'
 unfold rowAt? at h
 split at h
 ·simp only [Option.some.injEq, Prod.mk.injEq] at h
  obtain ⟨rfl, rfl, rfl⟩ := h
  simp only [canonV, rowAt?, Option.some.injEq, Prod.mk.injEq] at h'
  exact ⟨h'.2.1.symm, h'.2.2.symm⟩
 ·split at h
  ·rename_i hc
   simp only [Option.some.injEq, Prod.mk.injEq] at h
   obtain ⟨rfl, rfl, rfl⟩ := h
   simp only [canonV, rowAt?, List.getElem?_map, hc, Option.map_some, stC, Option.some.injEq, Prod.mk.injEq] at h'
   exact ⟨h'.2.1.symm, h'.2.2.symm⟩
  ·cases h
 ·cases h
theorem slotRep_ref {s : Nat} {v : PV} (h : e s = v) (hr : isRef v = true) (h1 : RefV w e tm (tm s) v) : SlotRep w Fz e tm s [] := by
 unfold SlotRep
 rw [h, if_pos hr]
 exact ⟨rfl, h1⟩
theorem slotRep_own {s : Nat} {v : PV} {bs : List Nat} (h : e s = v) (hr : isRef v = false) (h1 : Rep w Fz (tm s) v bs) : SlotRep w Fz e tm s bs := by
 unfold SlotRep
 rw [h, if_neg (by simp [hr])]
 exact h1
theorem Inv.canon (I : Inv B Fz e tm w ob S) (live : List Nat) : ∃ ob', Inv B Fz (lookup (PE.canon live e)) tm w ob' (fun s => s.1 ≤ 0) := by
 refine ⟨fun s => if live.contains s && owns (e s) then ob s else [], ?_⟩
 have hsub : ∀ s b, b ∈ (if live.contains s && owns (e s) then ob s else []) → b ∈ ob s := by
  intro s b hb
  split at hb
  ·exact hb
  ·cases hb
 refine { rep := ?_, nodup := ?_, disj := ?_, notFz := ?_, lt := ?_, glob := I.glob, fzlt := I.fzlt, mine := ?_, fz0 := I.fz0, fzo := I.fzo, stamps := ?_, os := I.os, tape := I.tape, output := I.output, size := I.size, frame := I.frame }
 ·intro s
  by_cases hs : live.contains s = true
  ·have hv : lookup (PE.canon live e) s = canonV live e (e s) := by rw [lookup_canon, if_pos hs]
   have hdead : canonV live e (e s) = .dead → owns (e s) = false → SlotRep w Fz (lookup (PE.canon live e)) tm s (if live.contains s && owns (e s) then ob s else []) := fun h1 h2 => by
    rw [h2, Bool.and_false]
    exact slotRep_ref (hv.trans h1) rfl trivial
   have hrefc : ∀ v, canonV live e (e s) = v → isRef v = true → owns (e s) = false → RefV w (lookup (PE.canon live e)) tm (tm s) v → SlotRep w Fz (lookup (PE.canon live e)) tm s (if live.contains s && owns (e s) then ob s else []) := fun v h1 h0 h2 h3 => by
    rw [h2, Bool.and_false]
    exact slotRep_ref (hv.trans h1) h0 h3
   have hplain : ∀ v, canonV live e (e s) = v → isRef v = false → owns (e s) = false → Rep w Fz (tm s) v [] → SlotRep w Fz (lookup (PE.canon live e)) tm s (if live.contains s && owns (e s) then ob s else []) := fun v h1 h0 h2 h3 => by
    rw [h2, Bool.and_false]
    exact slotRep_own (hv.trans h1) h0 h3
   have hown : ∀ v, canonV live e (e s) = v → isRef v = false → owns (e s) = true → Rep w Fz (tm s) v (ob s) → SlotRep w Fz (lookup (PE.canon live e)) tm s (if live.contains s && owns (e s) then ob s else []) := fun v h1 h0 h2 h3 => by
    rw [h2, hs]
    exact slotRep_own (hv.trans h1) h0 h3
   cases he : e s with
   | loc r st o =>
    rw [← he]
    by_cases hr : live.contains r = true
    ·cases her : e r with
     | box st' cs =>
      by_cases hst : st' = st
      ·subst hst
       refine hrefc (.loc r (0, 0) o) (by rw [he]; simp only [canonV, hr, her, if_true]) rfl (by rw [he]; rfl) fun cs' h => ?_
       have href := I.ref s (by rw [he]; rfl)
       rw [he] at href
       exact href cs her
      ·exact hdead (by rw [he]; simp only [canonV, hr, her, if_true, if_neg hst]) (by rw [he]; rfl)
     | _ => exact hdead (by rw [he]; simp only [canonV, hr, her, if_true]) (by rw [he]; rfl)
    ·exact hdead (by rw [he]; simp only [canonV, if_neg hr]) (by rw [he]; rfl)
   | snap r pl st off len =>
    rw [← he]
    by_cases hr : live.contains r = true
    ·cases hrow : rowIf (e r) pl st with
     | some q =>
      obtain ⟨sz0, xs0⟩ := q
      refine hrefc (.snap r pl (0, 0) off len) (by rw [he]; simp only [canonV, hr, hrow, if_true]) rfl (by rw [he]; rfl) fun sz xs h => ?_
      rw [lookup_canon, if_pos hr] at h
      obtain ⟨rfl, rfl⟩ := rowIf_canonV hrow h
      have href := I.ref s (by rw [he]; rfl)
      rw [he] at href
      exact href _ _ hrow
     | none => exact hdead (by rw [he]; simp only [canonV, hr, hrow, if_true]) (by rw [he]; rfl)
    ·exact hdead (by rw [he]; simp only [canonV, if_neg hr]) (by rw [he]; rfl)
   | eloc => rw [← he]; exact hdead (by rw [he]; rfl) (by rw [he]; rfl)
   | dead => rw [← he]; exact hdead (by rw [he]; rfl) (by rw [he]; rfl)
   | own st sz xs =>
    have hR := I.slot s (by rw [he]; rfl)
    rw [he] at hR
    rw [← he]
    exact hown _ (by rw [he]; rfl) rfl (by rw [he]; rfl) (hR.stC (0, 0))
   | box st cs =>
    have hR := I.slot s (by rw [he]; rfl)
    rw [he] at hR
    rw [← he]
    exact hown _ (by rw [he]; rfl) rfl (by rw [he]; rfl) (hR.restamp (0, 0) (0, 0))
   | nils sz =>
    have hR := I.slot s (by rw [he]; rfl)
    rw [he] at hR
    rw [← he]
    refine hplain (.own (0, 0) sz []) (by rw [he]; rfl) rfl (by rw [he]; rfl) ?_
    have := hR.imm rfl
    generalize tm s = val at this
    cases this
    exact .ownNil (0, 0) sz
   | agg cs =>
    have hR := I.slot s (by rw [he]; rfl)
    rw [he] at hR
    rw [← he]
    refine hplain (.agg cs) (by rw [he]; rfl) rfl (by rw [he]; rfl) ?_
    generalize tm s = val at hR
    generalize ob s = obs at hR
    cases hR with
    | plain h => cases h
    | agg arr _ h => exact .agg arr cs h
   | tup vs =>
    cases vs with
    | nil =>
     have hR := I.slot s (by rw [he]; rfl)
     rw [he] at hR
     rw [← he]
     refine hplain (.tup []) (by rw [he]; rfl) rfl (by rw [he]; rfl) ?_
     generalize tm s = val at hR
     generalize ob s = obs at hR
     cases hR with
     | plain h => cases h
     | tup arr _ _ h =>
      refine .tup arr [] [] ?_
      generalize arr.toList = l at h
      cases h
      exact .nil
    | cons v vs => rw [← he]; exact hdead (by rw [he]; rfl) (by rw [he]; rfl)
   | self t => rw [← he]; exact hplain (.self t) (by rw [he]; rfl) rfl (by rw [he]; rfl) (.self _ t)
   | bnil t => rw [← he]; exact hplain (.bnil t) (by rw [he]; rfl) rfl (by rw [he]; rfl) (.bnil _ t)
   | _ =>
    have hR := I.slot s (by rw [he]; rfl)
    rw [he] at hR
    rw [← he]
    exact hplain _ (by rw [he]; rfl) rfl (by rw [he]; rfl) (.plain (hR.imm rfl))
  ·have : live.contains s = false := by simpa using hs
   rw [this]
   exact slotRep_ref (v := .dead) (by rw [lookup_canon, if_neg hs]) rfl trivial
 ·intro s
  split
  ·exact I.nodup s
  ·exact List.nodup_nil
 ·intro s t hne b hb hb'
  exact I.disj s t hne b (hsub s b hb) (hsub t b hb')
 ·intro s b hb; exact I.notFz s b (hsub s b hb)
 ·intro s b hb; exact I.lt s b (hsub s b hb)
 ·intro s b hb; exact I.mine s b (hsub s b hb)
 ·intro s st hst
  rw [lookup_canon] at hst
  split at hst
  ·have hz : st = (0, 0) := by
    cases he : e s with
    | own => rw [he] at hst; simpa [canonV, stampsOf, stamps1] using hst
    | nils => rw [he] at hst; simpa [canonV, stampsOf, stamps1] using hst
    | box st0 cs =>
     rw [he] at hst
     rcases stamps_boxC (0, 0) (0, 0) cs st (by simpa [canonV, stampsOf] using hst) with h | h <;> exact h
    | loc r st0 o =>
     rw [he] at hst
     simp only [canonV] at hst
     split at hst
     ·split at hst
      ·split at hst
       ·simpa [stampsOf] using hst
       ·simp [stampsOf, stamps1] at hst
      ·simp [stampsOf, stamps1] at hst
     ·simp [stampsOf, stamps1] at hst
    | snap r pl st0 off len =>
     rw [he] at hst
     simp only [canonV] at hst
     split at hst
     ·split at hst
      ·simpa [stampsOf] using hst
      ·simp [stampsOf, stamps1] at hst
     ·simp [stampsOf, stamps1] at hst
    | tup vs =>
     rw [he] at hst
     cases vs <;> simp [canonV, stampsOf, stamps1] at hst
    | _ => rw [he] at hst; simp [canonV, stampsOf, stamps1] at hst
   rw [hz]
   exact Nat.le_refl _
  ·simp [stampsOf, stamps1] at hst
theorem Sat.canon (H : Sat C S e a w) (live : List Nat) : Sat C (fun s => s.1 ≤ 0) (lookup (PE.canon live e)) a w := by
 obtain ⟨⟨Fz, ob, I⟩, h2, hlt, h3, h4⟩ := H
 obtain ⟨ob', I'⟩ := I.canon live
 exact ⟨⟨Fz, ob', I'⟩, h2, hlt, h3, h4⟩
def dstsOk (nt : Nat) (ks : List Nat) (ops : Array Oper) : Bool := ops.toList.all fun o => match o.dst with | some d => decide (d < nt) && !ks.contains d | none => true
def codeOK (nt : Nat) (ks : List Nat) : Code → Bool
 | .region _ ops draw => dstsOk nt ks ops && (!draw || edgesOk ops)
 | .seq x y | .cond _ x y => codeOK nt ks x && codeOK nt ks y
 | .block _ c | .loop c => codeOK nt ks c
 | _ => true
theorem dstsOk_spec {nt : Nat} {ks : List Nat} {ops : Array Oper} (h : dstsOk nt ks ops = true) : ∀ o ∈ ops.toList, ∀ d, o.dst = some d → d < nt ∧ ¬ d ∈ ks := by
 intro o ho d hd
 unfold dstsOk at h
 rw [List.all_eq_true] at h
 have := h o ho
 rw [hd] at this
 simpa using this
def exitOf : Ex → Exit
 | .normal => .normal
 | .exit id => .exit id
 | .ret => .ret
theorem least {p : Nat → Prop} (h : ∃ n, p n) : ∃ n, p n ∧ ∀ m, p m → n ≤ m := by
 obtain ⟨n, hn⟩ := h
 induction n using Nat.strongRecOn with
 | _ n ih =>
  by_cases h : ∃ m, m < n ∧ p m
  ·obtain ⟨m, hm, hp⟩ := h
   exact ih m hm hp
  ·exact ⟨n, hn, fun m hm => by
    rcases Nat.lt_or_ge m n with hlt | hge
    ·exact absurd ⟨m, hlt, hm⟩ h
    ·exact hge⟩
open Classical in
noncomputable def leastOf (p : Nat → Prop) : Nat := if h : ∃ n, p n then (least h).choose else 0
theorem leastOf_spec {p : Nat → Prop} (h : ∃ n, p n) : p (leastOf p) ∧ ∀ m, p m → leastOf p ≤ m := by
 unfold leastOf
 rw [dif_pos h]
 exact (least h).choose_spec
theorem code_sound (hm : P.follows .mixedOrders = true) (hM : ∀ g, Meets P g (Φ g)) {ks : List Nat} (hK : C.K = fun t => t ∈ ks) (lv : Nat → List Nat) (n : Nat) :
  ∀ (c : Code) (b : Nat) (Q : Exit → Act → World → Prop) (rid rid' : Nat) (e e' : List (Nat × PV)) (ex : Ex) (a : Act) (w : World), codeOK C.nt ks c = true → exec P Φ keep lv n b c (rid, e) = some (ex, rid', e') →
   Sat C (fun s => s.1 ≤ rid) (lookup e) a w → (∀ a w, Sat C (fun s => s.1 ≤ rid') (lookup e') a w → Q (exitOf ex) a w) → c.wp P Q a w := by
 intro c
 induction c with
 | skip =>
  intro b Q rid rid' e e' ex a w hc h H hQ
  simp only [exec, Option.some.injEq, Prod.mk.injEq] at h
  obtain ⟨rfl, rfl, rfl⟩ := h
  exact wp_skip (hQ a w H)
 | region id ops draw =>
  intro b Q rid rid' e e' ex a w hc h H hQ
  simp only [codeOK, Bool.and_eq_true] at hc
  have hd : ∀ o ∈ ops.toList, ∀ d, o.dst = some d → d < C.nt ∧ ¬ C.K d := fun o ho d hd => by rw [hK]; exact dstsOk_spec hc.1 o ho d hd
  cases draw with
  | true =>
   simp only [exec, if_true] at h
   split at h
   ·rename_i e1 l hl
    split at h
    ·rename_i hap
     simp only [Option.some.injEq, Prod.mk.injEq] at h
     obtain ⟨rfl, rfl, rfl⟩ := h
     exact wp_region_drawn hm hM hd (by simpa using hc.2) hl hap H hQ
    ·cases h
   ·cases h
  | false =>
   simp only [exec, Bool.false_eq_true, if_false] at h
   split at h
   ·rename_i e1 hl
    simp only [Option.some.injEq, Prod.mk.injEq] at h
    obtain ⟨rfl, rfl, rfl⟩ := h
    exact wp_region_text hM hd hl H hQ
   ·cases h
 | seq x y ihx ihy =>
  intro b Q rid rid' e e' ex a w hc h H hQ
  simp only [codeOK, Bool.and_eq_true] at hc
  simp only [exec] at h
  refine wp_seq ?_
  split at h
  ·rename_i s' hx
   obtain ⟨rid1, e1⟩ := s'
   exact ihx b _ rid rid1 e e1 .normal a w hc.1 hx H fun a1 w1 H1 => ihy b Q rid1 rid' e1 e' ex a1 w1 hc.2 h H1 hQ
  ·rename_i hne
   refine ihx b _ rid rid' e e' ex a w hc.1 h H fun a1 w1 H1 => ?_
   cases ex with
   | normal => exact absurd h (hne _)
   | exit id => exact hQ a1 w1 H1
   | ret => exact hQ a1 w1 H1
 | cond c x y ihx ihy =>
  intro b Q rid rid' e e' ex a w hc h H hQ
  simp only [codeOK, Bool.and_eq_true] at hc
  simp only [exec] at h
  split at h
  ·rename_i t ht
   obtain ⟨Fz, ob, I⟩ := H.inv
   have hv := I.bool (x := c) (b := t) ht
   refine wp_cond hv ?_
   cases t with
   | true => exact ihx b Q rid rid' e e' ex a w hc.1 (by simpa using h) H hQ
   | false => exact ihy b Q rid rid' e e' ex a w hc.2 (by simpa using h) H hQ
  ·cases h
 | block id c ih =>
  intro b Q rid rid' e e' ex a w hc h H hQ
  simp only [codeOK] at hc
  simp only [exec] at h
  refine wp_block ?_
  split at h
  ·rename_i id' s' hx
   obtain ⟨rid1, e1⟩ := s'
   split at h
   ·rename_i hid
    subst hid
    simp only [Option.some.injEq, Prod.mk.injEq] at h
    obtain ⟨rfl, rfl, rfl⟩ := h
    refine ih id' _ rid rid1 e e1 (.exit id') a w hc hx H fun a1 w1 H1 => ?_
    simpa [exitOf, Exit.inBlock] using hQ a1 w1 H1
   ·rename_i hid
    simp only [Option.some.injEq, Prod.mk.injEq] at h
    obtain ⟨rfl, rfl, rfl⟩ := h
    refine ih id _ rid rid1 e e1 (.exit id') a w hc hx H fun a1 w1 H1 => ?_
    simpa [exitOf, Exit.inBlock, hid] using hQ a1 w1 H1
  ·rename_i hne
   refine ih id _ rid rid' e e' ex a w hc h H fun a1 w1 H1 => ?_
   cases ex with
   | normal => simpa [exitOf, Exit.inBlock] using hQ a1 w1 H1
   | exit id' => exact absurd h (hne _ _)
   | ret => simpa [exitOf, Exit.inBlock] using hQ a1 w1 H1
 | loop c ih =>
  intro b Q rid rid' e e' ex a w hc h H hQ
  simp only [codeOK] at hc
  simp only [exec] at h
  let J : Nat → Act → World → Prop := fun m a w => ∃ e0, loopN (fun e => exec P Φ keep lv n b c (0, e)) (lv b) m e0 = some (ex, rid', e') ∧ Sat C (fun s => s.1 ≤ 0) (lookup e0) a w
  refine wp_loop (fun a w => ∃ m, J m a w) (fun a w => leastOf fun m => J m a w) ⟨n, _, h, H.canon (lv b)⟩ fun a1 w1 H1 => ?_
  obtain ⟨⟨e0, h0, H0⟩, hleast⟩ := leastOf_spec H1
  generalize hm0 : (leastOf fun m => J m a1 w1) = m0 at h0 hleast
  cases m0 with
  | zero => simp [loopN] at h0
  | succ m =>
   simp only [loopN] at h0
   split at h0
   ·rename_i rid2 e2 hb
    refine ih b _ 0 rid2 e0 e2 .normal a1 w1 hc hb H0 fun a2 w2 H2 => ?_
    have hJ : J m a2 w2 := ⟨_, h0, H2.canon (lv b)⟩
    have hle := (leastOf_spec (p := fun m => J m a2 w2) ⟨m, hJ⟩).2 m hJ
    exact ⟨⟨m, hJ⟩, by show leastOf (fun m => J m a2 w2) < _; omega⟩
   ·rename_i hne
    refine ih b _ 0 rid' e0 e' ex a1 w1 hc h0 H0 fun a2 w2 H2 => ?_
    cases ex with
    | normal => exact absurd h0 (hne _ _)
    | exit id => exact hQ a2 w2 H2
    | ret => exact hQ a2 w2 H2
 | exit id =>
  intro b Q rid rid' e e' ex a w hc h H hQ
  simp only [exec, Option.some.injEq, Prod.mk.injEq] at h
  obtain ⟨rfl, rfl, rfl⟩ := h
  exact wp_exit (hQ a w H)
 | ret =>
  intro b Q rid rid' e e' ex a w hc h H hQ
  simp only [exec, Option.some.injEq, Prod.mk.injEq] at h
  obtain ⟨rfl, rfl, rfl⟩ := h
  exact wp_ret (hQ a w H)
 | _ =>
  intro b Q rid rid' e e' ex a w hc h H hQ
  simp [exec] at h
end
end Go.PE
namespace Go.PE
open Go.RowKit
def resFrz (e : Env) : List ResultVar → Option Ups
 | [] => some []
 | .tmp _ :: l => resFrz e l
 | .cell t _ :: l => match e t, resFrz e l with
  | .box _ cells, some u => if (cells.map frzO).all okC then some ((t, .iptr (cells.map frzO) 0) :: u) else none
  | _, _ => none
def resVal (P : Program) (e : Env) : ResultVar → Option PV
 | .tmp t => if isRef (opv e (.tmp t)) then none else some (opv e (.tmp t))
 | .cell t ty => match opv e (.tmp t), sizeT P ty, isAggT P ty with
  | .iptr cs 0, some n, some ag => if (ag = true ∨ n = 1) ∧ cs.length = n then (if ag then some (.agg cs) else cs.head?) else none
  | _, _, _ => none
def resSlots : List ResultVar → List Nat
 | [] => []
 | .tmp t :: l => t :: resSlots l
 | .cell .. :: l => resSlots l
def resVals (P : Program) (e : Env) : List ResultVar → Option (List PV)
 | [] => some []
 | r :: l => match resVal P e r, resVals P e l with
  | some v, some vs => some (v :: vs)
  | _, _ => none
def one (rs : List PV) : PV := match rs with | [r] => r | rs => .tup rs
def boxPosFrom : Nat → List PV → List Nat
 | _, [] => []
 | i, .box .. :: l => i :: boxPosFrom (i + 1) l
 | i, _ :: l => boxPosFrom (i + 1) l
def boxPos (avs : List PV) : List Nat := boxPosFrom 0 avs
def outsOf (e : Env) : List Nat → Option (List (List PV))
 | [] => some []
 | i :: l => match e i, outsOf e l with
  | .box _ cs, some os => some (cs :: os)
  | _, _ => none
def frzT : PV → PV
 | .tup vs => .tup (vs.map frzC)
 | v => v
def finish (P : Program) (rs : List ResultVar) (bp : List Nat) (e : Env) : Option (PV × List (List PV)) :=
 match resFrz e rs with
 | none => none
 | some u => match resVals P (apply u e) rs, outsOf (apply u e) bp with
  | some vs, some outs => if nodupB (u.map (·.1)) && nodupB (resSlots rs ++ bp) then some (frzT (stmo (0, 0) (one vs)), outs) else none
  | _, _ => none
def stamp0 (v : PV) : Bool := (stampsOf v).all fun s => s.1 == 0
def funcBody (P : Program) (Φ : FuncId → List PV → Option (PV × List (List PV))) (keep : List Nat) (lv : Nat → List Nat) (n nt : Nat) (c : Code) (rs : List ResultVar) (avs : List PV) : Option (PV × List (List PV)) :=
 if avs.length ≤ nt ∧ nt ≤ VS ∧ codeOK nt (boxPos avs) c = true ∧ avs.all stamp0 = true then
  match exec P Φ keep lv n 0 c (0, avs.zipIdx.map fun q => (q.2, q.1)) with
  | some (.exit _, _) => none
  | some (_, _, e) => finish P rs (boxPos avs) (lookup e)
  | none => none
 else none
def funcS (P : Program) (Φ : FuncId → List PV → Option (PV × List (List PV))) (keep : FuncId → List Nat) (lv : FuncId → Nat → List Nat) (n : Nat) (f : FuncId) (avs : List PV) : Option (PV × List (List PV)) :=
 match P.funcs[f]? with
 | none => none
 | some fn => match fn.body with
  | none => none
  | some c => if fn.name = "runtime.NumGoroutine" ∨ (wrB f || prB f) = true then none else funcBody P Φ (keep f) (lv f) n fn.ntmps c fn.results.toList avs
section
variable {P : Program} {C : Ctx} {B : Base} {Fz : Nat → Prop} {e : Env} {tm : Tm} {ob : Nat → List Nat} {a : Act} {w : World} {S S' : Stamp → Prop}
variable {Φ : FuncId → List PV → Option (PV × List (List PV))}
theorem Reps.blocks : ∀ {vs : List Value} {ps : List PV} {bs : List Nat}, Reps w Fz vs ps bs → bs.Nodup →
  ∃ g : Nat → List Nat, (∀ i v p, vs[i]? = some v → ps[i]? = some p → Rep w Fz v p (g i)) ∧ (∀ i, vs.length ≤ i → g i = []) ∧ (∀ i, (g i).Nodup) ∧ (∀ i j, i ≠ j → ∀ b ∈ g i, b ∉ g j) ∧ (∀ i, ∀ b ∈ g i, b ∈ bs)
 | _, _, _, .nil, _ => ⟨fun _ => [], fun i v p h => by simp at h, fun _ _ => rfl, fun _ => List.nodup_nil, fun _ _ _ b hb => (by cases hb), fun _ b hb => (by cases hb)⟩
 | _, _, _, .cons (b := b0) (bs := bs0) h hs, hnd => by
  rw [List.nodup_append] at hnd
  obtain ⟨g, h1, h2, h3, h4, h5⟩ := Reps.blocks hs hnd.2.1
  refine ⟨fun i => match i with | 0 => b0 | i + 1 => g i, fun i v p hv hp => ?_, fun i hi => ?_, fun i => ?_, fun i j hij x hx hy => ?_, fun i x hx => ?_⟩
  ·cases i with
   | zero =>
    simp only [List.getElem?_cons_zero, Option.some.injEq] at hv hp
    subst hv hp
    exact h
   | succ i => exact h1 i v p (by simpa using hv) (by simpa using hp)
  ·cases i with
   | zero => simp at hi
   | succ i => exact h2 i (by simpa using hi)
  ·cases i with
   | zero => exact hnd.1
   | succ i => exact h3 i
  ·cases i with
   | zero =>
    cases j with
    | zero => exact hij rfl
    | succ j => exact hnd.2.2 x hx x (h5 j x hy) rfl
   | succ i =>
    cases j with
    | zero => exact hnd.2.2 x hy x (h5 i x hx) rfl
    | succ j => exact h4 i j (fun h => hij (by rw [h])) x hx hy
  ·cases i with
   | zero => exact List.mem_append.2 (.inl hx)
   | succ i => exact List.mem_append.2 (.inr (h5 i x hx))
theorem lookup_args (avs : List PV) (s : Nat) : lookup (avs.zipIdx.map fun q => (q.2, q.1)) s = (avs[s]?).getD .dead := by
 have : ∀ (l : List PV) (k s : Nat), lookup ((l.zipIdx k).map fun q => (q.2, q.1)) s = if k ≤ s then (l[s - k]?).getD .dead else .dead := by
  intro l
  induction l with
  | nil => intro k s; simp [lookup]
  | cons v l ih =>
   intro k s
   rw [List.zipIdx_cons, List.map_cons, lookup, ih]
   by_cases h : s = k
   ·subst h; simp
   ·rw [if_neg h]
    by_cases hk : k ≤ s
    ·rw [if_pos (by omega), if_pos hk, show s - k = (s - (k + 1)) + 1 by omega, List.getElem?_cons_succ]
    ·rw [if_neg (by omega), if_neg hk]
 simpa using this avs 0 s
theorem Inv.resFrz {e0 : Env} : ∀ (l : List ResultVar) (u1 : Ups) (Fz : Nat → Prop) (ob : Nat → List Nat) (us : Ups),
  Inv B Fz (apply u1 e0) tm w ob S → FrzB e0 u1 → PE.resFrz e0 l = some us → ((u1 ++ us).map (·.1)).Nodup → ∃ Fz' ob', Inv B Fz' (apply (u1 ++ us) e0) tm w ob' S
 | [], u1, Fz, ob, us, I, hF, h, hnd => by
  simp only [PE.resFrz, Option.some.injEq] at h
  subst h
  rw [List.append_nil]
  exact ⟨Fz, ob, I⟩
 | .tmp _ :: l, u1, Fz, ob, us, I, hF, h, hnd => Inv.resFrz l u1 Fz ob us I hF h hnd
 | .cell t ty :: l, u1, Fz, ob, us, I, hF, h, hnd => by
  simp only [PE.resFrz] at h
  split at h
  ·rename_i st cells u het hl
   split at h
   ·rename_i hok
    cases h
    have hr : apply u1 e0 t = e0 t := apply_other u1 e0 t fun q hq hqr => by
     rw [List.map_append, List.nodup_append] at hnd
     exact hnd.2.2 q.1 (List.mem_map.2 ⟨q, hq, rfl⟩) t (by simp) hqr
    obtain ⟨I1, _⟩ := I.freezeBox (r := t) (hr.trans het) hok
    have hap : apply (u1 ++ [(t, .iptr (cells.map frzO) 0)]) e0 = upd (apply u1 e0) t (.iptr (cells.map frzO) 0) := by rw [apply_append]; rfl
    rw [← hap] at I1
    have := Inv.resFrz l (u1 ++ [(t, .iptr (cells.map frzO) 0)]) _ _ u I1 (fun q hq => by
     rcases List.mem_append.1 hq with hq | hq
     ·exact hF q hq
     ·simp only [List.mem_singleton] at hq
      subst hq
      exact ⟨st, cells, het⟩) hl (by simpa using hnd)
    simpa using this
   ·cases h
  ·cases h
theorem Imm.ptr {v : Value} {cs : List PV} (h : Imm w Fz v (.iptr cs 0)) : ∃ ad vs, v = .pointer (some ad) ∧ vs.length = cs.length ∧ (∀ (j : Nat) u, vs[j]? = some u → w.cell? (ad.add j) = some u) ∧ ImmL w Fz vs cs := by
 cases h with
 | iptr ad _ _ c hcell hr =>
  have hz : ad.add 0 = ad := by unfold Addr.add; split <;> simp_all
  refine ⟨ad, (List.range cs.length).map c, by rw [hz], by simp, fun j u hu => ?_, by simp, fun j u q hu hq => ?_⟩
  ·rw [List.getElem?_map] at hu
   obtain ⟨k, hk, rfl⟩ := Option.map_eq_some_iff.1 hu
   by_cases hj : j < cs.length
   ·rw [List.getElem?_range hj, Option.some.injEq] at hk
    subst hk
    exact (hcell j _ (List.getElem?_eq_getElem hj)).2
   ·rw [List.getElem?_eq_none (by simpa using hj)] at hk
    cases hk
  ·have hj : j < cs.length := (List.getElem?_eq_some_iff.1 hq).1
   rw [List.getElem?_map, List.getElem?_range hj, Option.map_some, Option.some.injEq] at hu
   subst hu
   exact hr j q hq
end
end Go.PE
