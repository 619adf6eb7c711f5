/-
  A part of the proof that the law's function returns true and leaves its arguments as they were, for every input (no condition): own lemmas of the proof, in the order of their use.
-/
import Derived.Test.YtkfppicmdgbfjaaGreatDoorU07
set_option linter.all false
namespace Go.PE
open Go.RowKit
section
variable {P : Program} {B : Base} {Fz : Nat → Prop} {e : Env} {a : Act} {tm : Tm} {w : World} {ob : Nat → List Nat} {S S' : Stamp → Prop} {p : Stamp}
theorem Rep.restamp {u : Value} {cs : List PV} {st0 : Stamp} {bs : List Nat} (h : Rep w Fz u (.box st0 cs) bs) (st p : Stamp) : Rep w Fz u (.box st (cs.map (PE.stC p))) bs := by
  have h' := h.st1 p
  simp only [PE.st1] at h'
  cases h' with
  | plain h2 => cases h2
  | box g arr ty _ _ bs hg hr hc => exact .box g arr ty st _ bs hg hr hc
theorem ArgsRel.boxes {vs : List Value} {ps : List PV} {bs : List (Nat × Stamp)} (h : ArgsRel w Fz tm e vs ps bs) : ∀ q ∈ bs, ∃ cs, e q.1 = .box q.2 cs := by
  induction h with
  | nil => simp
  | plain _ _ ih => exact ih
  | box he _ ih =>
    intro q hq
    rcases List.mem_cons.1 hq with rfl | hq
    · exact ⟨_, he⟩
    · exact ih q hq
theorem backS_split {w' : World} {Fz' : Nat → Prop} : ∀ {bs : List (Nat × Stamp)} {outs : List (List PV)} {ub : Ups} {bss : List Nat}, backS p bs outs = some ub →
    Reps w' Fz' (bs.map fun q => tm q.1) (outs.map (PV.box (0, 0))) bss →
    ∃ L : List Back, L.map (·.slot) = bs.map (·.1) ∧ L.map (fun q => (q.slot, q.pv)) = ub ∧ L.flatMap (·.bs) = bss ∧
      ∀ q ∈ L, q.val = tm q.slot ∧ Rep w' Fz' q.val q.pv q.bs ∧ ∃ (st : Stamp) (cs : List PV), (q.slot, st) ∈ bs ∧ q.pv = .box st (cs.map (stC p))
  | [], [], ub, bss, h, hr => by
    simp only [backS, Option.some.injEq] at h
    subst h
    cases hr
    exact ⟨[], rfl, rfl, rfl, by simp⟩
  | [], _ :: _, ub, bss, h, hr => by simp [backS] at h
  | (r, st) :: bs, [], ub, bss, h, hr => by simp [backS] at h
  | (r, st) :: bs, cs :: os, ub, bss, h, hr => by
    simp only [backS] at h
    obtain ⟨ub', h1, rfl⟩ := Option.map_eq_some_iff.1 h
    rw [List.map_cons, List.map_cons] at hr
    cases hr with
    | @cons _ _ _ _ b bs' hR hs =>
      obtain ⟨L, k1, k2, k3, k4⟩ := backS_split h1 hs
      refine ⟨⟨r, .box st (cs.map (stC p)), tm r, b⟩ :: L, by simp [k1], by simp [k2], by simp [k3], fun q hq => ?_⟩
      rcases List.mem_cons.1 hq with rfl | hq
      · exact ⟨rfl, hR.restamp st p, st, cs, by simp, rfl⟩
      · obtain ⟨j1, j2, st', cs', j3, j4⟩ := k4 q hq
        exact ⟨j1, j2, st', cs', List.mem_cons_of_mem _ j3, j4⟩
theorem stamps_boxC (st p : Stamp) (cs : List PV) : ∀ s ∈ stamps1 (.box st (cs.map (stC p))), s = st ∨ s = p := by
  intro s hs
  simp only [stamps1, List.mem_cons, List.mem_flatMap, List.mem_map] at hs
  rcases hs with h | ⟨q, ⟨c, _, rfl⟩, h⟩
  · exact .inl h
  · exact .inr (stamps_stC p c s h)
def dstTm (d : Option Nat) (u : Value) (tm : Tm) : Tm := match d with | some d => upd tm d u | none => tm
/-- The slots after a call. -/
theorem Inv.back (I : Inv B Fz e tm w ob S) (hp : ¬ S p) {bs : List (Nat × Stamp)} (hbx : ∀ q ∈ bs, ∃ cs, e q.1 = .box q.2 cs) (d : Option Nat) {r : PV} {outs : List (List PV)} {u : Value} {w' : World}
    (hpost : Post w Fz (bs.flatMap fun q => ob q.1) (bs.map fun q => tm q.1) r outs u w') {ub : Ups} (hb : backS p bs outs = some ub)
    (hnd : ((ub ++ dstUps p d r).map (·.1)).Nodup) :
    ∃ Fz' ob', Inv B Fz' (apply (ub ++ dstUps p d r) e) (dstTm d u tm) w' ob' (fun s => S s ∨ s = p) := by
  obtain ⟨hos, htape, hout, hsize, hheap, hnr, Fz', bsr, bss, hFF, hF', hnew, hndb, hru, hrb⟩ := hpost
  obtain ⟨L, k1, k2, k3, k4⟩ := backS_split hb hrb
  have hroot : ∀ q ∈ L, RootStep S w w' (e q.slot) q.pv (tm q.slot) q.val := by
    intro q hq
    obtain ⟨h1, h2, st, cs, h3, h4⟩ := k4 q hq
    obtain ⟨cs0, h5⟩ := hbx _ h3
    refine ⟨fun st' cs' hpv hS => ?_, fun pl st' sz xs' hrow hS => ?_, fun pl st' ks' vs' hrow hS => ?_⟩
    rotate_left 2
    · have hrow' := mapIf_stamp hrow
      rw [h4] at hrow'
      unfold mapAt? at hrow'
      split at hrow'
      · rename_i hh; cases hh
      · rename_i c st'' cs'' hh
        cases hh
        split at hrow'
        · rename_i st3 sz3 xs3 hc
          simp only [Option.some.injEq, Prod.mk.injEq] at hrow'
          obtain ⟨rfl, rfl, rfl⟩ := hrow'
          rw [List.getElem?_map] at hc
          obtain ⟨c0, _, hc0⟩ := Option.map_eq_some_iff.1 hc
          have := stamps_stC p c0 st3 (by rw [hc0]; simp [stampsC])
          exact absurd (this ▸ hS) hp
        · cases hrow'
      · cases hrow'
    · rw [h4] at hpv
      cases hpv
      exact ⟨cs0, h5, h1⟩
    · have hrow' := rowIf_stamp hrow
      rw [h4] at hrow'
      unfold rowAt? at hrow'
      split at hrow'
      · rename_i hh; cases hh
      · rename_i c st'' cs'' hh
        cases hh
        split at hrow'
        · rename_i st3 sz3 xs3 hc
          simp only [Option.some.injEq, Prod.mk.injEq] at hrow'
          obtain ⟨rfl, rfl, rfl⟩ := hrow'
          rw [List.getElem?_map] at hc
          obtain ⟨c0, _, hc0⟩ := Option.map_eq_some_iff.1 hc
          have := stamps_stC p c0 st3 (by rw [hc0]; simp [stampsC])
          exact absurd (this ▸ hS) hp
        · cases hrow'
      · cases hrow'
  have hstL : ∀ q ∈ L, ∀ st ∈ stampsOf q.pv, S st ∨ st = p := by
    intro q hq st hst
    obtain ⟨h1, h2, st0, cs, h3, h4⟩ := k4 q hq
    obtain ⟨cs0, h5⟩ := hbx _ h3
    rw [h4] at hst
    rcases stamps_boxC st0 p cs st (by simpa [stampsOf] using hst) with h | h
    · subst h
      exact .inl (I.stamps q.slot st (by rw [h5]; simp [stampsOf, stamps1]))
    · exact .inr h
  have hin : ∀ b ∈ bs.flatMap (fun q => ob q.1), ∃ q ∈ L, b ∈ ob q.slot := by
    intro b hb
    obtain ⟨q, hq, hb⟩ := List.mem_flatMap.1 hb
    have : q.1 ∈ L.map (·.slot) := by rw [k1]; exact List.mem_map.2 ⟨q, hq, rfl⟩
    obtain ⟨q', hq', h⟩ := List.mem_map.1 this
    exact ⟨q', hq', by rw [h]; exact hb⟩
  have hval : L.map (fun q => (q.slot, q.val)) = L.map (fun q => (q.slot, tm q.slot)) := List.map_congr_left fun q hq => by rw [(k4 q hq).1]
  have hsame : ∀ (L : List Back) , updL (L.map fun q => (q.slot, tm q.slot)) tm = tm := by
    intro L
    induction L with
    | nil => rfl
    | cons q L ih =>
      have : upd tm q.slot (tm q.slot) = tm := by
        funext t
        by_cases h : t = q.slot
        · rw [h, upd_same]
        · rw [upd_other h]
      rw [List.map_cons, updL_cons, this, ih]
  have hbsL : ∀ q ∈ L, ∀ b ∈ q.bs, (b ∈ bs.flatMap (fun q => ob q.1) ∨ w.heap.size ≤ b ∧ b < w'.heap.size) ∧ ¬ Fz' b := fun q hq b hb =>
    hnew b (List.mem_append.2 (.inr (by rw [← k3]; exact List.mem_flatMap.2 ⟨q, hq, hb⟩)))
  have hpvL : ∀ q ∈ L, isRef q.pv = false := fun q hq => by
    obtain ⟨_, _, st0, cs, _, h4⟩ := k4 q hq
    rw [h4]; rfl
  cases d with
  | none =>
    simp only [dstUps, dstTm, List.append_nil] at hnd ⊢
    obtain ⟨ob', I'⟩ := I.stepL (S' := fun s => S s ∨ s = p) L (by rw [k1, ← show ub.map (·.1) = bs.map (·.1) by rw [← k2, ← k1]; simp]; exact hnd) (fun _ h => .inl h) (bs.flatMap fun q => ob q.1) hin hos htape hout hsize hheap hFF hF'
      (fun q hq => ⟨hbsL q hq, hpvL q hq, (k4 q hq).2.1, hstL q hq, hroot q hq⟩) (by rw [k3]; exact (List.nodup_append.1 hndb).2.1)
    rw [hval, hsame, k2, ← apply_updL] at I'
    exact ⟨Fz', ob', I'⟩
  | some d =>
    simp only [dstUps, dstTm] at hnd ⊢
    have hkeys : ub.map (·.1) = L.map (·.slot) := by rw [← k2]; simp
    have hnd' : ((L ++ [(⟨d, stm p r, u, bsr⟩ : Back)]).map (·.slot)).Nodup := by
      rw [List.map_append, ← hkeys]
      simpa using hnd
    obtain ⟨ob', I'⟩ := I.stepL (S' := fun s => S s ∨ s = p) (L ++ [⟨d, stm p r, u, bsr⟩]) hnd' (fun _ h => .inl h) (bs.flatMap fun q => ob q.1) (fun b hb => by
        obtain ⟨q, hq, h⟩ := hin b hb
        exact ⟨q, List.mem_append.2 (.inl hq), h⟩) hos htape hout hsize hheap hFF hF'
      (fun q hq => by
        rcases List.mem_append.1 hq with hq | hq
        · exact ⟨hbsL q hq, hpvL q hq, (k4 q hq).2.1, hstL q hq, hroot q hq⟩
        · simp only [List.mem_singleton] at hq
          subst hq
          have hstp := stamps_stm p r hnr
          refine ⟨fun b hb => hnew b (List.mem_append.2 (.inl hb)), isRef_stm p r hnr, hru.stm p, fun st hst => .inr (hstp st hst), RootStep.fresh fun st hst hS => ?_⟩
          have : st ∈ stampsOf (stm p r) := by
            cases hr : stm p r with
            | tup vs => rw [hr] at hst; simp [stamps1] at hst
            | _ => rw [hr] at hst; first | exact hst | simp [stamps1] at hst
          exact hp (hstp st this ▸ hS))
      (by
        rw [List.flatMap_append, k3, List.nodup_append]
        rw [List.nodup_append] at hndb
        refine ⟨hndb.2.1, by simpa using hndb.1, fun x hx y hy hxy => hndb.2.2 y (by simpa using hy) x hx hxy.symm⟩)
    have e1 : updL ((L ++ [(⟨d, stm p r, u, bsr⟩ : Back)]).map fun q => (q.slot, q.val)) tm = upd tm d u := by
      rw [List.map_append, hval]
      show updL (_ ++ [(d, u)]) tm = _
      have : ∀ (l : List (Nat × Value)) (f : Tm), updL (l ++ [(d, u)]) f = upd (updL l f) d u := fun l f => by simp [updL, List.foldl_append]
      rw [this, hsame]
    have e2 : updL ((L ++ [(⟨d, stm p r, u, bsr⟩ : Back)]).map fun q => (q.slot, q.pv)) e = apply (ub ++ [(d, stm p r)]) e := by
      rw [apply_updL, List.map_append, k2]
      rfl
    rw [e1, e2] at I'
    exact ⟨Fz', ob', I'⟩
/-- The carrying out of a call. -/
def OutC (P : Program) (B : Base) (e : Env) (a : Act) (w : World) (S : Stamp → Prop) (p : Stamp) (o : Oper) (ups : Ups) : Prop :=
  ∀ (next : Act → World → Prop) (Q : Exit → Act → World → Prop),
    (∀ u w' Fz' ob', Inv B Fz' (apply ups e) (dstTm o.dst u (tmOf B a)) w' ob' (fun s => S s ∨ s = p) → next (a.put o.dst u) w') → o.wp P a w next Q
theorem run_call {o : Oper} {c : Call} (ho : o.op = .call c) {x : Operand} (hc : c.callee = .value x) {g : FuncId} {vs : Array Value} (hx : a.eval x = .func (.func g) #[] vs) :
    (execOp a.eval o).run P w = (callFunc g (c.args.map a.eval ++ vs)).run P w := by
  simp only [execOp, ho, resolve, hc, hx, Deferred.ofValue, Sem.run_bind, Sem.run_pure, Result.andThen_ok, invoke, Array.empty_append]
theorem out_scalar {Φ : FuncId → List PV → Option (PV × List (List PV))} (I : Inv B Fz e (tmOf B a) w ob S) (hp : ¬ S p) {o : Oper} {c : Call} (ho : o.op = .call c) {x : Operand} (hc : c.callee = .value x)
    {g : FuncId} {caps : List PV} (hx : (res e x).1 = .func g caps) (hM : MeetsN P g (Φ g)) {avs : List PV} {r : PV} (hA1 : Reps w (fun b => b < w.heap.size) (c.args.toList.map a.eval) avs [])
    (hF : Φ g (avs ++ caps) = some (r, [])) (hsc : scalar r = true) : OutC P B e a w S p o (dstUps p o.dst r) := by
  intro next Q hnext
  have hfx := I.imm x (by show okC (res e x).1 = true; rw [hx]; rfl)
  rw [show opv e x = _ from hx] at hfx
  obtain ⟨vs, hev, hsz, hcaps⟩ : ∃ vs : Array Value, a.eval x = .func (.func g) #[] vs ∧ vs.size = caps.length ∧ ∀ (i : Nat) v q, vs[i]? = some v → caps[i]? = some q → Imm w Fz v q := by
    generalize a.eval x = val at hfx
    cases hfx with
    | func f caps vs cc hs hv hr =>
      refine ⟨vs, rfl, hs, fun i v q h1 h2 => ?_⟩
      rw [hv i q h2] at h1
      cases h1
      exact hr i q h2
  have hcL : ImmL w Fz vs.toList caps := ⟨by simpa using hsz, fun i v q h1 h2 => hcaps i v q (by simpa using h1) h2⟩
  have hargs : (c.args.map a.eval ++ vs).toList = c.args.toList.map a.eval ++ vs.toList := by rw [Array.toList_append, Array.toList_map]
  unfold Oper.wp
  rw [run_call ho hc hev]
  have hreps : Reps w (fun b => b < w.heap.size) (c.args.map a.eval ++ vs).toList (avs ++ caps) [] := by
    rw [hargs]
    have hcR := Reps.ofImmL hcL
    have := hA1.append (hcR.mono (Fz' := fun b => b < w.heap.size) (I.fzlt) (fun _ _ => rfl) (by simp))
    simpa using this
  refine hM w (fun b => b < w.heap.size) _ _ [] r [] (I.glob.mono I.fzlt fun _ _ => rfl) (fun _ h => h) List.nodup_nil (by simp) hreps hF o a next Q fun u w' hpost => ?_
  obtain ⟨hos, htape, hout, hsize, hheap, hnr, Fz', bsr, bss, hFF, hF', hnew, hndb, hru, hrb⟩ := hpost
  have hpost' : Post w Fz (([] : List (Nat × Stamp)).flatMap fun q => ob q.1) (([] : List (Nat × Stamp)).map fun q => tmOf B a q.1) r [] u w' :=
    ⟨hos, htape, hout, hsize, fun b hb _ => hheap b hb (by simp), hnr, Fz, [], [], fun _ h => h, fun _ h => .inl h, by simp, by simp, scalar_rep hru hsc Fz, .nil⟩
  obtain ⟨Fz2, ob2, I2⟩ := I.back hp (bs := []) (by simp) o.dst hpost' (ub := []) rfl (by cases o.dst <;> simp [dstUps])
  exact hnext u w' Fz2 ob2 (by simpa using I2)
theorem out_call {Φ : FuncId → List PV → Option (PV × List (List PV))} (I : Inv B Fz e (tmOf B a) w ob S) (hp : ¬ S p) {o : Oper} {c : Call} (ho : o.op = .call c) {x : Operand} (hc : c.callee = .value x)
    {g : FuncId} {caps : List PV} (hx : (res e x).1 = .func g caps) (hM : MeetsN P g (Φ g)) (l : List (TypeId × Operand)) (hl : l.map (·.2) = c.args.toList) {ups : Ups}
    (h : callS Φ p o.dst g (l.map fun q => (q.2, hint P q.1 q.2 (res e q.2))) caps = some ups) : OutC P B e a w S p o ups := by
  intro next Q hnext
  have hfx := I.imm x (by show okC (res e x).1 = true; rw [hx]; rfl)
  rw [show opv e x = _ from hx] at hfx
  obtain ⟨vs, hev, hsz, hcaps⟩ : ∃ vs : Array Value, a.eval x = .func (.func g) #[] vs ∧ vs.size = caps.length ∧ ∀ (i : Nat) v q, vs[i]? = some v → caps[i]? = some q → Imm w Fz v q := by
    generalize a.eval x = val at hfx
    cases hfx with
    | func f caps vs cc hs hv hr =>
      refine ⟨vs, rfl, hs, fun i v q h1 h2 => ?_⟩
      rw [hv i q h2] at h1
      cases h1
      exact hr i q h2
  have hcL : ImmL w Fz vs.toList caps := ⟨by simpa using hsz, fun i v q h1 h2 => hcaps i v q (by simpa using h1) h2⟩
  have hcOk : ∀ q ∈ caps, okV q = true := by
    intro q hq
    obtain ⟨i, hi, hqi⟩ := List.getElem_of_mem hq
    have h1 : vs[i]? = some (vs[i]'(by omega)) := Array.getElem?_eq_getElem (by omega)
    have := (hcaps i _ q h1 (by rw [List.getElem?_eq_getElem hi, hqi])).okC
    cases q <;> first | rfl | exact this
  have hargs : (c.args.map a.eval ++ vs).toList = (l.map fun q => a.eval q.2) ++ vs.toList := by
    rw [Array.toList_append, Array.toList_map, ← hl, List.map_map]
    rfl
  unfold Oper.wp
  rw [run_call ho hc hev]
  unfold callS at h
  split at h
  · cases h
  · rename_i avs us bs hargsS
    split at h
    · cases h
    · rename_i r outs hF
      split at h
      · cases h
      · rename_i ub hub
        simp only at h
        generalize huf : (if (scalar r && bs.isEmpty) = true then ([] : Ups) else us) = uf at h
        by_cases hnd : nodupB ((uf ++ ub ++ dstUps p o.dst r).map (·.1)) = true
        rotate_left
        · rw [if_neg hnd] at h; cases h
        · rw [if_pos hnd] at h
          cases h
          rw [nodupB_iff] at hnd
          by_cases hsc : (scalar r && bs.isEmpty) = true
          · -- nothing lasts
            rw [if_pos hsc] at huf
            subst huf
            simp only [Bool.and_eq_true, List.isEmpty_iff] at hsc
            obtain ⟨hsc, rfl⟩ := hsc
            have hA : ∀ (l : List (TypeId × Operand)) (avs : List PV) (us : Ups), argsS (l.map fun q => (q.2, hint P q.1 q.2 (res e q.2))) = some (avs, us, []) →
                Reps w (fun b => b < w.heap.size) (l.map fun q => a.eval q.2) avs [] ∧ ∀ q ∈ avs, okV q = true := by
              intro l
              induction l with
              | nil =>
                intro avs us h
                simp only [List.map_nil, argsS, Option.some.injEq, Prod.mk.injEq] at h
                obtain ⟨rfl, _, _⟩ := h
                exact ⟨.nil, by simp⟩
              | cons q l ih =>
                intro avs us h
                simp only [List.map_cons, argsS] at h
                split at h
                · rename_i v u b vs' us' bs' h1 h2
                  simp only [Option.some.injEq, Prod.mk.injEq, List.append_eq_nil_iff] at h
                  obtain ⟨rfl, rfl, hb, rfl⟩ := h
                  obtain ⟨k1, k2⟩ := ih _ _ h2
                  rcases argS_cases h1 with ⟨_, _, _, _, _, _, _, rfl⟩ | ⟨_, _, _, _, _, _, _, rfl⟩ | ⟨hv, _, _⟩
                  · simp at hb
                  · simp at hb
                  · obtain ⟨bs1, hpl, hbs1⟩ := I.view P q.1 q.2 hv
                    have hpl' : Plain w (fun b => b < w.heap.size) (a.eval q.2) v := hpl.mono (fun b hb => hb.elim (I.fzlt b) fun hb => by
                      obtain ⟨s, _, hs⟩ := hbs1 b hb
                      exact I.lt s b hs) fun _ _ => rfl
                    exact ⟨by simpa using Reps.cons hpl'.rep k1, fun q' hq' => by
                      rcases List.mem_cons.1 hq' with rfl | hq'
                      · exact hpl'.okV
                      · exact k2 q' hq'⟩
                · cases h
            obtain ⟨hA1, hA2⟩ := hA l avs us hargsS
            have houts : outs = [] := by cases outs with
              | nil => rfl
              | cons _ _ => simp [backS] at hub
            subst houts
            have hub' : ub = [] := by simpa [backS] using hub.symm
            subst hub'
            have hsound := out_scalar I hp ho hc hx hM (avs := avs) (r := r) (by rw [← hl, List.map_map]; exact hA1) hF hsc next Q hnext
            unfold Oper.wp at hsound
            rwa [run_call ho hc hev] at hsound
          · rw [if_neg hsc] at huf
            subst huf
            have hkb : ub.map (·.1) = bs.map (·.1) := by
              have : ∀ (bs : List (Nat × Stamp)) (outs : List (List PV)) (ub : Ups), backS p bs outs = some ub → ub.map (·.1) = bs.map (·.1) := by
                intro bs
                induction bs with
                | nil => intro outs ub h; cases outs <;> simp_all [backS]
                | cons q bs ih =>
                  intro outs ub h
                  cases outs with
                  | nil => simp [backS] at h
                  | cons cs os =>
                    simp only [backS] at h
                    obtain ⟨ub', h1, rfl⟩ := Option.map_eq_some_iff.1 h
                    simp [ih _ _ h1]
              exact this _ _ _ hub
            have hnd1 : ((us ++ ub).map (·.1)).Nodup := by
              rw [List.map_append] at hnd
              exact (List.nodup_append.1 hnd).1
            obtain ⟨Fz1, ob1, I1, hF1, hA⟩ := Inv.args (P := P) (e0 := e) l [] Fz ob avs us bs I (frz_nil e) hargsS (by rw [List.nil_append, ← hkb, ← List.map_append]; exact hnd1)
            rw [List.nil_append] at I1
            have hkeep : ∀ q ∈ bs, apply us e q.1 = e q.1 := fun q hq => apply_other us e q.1 fun q' hq' h => by
              rw [List.map_append, hkb, List.nodup_append] at hnd1
              exact hnd1.2.2 q'.1 (List.mem_map.2 ⟨q', hq', rfl⟩) q.1 (List.mem_map.2 ⟨q, hq, rfl⟩) h
            have hreps := hA.reps I1 hkeep
            have hreps2 : Reps w Fz1 (c.args.map a.eval ++ vs).toList (avs ++ caps) (bs.flatMap fun q => ob1 q.1) := by
              rw [hargs]
              have hcR := Reps.ofImmL hcL
              have := hreps.append (hcR.mono hF1 (fun _ _ => rfl) (by simp))
              simpa using this
            have hbk : (bs.map (·.1)).Nodup := by
              rw [List.map_append, hkb, List.nodup_append] at hnd1
              exact hnd1.2.1
            have hbx : ∀ q ∈ bs, ∃ cs, apply us e q.1 = .box q.2 cs := by
              intro q hq
              rw [hkeep q hq]
              exact hA.boxes q hq
            refine hM w Fz1 _ _ _ r outs I1.glob I1.fzlt (I1.flat_nodup bs hbk) (fun b hb => ?_) hreps2 hF o a next Q fun u w' hpost => ?_
            · obtain ⟨q, hq, hb⟩ := List.mem_flatMap.1 hb
              exact ⟨I1.notFz q.1 b hb, I1.lt q.1 b hb⟩
            · have hbv : boxVals (c.args.map a.eval ++ vs).toList (avs ++ caps) = bs.map fun q => tmOf B a q.1 := by
                rw [hargs, hA.boxVals, boxVals_ok hcOk, List.append_nil]
              rw [hbv] at hpost
              obtain ⟨Fz2, ob2, I2⟩ := I1.back hp (bs := bs) hbx o.dst hpost hub (by
                rw [List.append_assoc, List.map_append] at hnd
                exact (List.nodup_append.1 hnd).2.1)
              refine hnext u w' Fz2 ob2 ?_
              rw [List.append_assoc, apply_append]
              exact I2
/-- A slot's row has other cells. -/
theorem Inv.rowOut (I : Inv B Fz e tm w ob S) (hSS : ∀ st, S st → S' st) {r : Nat} {st : Stamp} {sz : Nat} {xs xs' : List (List PV)} (he : e r = .own st sz xs) {w' : World}
    (hos : w'.os = w.os) (htape : w'.tape = w.tape) (hout : w'.output = w.output) (hsize : w.heap.size ≤ w'.heap.size) (hheap : ∀ b, b < w.heap.size → b ∉ ob r → w'.heap[b]? = w.heap[b]?)
    (hlen : xs'.length = xs.length) (hrep : Rep w' Fz (tm r) (.own st sz xs') (ob r)) : Inv B Fz (upd e r (.own st sz xs')) tm w' ob S' := by
  refine I.step (fun s => s = r) hSS hos htape hout hsize (fun b hb h => hheap b hb (h r rfl))
    (fun s hs => ⟨upd_other hs, rfl, rfl⟩) (fun _ h => h) (fun _ h => .inl h) ?_ ?_ ?_ ?_ ?_ ?_
  · rintro s rfl x hx; exact ⟨.inl ⟨s, rfl, hx⟩, I.notFz s x hx⟩
  · rintro s rfl; exact I.nodup s
  · rintro s s' rfl rfl hne; exact absurd rfl hne
  · rintro s rfl st' hs
    rw [upd_same] at hs
    exact hSS _ (I.stamps s st' (by rw [he]; exact hs))
  · rintro s rfl
    rw [upd_same, he]
    refine ⟨fun st' cs' h => (by cases h), fun pl' st' sz' xs'' h _ => ?_, fun pl' st' ks' vs' h _ => by have h := mapIf_stamp h; cases pl' <;> simp [mapAt?] at h⟩
    have h := rowIf_stamp h
    cases pl' with
    | none =>
      simp only [rowAt?, Option.some.injEq, Prod.mk.injEq] at h
      obtain ⟨rfl, rfl, rfl⟩ := h
      exact ⟨_, rowIf_of rfl, hlen.symm, fun x hx => hx⟩
    | some c' => simp [rowAt?] at h
  · rintro _ s rfl
    unfold SlotRep
    rw [upd_same, if_neg (by simp [isRef])]
    exact hrep
theorem Rep.own_len {u : Value} {st : Stamp} {sz : Nat} {xs : List (List PV)} {bs : List Nat} (h : Rep w Fz u (.own st sz xs) bs) : ∃ A n cap, u = .slice A n cap ∧ xs.length = n ∧ n ≤ cap ∧ n ≤ maxLen := by
  cases h with
  | plain h => exact absurd h.okC (by simp [okC])
  | ownNil => exact ⟨none, 0, 0, rfl, rfl, Nat.le_refl _, Nat.zero_le _⟩
  | own g n cap cur ty _ _ _ c hg hn hc hm hs hu hcell hr => exact ⟨_, n, cap, rfl, hn, hc, by omega⟩
/-- The slot's row, as a callee sees it. -/
theorem Inv.lend (I : Inv B Fz e tm w ob S) {r : Nat} {st : Stamp} {sz : Nat} {xs : List (List PV)} (he : e r = .own st sz xs) (hf : flat1 xs = true) :
    ∃ A n cap, tm r = .slice A n cap ∧ xs.length = n ∧ n ≤ cap ∧ Rep w (fun b => b < w.heap.size ∧ b ∉ ob r) (.slice A n cap) (.own (0, 0) sz xs) (ob r) ∧ (ob r).Nodup ∧ (∀ b ∈ ob r, b < w.heap.size) ∧
      (∀ b, Fz b → b < w.heap.size ∧ b ∉ ob r) := by
  have hR := I.slot r (by rw [he]; rfl)
  rw [he] at hR
  obtain ⟨A, n, cap, hu, hn, hc, _⟩ := hR.own_len
  refine ⟨A, n, cap, hu, hn, hc, ?_, I.nodup r, I.lt r, fun b hb => ⟨I.fzlt b hb, fun h => I.notFz r b h hb⟩⟩
  rw [← hu]
  exact hR.plainRow hf
theorem flat1_splice {xs new : List (List PV)} {off len sz : Nat} (h : flat1 xs = true) (hn : new.all (fun c => c.length == sz && c.all scalar1) = true) : flat1 (xs.take off ++ new ++ xs.drop (off + len)) = true := by
  unfold flat1 at h ⊢
  rw [List.all_eq_true] at h hn ⊢
  intro c hc
  simp only [List.mem_append] at hc
  rcases hc with (hc | hc) | hc
  · exact h c (List.mem_of_mem_take hc)
  · have := hn c hc
    rw [Bool.and_eq_true] at this
    exact this.2
  · exact h c (List.mem_of_mem_drop hc)
/-- The arguments beside the row. -/
theorem Inv.restArgs (I : Inv B Fz e (tmOf B a) w ob S) {r : Nat} : ∀ (l : List (TypeId × Operand)) (avs : List PV) (us : Ups), argsS (l.map fun q => (q.2, hint P q.1 q.2 (res e q.2))) = some (avs, us, []) →
    rowOnly r (l.map fun q => (q.2, hint P q.1 q.2 (res e q.2))) = true → Reps w (fun b => b < w.heap.size ∧ b ∉ ob r) (l.map fun q => a.eval q.2) avs [] := by
  intro l
  induction l with
  | nil =>
    intro avs us h _
    simp only [List.map_nil, argsS, Option.some.injEq, Prod.mk.injEq] at h
    obtain ⟨rfl, _, _⟩ := h
    exact .nil
  | cons q l ih =>
    intro avs us h hro
    simp only [List.map_cons, argsS] at h
    simp only [rowOnly, List.map_cons, List.all_cons, Bool.and_eq_true] at hro
    split at h
    · rename_i v u b vs' us' bs' h1 h2
      simp only [Option.some.injEq, Prod.mk.injEq, List.append_eq_nil_iff] at h
      obtain ⟨rfl, rfl, hb, rfl⟩ := h
      have k1 := ih _ _ h2 (by unfold rowOnly; exact hro.2)
      rcases argS_cases h1 with ⟨_, _, _, _, _, _, _, rfl⟩ | ⟨_, _, _, _, _, _, _, rfl⟩ | ⟨hv, _, _⟩
      · simp at hb
      · simp at hb
      · obtain ⟨bs1, hpl, hbs1⟩ := I.view P q.1 q.2 hv
        have hpl' : Plain w (fun b => b < w.heap.size ∧ b ∉ ob r) (a.eval q.2) v := hpl.mono (fun b hb => hb.elim (fun hb => ⟨I.fzlt b hb, fun h => I.notFz r b h hb⟩) fun hb => by
          obtain ⟨s', hsrc, hs'⟩ := hbs1 b hb
          refine ⟨I.lt s' b hs', fun hbg => ?_⟩
          have hsr : s' ≠ r := by
            rcases hsrc with ⟨hxs, _⟩ | hroot
            · have := hro.1.1
              rw [hxs] at this
              simpa using this
            · have := hro.1.2
              rw [hroot] at this
              simpa using this
          exact I.disj s' r hsr b hs' hbg) fun _ _ => rfl
        simpa using Reps.cons hpl'.rep k1
    · cases h
theorem fn_eval (I : Inv B Fz e (tmOf B a) w ob S) {x : Operand} {g : FuncId} (hx : (res e x).1 = .func g []) : a.eval x = .func (.func g) #[] #[] := by
  have hfx := I.imm x (by show okC (res e x).1 = true; rw [hx]; rfl)
  rw [show opv e x = _ from hx] at hfx
  generalize a.eval x = val at hfx
  cases hfx with
  | func f caps vs cc hs hv hr =>
    have : vs = #[] := by apply Array.eq_empty_of_size_eq_zero; simpa using hs
    subst this
    rfl
theorem out_callW {Φ : FuncId → List PV → Option (PV × List (List PV))} (I : Inv B Fz e (tmOf B a) w ob S) (hp : ¬ S p) {o : Oper} {c : Call} (ho : o.op = .call c) {x : Operand} (hc : c.callee = .value x)
    {g : FuncId} {caps : List PV} (hx : (res e x).1 = .func g caps) (hM : MeetsW P g (Φ g)) (l : List (TypeId × Operand)) (hl : l.map (·.2) = c.args.toList) {ups : Ups}
    (h : callWS Φ p o.dst g (l.map fun q => (q.2, hint P q.1 q.2 (res e q.2))) caps = some ups) : OutC P B e a w S p o ups := by
  intro next Q hnext
  unfold callWS at h
  cases l with
  | nil => simp at h
  | cons q0 l =>
  obtain ⟨t0, x0⟩ := q0
  simp only [List.map_cons] at h
  split at h
  · rename_i x1 vr1 l1 heq
    simp only [List.cons.injEq, Prod.mk.injEq] at heq
    obtain ⟨⟨rfl, rfl⟩, rfl⟩ := heq
    have hev := fn_eval I hx
    split at h
    · rename_i r st off len hv1
      split at h
      · rename_i st' sz xs hv2
        split at h
        · rename_i vs us hargs
          split at h
          · rename_i rv new hF
            split at h
            · rename_i hcond
              obtain ⟨rfl, hsc, hfit, hpos, hnl, hnew, hro, hdr, hfl⟩ := hcond
              cases h
              have hne := hint_ne P t0 x0 (res e x0) (by rw [hv1]; rfl)
              rw [hne] at hv1 hv2
              obtain ⟨s, rfl, hes, href, hvs⟩ := I.slotRef hv1 rfl (by simp)
              have h2 : (res e (.tmp s)).2 = e r := by simp [res, opv, hvs, hes, rootOf]
              rw [h2] at hv2
              obtain ⟨_, A0, n0, cap0, A', cap', hpv, hx0, hlc, hoff, hA'⟩ := href sz xs (by rw [hv2]; exact rowIf_of rfl)
              have hpv' : tmOf B a r = .slice A0 n0 cap0 := hpv
              obtain ⟨A, n, cap, htm, hn, hcp, hrep, hnd, hlt, hFF⟩ := I.lend hv2 hfl
              rw [htm] at hpv'
              cases hpv'
              have hreps := I.restArgs l vs us hargs hro
              unfold Oper.wp
              rw [run_call ho hc hev]
              have hargl : c.args.map a.eval ++ #[] = (.slice A' len cap' :: l.map fun q => a.eval q.2).toArray := by
                rw [Array.append_empty, ← Array.toArray_toList (xs := c.args.map a.eval), Array.toList_map, ← hl, List.map_cons, List.map_cons, hx0, List.map_map]
                rfl
              rw [hargl]
              refine hM w (ob r) A0 n0 cap0 sz xs off len A' cap' _ vs rv new hrep hnd hlt hfl hfit hpos ⟨hlc, hoff, hA'⟩ hreps (I.glob.mono hFF fun _ _ => rfl) hF hnl hnew o a next Q fun u w' hpost hru => ?_
              obtain ⟨hos, htape, hout, hsize, hheap, Fz', hrep'⟩ := hpost
              have hnewlen : (xs.take off ++ new ++ xs.drop (off + len)).length = xs.length := by simp; omega
              have hrepN : Rep w' Fz (tmOf B a r) (.own st' sz (xs.take off ++ new ++ xs.drop (off + len))) (ob r) := by
                rw [htm]
                exact hrep'.plainRow (flat1_splice hfl hnew)
              cases hd : o.dst with
              | none =>
                have I1 := I.rowOut (S' := fun s => S s ∨ s = p) (fun _ h => .inl h) hv2 hos htape hout hsize hheap hnewlen hrepN
                have := hnext u w' Fz ob (by rw [hd]; exact I1)
                rw [hd] at this
                exact this
              | some d =>
                have hru' : Rep w' Fz u rv [] := scalar_rep (hru hsc) hsc Fz
                have hnr : isRef rv = false := by cases rv <;> first | rfl | simp [scalar, scalar1] at hsc
                have hstp := stamps_stm p rv hnr
                have I1 := I.rowOut (S' := S) (fun _ h => h) hv2 hos htape hout hsize hheap hnewlen hrepN
                have I2 := I1.put1 (S' := fun s => S s ∨ s = p) d (stm p rv) u [] (fun _ h => .inl h) rfl rfl rfl (Nat.le_refl _) (fun _ _ => rfl) (by simp) (by simp) (fun st hst => .inr (hstp st hst))
                  (fun st hst hS => by
                    have : st ∈ stampsOf (stm p rv) := by
                      cases hr : stm p rv with
                      | tup vs => rw [hr] at hst; simp [stamps1] at hst
                      | _ => rw [hr] at hst; first | exact hst | simp [stamps1] at hst
                    exact hp (hstp st this ▸ hS))
                  (by rw [if_neg (by rw [isRef_stm p rv hnr]; simp)]; exact hru'.stm p)
                have := hnext u w' Fz _ (by rw [hd]; simp only [dstUps, dstTm]; exact I2)
                rw [hd] at this
                exact this
            · cases h
          · cases h
        · cases h
      · cases h
    · cases h
  · cases h
theorem out_callP {Φ : FuncId → List PV → Option (PV × List (List PV))} (I : Inv B Fz e (tmOf B a) w ob S) (hp : ¬ S p) {o : Oper} {c : Call} (ho : o.op = .call c) {x : Operand} (hc : c.callee = .value x)
    {g : FuncId} {caps : List PV} (hx : (res e x).1 = .func g caps) (hM : MeetsP P g (Φ g)) (l : List (TypeId × Operand)) (hl : l.map (·.2) = c.args.toList) {ups : Ups}
    (h : callPS Φ o.dst g (l.map fun q => (q.2, hint P q.1 q.2 (res e q.2))) caps = some ups) : OutC P B e a w S p o ups := by
  intro next Q hnext
  unfold callPS at h
  split at h
  · rename_i d x0 vr hd hl0
    obtain ⟨t0, rfl, rfl⟩ : ∃ t0, l = [(t0, x0)] ∧ vr = hint P t0 x0 (res e x0) := by
      cases l with
      | nil => simp at hl0
      | cons q l =>
        cases l with
        | nil =>
          simp only [List.map_cons, List.map_nil, List.cons.injEq, Prod.mk.injEq, and_true] at hl0
          obtain ⟨rfl, rfl⟩ := hl0
          exact ⟨q.1, rfl, rfl⟩
        | cons q2 l => simp at hl0
    have hev := fn_eval I hx
    have hargl : c.args.map a.eval ++ #[] = #[a.eval x0] := by
      rw [Array.append_empty, ← Array.toArray_toList (xs := c.args.map a.eval), Array.toList_map, ← hl]
      rfl
    have fin : ∀ (r : Nat) (st : Stamp) (off len : Nat) (sz : Nat) (xs : List (List PV)) (m : Int), r ≠ d → e r = .own st sz xs → off + len ≤ xs.length → flat1 xs = true → S st →
        Φ g [.own (0, 0) sz ((xs.drop off).take len)] = some (.int .i64 m, []) → 0 ≤ m → m ≤ len →
        (∃ A n cap A' cap', tmOf B a r = .slice A n cap ∧ a.eval x0 = .slice A' len cap' ∧ PartOf A cap sz off len A' cap') →
        ups = [(d, .snap r none st off m.toNat)] → o.wp P a w next Q := by
      intro r st off len sz xs m hrd her hfit hfl hS hF h0 hm ⟨A, n, cap, A', cap', htm0, hx0, hpart⟩ hups
      subst hups
      obtain ⟨A1, n1, cap1, htm, hn, hcp, hrep, hnd, hlt, hFF⟩ := I.lend her hfl
      rw [htm0] at htm
      cases htm
      unfold Oper.wp
      rw [run_call ho hc hev, hargl, hx0]
      refine hM w (ob r) A n cap sz xs off len A' cap' m hrep hnd hlt hfl hfit hpart (I.glob.mono hFF fun _ _ => rfl) hF h0 hm o a next Q fun A2 cap2 w' hpost hpart2 => ?_
      obtain ⟨hos, htape, hout, hsize, hheap, Fz', hrep'⟩ := hpost
      have I1 := I.rowOut (S' := S) (fun _ h => h) her hos htape hout hsize hheap rfl (by rw [htm0]; exact hrep'.plainRow hfl)
      have hsame : upd e r (.own st sz xs) = e := by
        funext t
        by_cases h : t = r
        · rw [h, upd_same, her]
        · rw [upd_other h]
      rw [hsame] at I1
      have href : RefV w' Fz e (tmOf B a) (.slice A2 m.toNat cap2) (.snap r none st off m.toNat) := by
        intro sz2 xs2 h2
        rw [her, rowIf_of rfl] at h2
        cases h2
        exact ⟨by omega, A, n, cap, A2, cap2, htm0, rfl, hpart2.1, hpart2.2.1, hpart2.2.2⟩
      have I2 := I1.put1 (S' := fun st => S st ∨ st = p) d (.snap r none st off m.toNat) (.slice A2 m.toNat cap2) [] (fun _ h => .inl h) rfl rfl rfl (Nat.le_refl _) (fun _ _ => rfl) (by simp) (by simp)
        (by intro st' hst'; simp only [stampsOf, List.mem_singleton] at hst'; subst hst'; exact .inl hS) (by simp [stamps1]) (by rw [if_pos (show isRef (.snap r none st off m.toNat) = true from rfl)]; exact ⟨rfl, href, by intro st' hst'; simp only [stampsOf, List.mem_singleton] at hst'; subst hst'; exact hS⟩)
      have := hnext (.slice A2 m.toNat cap2) w' _ _ (by rw [hd]; exact I2)
      exact this
    split at h
    · rename_i r st off len hv1
      split at h
      · rename_i st' sz xs hv2
        split at h
        · rename_i m hF
          split at h
          · rename_i hcond
            obtain ⟨rfl, hrd, h0, hm, hfit, hfl⟩ := hcond
            have hne := hint_ne P t0 x0 (res e x0) (by rw [hv1]; rfl)
            rw [hne] at hv1 hv2
            obtain ⟨s, rfl, hes, href, hvs⟩ := I.slotRef hv1 rfl (by simp)
            have h2 : (res e (.tmp s)).2 = e r := by simp [res, opv, hvs, hes, rootOf]
            rw [h2] at hv2
            obtain ⟨_, A, n, cap, A', cap', hpv, hx0, hlc, hoff, hA'⟩ := href sz xs (by rw [hv2]; exact rowIf_of rfl)
            exact fin r st' off len sz xs m hrd hv2 hfit hfl (I.stamps s st' (by rw [hes]; simp [stampsOf])) hF h0 hm ⟨A, n, cap, A', cap', hpv, hx0, hlc, hoff, hA'⟩ (Option.some.inj h).symm
          · cases h
        · cases h
      · cases h
    · rename_i st sz xs hv1
      split at h
      · rename_i t
        split at h
        · rename_i m hF
          split at h
          · rename_i hcond
            obtain ⟨htd, h0, hm, hfl⟩ := hcond
            have hne := hint_ne P t0 (.tmp t) (res e (.tmp t)) (by rw [hv1]; rfl)
            rw [hne] at hv1
            obtain ⟨hvs, het⟩ := tmp_val hv1 (by simp)
            obtain ⟨A, n, cap, htm, hn, hcp, _⟩ := I.lend het hfl
            subst hn
            refine fin t st 0 xs.length sz xs m htd het (by omega) hfl (I.stamps t st (by rw [het]; simp [stampsOf, stamps1])) (by rw [List.drop_zero, List.take_length]; exact hF) h0 hm
              ⟨A, xs.length, cap, A, cap, htm, (tmOf_ne B a hvs).symm.trans htm, hcp, fun _ => ⟨rfl, rfl⟩, fun ad had _ => by rw [had, Nat.zero_mul]; rfl⟩ (Option.some.inj h).symm
          · cases h
        · cases h
      · cases h
    · cases h
  · cases h
theorem Inv.newBack (I : Inv B Fz e tm w ob S) {d r : Nat} (hrd : r ≠ d) {g' : FuncId} {pl : Option Nat} {st : Stamp} {off len : Nat} {xs : List (List PV)} (hrow : rowIf (e r) pl st = some (1, xs)) (hS : S st)
    {A A' : Option Addr} {n cap cap' : Nat} (hfit : off + len ≤ xs.length) (hpv : PlaceVal w (tm r) pl (.slice A n cap)) (hA : ∀ ad, A = some ad → 0 < len → A' = some (ad.add (off * 1))) (ty : TypeId) :
    Inv B (fun b => Fz b ∨ b = w.heap.size) (upd e d (.back g' r pl st off len)) (upd tm d (.func (.func g') #[] #[.pointer (some ⟨w.heap.size, 0, none⟩)])) (w.alloc (.cells #[.slice A' len cap'] ty)) (upd ob d []) (fun st => S st ∨ st = p) := by
  have hold : ∀ b, b < w.heap.size → (w.alloc (.cells #[.slice A' len cap'] ty)).heap[b]? = w.heap[b]? := fun b hb => alloc_heap_old w _ b hb
  refine I.step (fun s => s = d) (fun _ h => .inl h) rfl rfl rfl (by simp) (fun b hb _ => hold b hb) (fun s hs => ⟨upd_other hs, upd_other hs, upd_other hs⟩)
    (fun b hb => .inl hb) (fun b hb => hb.imp id fun hb => .inr (by subst hb; exact ⟨Nat.le_refl _, by simp⟩)) ?_ ?_ ?_ ?_ ?_ ?_
  · rintro s rfl b hb
    rw [upd_same] at hb
    cases hb
  · rintro s rfl; rw [upd_same]; exact List.nodup_nil
  · rintro s t rfl rfl hne; exact absurd rfl hne
  · rintro s rfl st' hs
    rw [upd_same] at hs
    simp only [stampsOf, List.mem_singleton] at hs
    subst hs
    exact .inl hS
  · rintro s rfl
    rw [upd_same]
    exact RootStep.fresh (by simp [stamps1])
  · rintro hr s rfl
    unfold SlotRep
    rw [upd_same, upd_same, upd_same, if_pos (show isRef (.back g' r pl st off len) = true from rfl)]
    refine ⟨rfl, fun sz xs' hx => ?_⟩
    have hx0 := hx
    rw [upd_other hrd, hrow] at hx
    simp only [Option.some.injEq, Prod.mk.injEq] at hx
    obtain ⟨rfl, rfl⟩ := hx
    obtain ⟨_, _, _, h3⟩ := (hr r).2.1 pl st 1 xs hx0 hS
    exact ⟨rfl, hfit, A, n, cap, A', cap', w.heap.size, ty, h3 _ hpv, rfl, .inr rfl, alloc_heap_new w _, hA⟩
theorem out_callB (I : Inv B Fz e (tmOf B a) w ob S) {o : Oper} {c : Call} (ho : o.op = .call c) {x : Operand} (hc : c.callee = .value x)
    {g g' : FuncId} {caps : List PV} (hx : (res e x).1 = .func g caps) (hM : MeetsB P g g') (l : List (TypeId × Operand)) (hl : l.map (·.2) = c.args.toList) {ups : Ups}
    (h : callBS o.dst g' (l.map fun q => (q.2, hint P q.1 q.2 (res e q.2))) caps = some ups) : OutC P B e a w S p o ups := by
  intro next Q hnext
  unfold callBS at h
  split at h
  · rename_i d x0 vr hd hl0
    obtain ⟨t0, rfl, rfl⟩ : ∃ t0, l = [(t0, x0)] ∧ vr = hint P t0 x0 (res e x0) := by
      cases l with
      | nil => simp at hl0
      | cons q l =>
        cases l with
        | nil =>
          simp only [List.map_cons, List.map_nil, List.cons.injEq, Prod.mk.injEq, and_true] at hl0
          obtain ⟨rfl, rfl⟩ := hl0
          exact ⟨q.1, rfl, rfl⟩
        | cons q2 l => simp at hl0
    have hev := fn_eval I hx
    have hargl : c.args.map a.eval ++ #[] = #[a.eval x0] := by
      rw [Array.append_empty, ← Array.toArray_toList (xs := c.args.map a.eval), Array.toList_map, ← hl]
      rfl
    split at h
    · rename_i r pl st off len hv1
      split at h
      · rename_i xs hrow
        split at h
        · rename_i hrd
          cases h
          have hne := hint_ne P t0 x0 (res e x0) (by rw [hv1]; rfl)
          rw [hne] at hv1 hrow
          obtain ⟨s, rfl, hes, href, hvs⟩ := I.slotRef hv1 rfl (by simp)
          have h2 : (res e (.tmp s)).2 = e r := by simp [res, opv, hvs, hes, rootOf]
          rw [h2] at hrow
          obtain ⟨hfit, A, n, cap, A', cap', hpv, hx0, hlc, hoff, hA'⟩ := href 1 xs hrow
          obtain ⟨ty, hB⟩ := hM A' len cap' w
          unfold Oper.wp
          rw [run_call ho hc hev, hargl, hx0]
          refine hB o a next Q ?_
          have I2 := I.newBack (p := p) (g' := g') (cap' := cap') hrd hrow (I.stamps s st (by rw [hes]; simp [stampsOf])) hfit hpv hA' ty
          have := hnext _ _ _ _ (by rw [hd]; exact I2)
          exact this
        · cases h
      · cases h
    · cases h
  · cases h
end
end Go.PE
namespace Go.PE
open Go.RowKit
section
variable {P : Program} {B : Base} {Fz : Nat → Prop} {e : Env} {a : Act} {tm : Tm} {w : World} {ob : Nat → List Nat} {S S' : Stamp → Prop} {p : Stamp}
/-- A variable is written by nobody any more. -/
theorem Inv.freezeBox (I : Inv B Fz e tm w ob S) {r : Nat} {st : Stamp} {all : List PV} (he : e r = .box st all) (hall : (all.map frzO).all okC = true) :
    Inv B (fun b => Fz b ∨ b ∈ ob r) (upd e r (.iptr (all.map frzO) 0)) tm w (upd ob r []) S ∧ Imm w (fun b => Fz b ∨ b ∈ ob r) (tm r) (.iptr (all.map frzO) 0) := by
  obtain ⟨g, arr, ty, bs0, htm, hg, hreps, hob, hcc⟩ := I.boxAt he
  have hfr := hreps.frzO hall
  have himm : Imm w (fun b => Fz b ∨ b ∈ ob r) (tm r) (.iptr (all.map frzO) 0) := by
    rw [htm]
    have := Imm.iptr (w := w) (Fz := fun b => Fz b ∨ b ∈ ob r) ⟨g, 0, none⟩ (all.map frzO) 0 (fun j => arr.toList.getD j undef) (fun j q hq => ?_) (fun j q hq => ?_)
    · rwa [add_lit] at this
    · have hlt : j < arr.toList.length := by
        have := (List.getElem?_eq_some_iff.1 hq).1
        rw [hfr.1]; exact this
      refine ⟨.inr (by rw [hob]; simp), ?_⟩
      rw [add_lit, Nat.zero_add]
      simp only [World.cell?, hg, Option.isSome_none, Bool.false_eq_true, if_false]
      have : arr.toList[j]? = some (arr.toList[j]'hlt) := List.getElem?_eq_getElem hlt
      rw [List.getD, this]
      simpa using this
    · have hlt : j < arr.toList.length := by
        have := (List.getElem?_eq_some_iff.1 hq).1
        rw [hfr.1]; exact this
      have h1 : arr.toList[j]? = some (arr.toList[j]'hlt) := List.getElem?_eq_getElem hlt
      have := hfr.2 j _ q h1 hq
      rw [List.getD, h1]
      exact this.mono (fun b hb => hb.imp id fun hb => by rw [hob]; exact List.mem_cons_of_mem _ hb) fun _ _ => rfl
  refine ⟨I.step (fun s => s = r) (fun _ h => h) rfl rfl rfl (Nat.le_refl _) (fun _ _ _ => rfl) (fun s hs => ⟨upd_other hs, rfl, upd_other hs⟩)
      (fun b hb => .inl hb) (fun x hx => hx.imp id fun hx => .inl ⟨r, rfl, hx⟩) ?_ ?_ ?_ ?_ ?_ ?_, himm⟩
  · rintro s rfl b hb
    rw [upd_same] at hb
    cases hb
  · rintro s rfl; rw [upd_same]; exact List.nodup_nil
  · rintro s t rfl rfl hne; exact absurd rfl hne
  · rintro s rfl st' hs
    rw [upd_same] at hs
    simp [stampsOf, stamps1] at hs
  · rintro s rfl
    refine RootStep.fresh ?_
    rw [upd_same]
    simp [stamps1]
  · rintro _ s rfl
    unfold SlotRep
    rw [upd_same, upd_same, if_neg (by simp [isRef])]
    exact .plain himm
theorem capS_cons {x : Operand} {vr : PV × PV} {l : List (Operand × (PV × PV))} {cs : List PV} {us : Ups} (h : capS ((x, vr) :: l) = some (cs, us)) :
    ∃ cs' us', capS l = some (cs', us') ∧
      ((∃ st cells t, vr.1 = .box st cells ∧ x = .tmp t ∧ (cells.map frzO).all okC = true ∧ cs = .iptr (cells.map frzO) 0 :: cs' ∧ us = (t, .iptr (cells.map frzO) 0) :: us') ∨
       (∃ r st cells, vr.1 = .loc r st 0 ∧ vr.2 = .box st cells ∧ (cells.map frzO).all okC = true ∧ cs = .iptr (cells.map frzO) 0 :: cs' ∧ us = (r, .iptr (cells.map frzO) 0) :: us') ∨
       (∃ c o, vr.1 = .iptr c o ∧ cs = .iptr c o :: cs' ∧ us = us')) := by
  obtain ⟨v1, v2⟩ := vr
  simp only [capS] at h
  cases hl : capS l with
  | none => rw [hl] at h; cases h
  | some q =>
    obtain ⟨cs', us'⟩ := q
    rw [hl] at h
    refine ⟨cs', us', rfl, ?_⟩
    simp only at h
    split at h
    · split at h
      · rename_i hok
        cases h
        exact .inl ⟨_, _, _, rfl, rfl, hok, rfl, rfl⟩
      · cases h
    · split at h
      · rename_i hv2
        split at h
        · rename_i hok
          obtain ⟨rfl, hok⟩ := hok
          cases h
          exact .inr (.inl ⟨_, _, _, rfl, rfl, hok, rfl, rfl⟩)
        · cases h
      · cases h
    · cases h
      exact .inr (.inr ⟨_, _, rfl, rfl, rfl⟩)
    · cases h
def FrzB (e : Env) (u : Ups) : Prop := ∀ q ∈ u, ∃ st cs, e q.1 = .box st cs
theorem Inv.caps {e0 : Env} :
    ∀ (l : List Operand) (u1 : Ups) (Fz : Nat → Prop) (ob : Nat → List Nat) (cs : List PV) (us : Ups),
    Inv B Fz (apply u1 e0) (tmOf B a) w ob S → FrzB e0 u1 → capS (l.map fun x => (x, res e0 x)) = some (cs, us) → ((u1 ++ us).map (·.1)).Nodup →
    ∃ Fz' ob', Inv B Fz' (apply (u1 ++ us) e0) (tmOf B a) w ob' S ∧ (∀ b, Fz b → Fz' b) ∧ ImmL w Fz' (l.map a.eval) cs
  | [], u1, Fz, ob, cs, us, I, hF, h, hnd => by
    simp only [List.map_nil, capS, Option.some.injEq, Prod.mk.injEq] at h
    obtain ⟨rfl, rfl⟩ := h
    rw [List.append_nil]
    exact ⟨Fz, ob, I, fun _ h => h, rfl, fun i v q hv => by simp at hv⟩
  | x :: l, u1, Fz, ob, cs, us, I, hF, h, hnd => by
    rw [List.map_cons] at h
    have consL : ∀ {Fz : Nat → Prop} {v : Value} {q : PV} {vs : List Value} {qs : List PV}, Imm w Fz v q → ImmL w Fz vs qs → ImmL w Fz (v :: vs) (q :: qs) := by
      intro Fz v q vs qs h1 h2
      refine ⟨by simp [h2.1], fun i v' q' hv hq => ?_⟩
      cases i with
      | zero =>
        simp only [List.getElem?_cons_zero, Option.some.injEq] at hv hq
        subst hv hq
        exact h1
      | succ i => exact h2.2 i v' q' (by simpa using hv) (by simpa using hq)
    have step : ∀ (r : Nat) (st : Stamp) (cells : List PV) (cs' : List PV) (us' : Ups), e0 r = .box st cells → (cells.map frzO).all okC = true → capS (l.map fun x => (x, res e0 x)) = some (cs', us') →
        cs = .iptr (cells.map frzO) 0 :: cs' → us = (r, .iptr (cells.map frzO) 0) :: us' → a.eval x = tmOf B a r →
        ∃ Fz' ob', Inv B Fz' (apply (u1 ++ us) e0) (tmOf B a) w ob' S ∧ (∀ b, Fz b → Fz' b) ∧ ImmL w Fz' ((x :: l).map a.eval) cs := by
      intro r st cells cs' us' he hok h1 hcs hus hev
      subst hcs hus
      have hr : apply u1 e0 r = e0 r := apply_other u1 e0 r fun q hq hqr => by
        rw [List.map_append, List.nodup_append] at hnd
        exact hnd.2.2 q.1 (List.mem_map.2 ⟨q, hq, rfl⟩) r (by simp) hqr
      obtain ⟨I1, himm⟩ := I.freezeBox (r := r) (hr.trans he) hok
      have hap : apply (u1 ++ [(r, .iptr (cells.map frzO) 0)]) e0 = upd (apply u1 e0) r (.iptr (cells.map frzO) 0) := by rw [apply_append]; rfl
      rw [← hap] at I1
      obtain ⟨Fz2, ob2, I2, hF2, hL⟩ := Inv.caps l (u1 ++ [(r, .iptr (cells.map frzO) 0)]) _ _ cs' us' I1 (fun q hq => by
        rcases List.mem_append.1 hq with hq | hq
        · exact hF q hq
        · simp only [List.mem_singleton] at hq
          subst hq
          exact ⟨st, cells, he⟩) h1 (by simpa using hnd)
      refine ⟨Fz2, ob2, by simpa using I2, fun b hb => hF2 b (.inl hb), ?_⟩
      rw [List.map_cons, hev]
      exact consL (himm.mono hF2 fun _ _ => rfl) hL
    have h1' : (res e0 x).1 = opv e0 x := rfl
    obtain ⟨cs', us', h1, ⟨st, cells, t, hv, rfl, hok, hc, hu⟩ | ⟨r, st', cells, hv, hv2, hok, hc, hu⟩ | ⟨c, o', hv, rfl, rfl⟩⟩ := capS_cons h
    · obtain ⟨hvs, he⟩ := tmp_val hv (by simp)
      exact step t st cells cs' us' he hok h1 hc hu (tmOf_ne B a hvs).symm
    · obtain ⟨s, rfl⟩ := opv_own_tmp (e := e0) (x := x) (by rw [← h1', hv]; rfl) (by rw [← h1', hv]; simp)
      obtain ⟨hvs, he⟩ := tmp_val hv (by simp)
      have hr2 : (res e0 (.tmp s)).2 = e0 r := by simp [res, opv, hvs, he, rootOf]
      rw [hr2] at hv2
      have hs1 : apply u1 e0 s = e0 s := apply_other u1 e0 s fun q hq hqs => by
        obtain ⟨st, cs, hb⟩ := hF q hq
        rw [hqs, he] at hb
        cases hb
      have hr : apply u1 e0 r = e0 r := apply_other u1 e0 r fun q hq hqr => by
        subst hu
        rw [List.map_append, List.nodup_append] at hnd
        exact hnd.2.2 q.1 (List.mem_map.2 ⟨q, hq, rfl⟩) r (by simp) hqr
      have href := I.ref s (by rw [hs1, he]; rfl)
      rw [hs1, he] at href
      obtain ⟨g, hg1, hg2⟩ := href cells (by rw [hr, hv2])
      exact step r st' cells cs' us' hv2 hok h1 hc hu (by rw [hg1, ← tmOf_ne B a hvs]; exact hg2)
    · have hx : opv (apply u1 e0) x = .iptr c o' := by
        cases x with
        | tmp s =>
          obtain ⟨hvs, he⟩ := tmp_val hv (by simp)
          simp only [opv]
          rw [if_neg hvs]
          rw [apply_other u1 e0 s fun q hq hqs => by
            obtain ⟨st, cs, hb⟩ := hF q hq
            rw [hqs, he] at hb
            cases hb]
          exact he
        | _ => exact hv
      have hi := I.imm x (by rw [hx]; rfl)
      rw [hx] at hi
      obtain ⟨Fz2, ob2, I2, hF2, hL⟩ := Inv.caps l u1 Fz ob cs' us I hF h1 hnd
      exact ⟨Fz2, ob2, I2, hF2, consL (hi.mono hF2 fun _ _ => rfl) hL⟩
theorem out_makeFunc (I : Inv B Fz e (tmOf B a) w ob S) {o : Oper} {d : Nat} {f : FuncId} {caps : Array Operand} (ho : o.op = .makeFunc (.func f) #[] caps)
    {cs : List PV} {u : Ups} (h : capS (caps.toList.map fun x => (x, res e x)) = some (cs, u)) (hnd : nodupB ((u.map (·.1)) ++ [d]) = true) :
    Out P B e a w S p o d (u ++ [(d, .func f cs)]) := by
  rw [nodupB_iff, List.nodup_append] at hnd
  obtain ⟨Fz', ob', I', _, hL⟩ := Inv.caps (e0 := e) caps.toList [] Fz ob cs u I (fun q hq => by cases hq) h (by simpa using hnd.1)
  rw [List.nil_append] at I'
  rw [Out, apply_snoc]
  have hLs : (caps.map a.eval).toList = caps.toList.map a.eval := by simp
  rw [← hLs] at hL
  have hsz : (caps.map a.eval).size = cs.length := by rw [← hL.1]; simp
  have himm : Imm w Fz' (.func (.func f) #[] (caps.map a.eval)) (.func f cs) := by
    refine .func f cs (caps.map a.eval) (fun i => (caps.map a.eval).toList.getD i undef) hsz (fun i q hq => ?_) (fun i q hq => ?_)
    · have hlt : i < (caps.map a.eval).toList.length := by rw [hL.1]; exact (List.getElem?_eq_some_iff.1 hq).1
      have h1 : (caps.map a.eval).toList[i]? = some ((caps.map a.eval).toList[i]'hlt) := List.getElem?_eq_getElem hlt
      rw [List.getD, h1]
      simpa using h1
    · have hlt : i < (caps.map a.eval).toList.length := by rw [hL.1]; exact (List.getElem?_eq_some_iff.1 hq).1
      have h1 : (caps.map a.eval).toList[i]? = some ((caps.map a.eval).toList[i]'hlt) := List.getElem?_eq_getElem hlt
      have := hL.2 i _ q h1 hq
      rw [List.getD, h1]
      exact this
  refine ⟨_, w, Fz', _, ?_, I'.putPlain d _ _ (.inl himm)⟩
  simp only [execOp, ho, Instr.makeFunc, Sem.run_bind, Sem.run_pure, Result.andThen_ok, Array.map_empty]
theorem Inv.storePtr (I : Inv B Fz e tm w ob S) {t r : Nat} {st st' : Stamp} {cs : List PV} (he : e t = .box st' [.nilp]) (hr : e r = .box st cs) (hne : r ≠ t) :
    ∃ g ty arr Fz' ob', tm t = .pointer (some ⟨g, 0, none⟩) ∧ w.heap[g]? = some (.cells arr ty (0, 0)) ∧ arr.size = 1 ∧
      Inv B Fz' (upd e t (.pvar r st)) tm (w.setRow g #[tm r]) ob' S := by
  obtain ⟨g, arr, ty, bs0, htm, hg, hreps, hob, hcc⟩ := I.boxAt he
  have hl := hreps.length
  have hgob : g ∈ ob t := by rw [hob]; simp
  refine ⟨g, ty, arr, fun b => Fz b ∨ b = g, upd ob t [], htm, hg, by simpa using hl, ?_⟩
  refine I.step (fun s => s = t) (fun _ h => h) rfl rfl rfl (by rw [setRow_size]; exact Nat.le_refl _) (fun b _ hb => setRow_other w g b _ fun h => hb t rfl (h ▸ hgob))
    (fun s hs => ⟨upd_other hs, rfl, upd_other hs⟩) (fun b hb => .inl hb) (fun x hx => hx.imp id fun (hx : x = g) => .inl ⟨t, rfl, by rw [hx]; exact hgob⟩) ?_ ?_ ?_ ?_ ?_ ?_
  · rintro s rfl b hb
    rw [upd_same] at hb
    cases hb
  · rintro s rfl; rw [upd_same]; exact List.nodup_nil
  · rintro s t rfl rfl hne; exact absurd rfl hne
  · rintro s rfl st1 hs
    rw [upd_same] at hs
    simp only [stampsOf, List.mem_singleton] at hs
    subst hs
    exact I.stamps r _ (by rw [hr]; simp [stampsOf, stamps1])
  · rintro s rfl
    refine RootStep.fresh ?_
    rw [upd_same]
    simp [stamps1]
  · rintro _ s rfl
    unfold SlotRep
    rw [upd_same, upd_same, if_pos (by simp [isRef])]
    exact ⟨rfl, fun cs' _ => ⟨g, ty, htm, .inr rfl, setRow_heap w g arr _ ty _ hg⟩⟩
theorem out_storeQ (I : Inv B Fz e (tmOf B a) w ob S) (hp : ¬ S p) {o : Oper} {t : TypeId} {x y : Operand} (ho : o.op = .store t x y) {n : Nat} (hs : sizeT P t = some n)
    {ups : Ups} {frz : Bool} (h : storeQ frz p n x (res e x) y (hint P t y (res e y)) = some ups) : OutS P B e a w S p o ups := by
  unfold storeQ at h
  split at h
  · rename_i u hu
    cases h
    unfold storeP at hu
    split at hu
    · rename_i tt st' hx
      obtain ⟨htv, he⟩ := tmp_val hx (by simp)
      have key : ∀ r st cs, e r = .box st cs → r ≠ tt → a.eval y = tmOf B a r → n = 1 → OutS P B e a w S p o [(tt, .pvar r st)] := by
        intro r st cs hr hne hev hn
        subst hn
        obtain ⟨g, ty, arr, Fz', ob', h1, h2, h3, I'⟩ := I.storePtr he hr hne
        have hb : ∃ g2, tmOf B a r = .pointer (some ⟨g2, 0, none⟩) := (I.boxAt hr).imp fun g2 h => by obtain ⟨_, _, _, h, _⟩ := h; exact h
        obtain ⟨g2, hg2⟩ := hb
        refine ⟨_, Fz', ob', ?_, I'.weaken fun _ h => .inl h⟩
        have hevx : a.eval (.tmp tt) = .pointer (some ⟨g, 0, none⟩) := (tmOf_ne B a htv).symm.trans h1
        have hrun := run_storeAt (P := P) (o := 0) (v := tmOf B a r) hs h2 (by rw [hg2]; rfl) (by rw [hg2, h3]; simp [Value.cells]) (by rw [hg2]; simp [Value.cells, Value.oneCell'])
        simp only [execOp, ho, Sem.run_bind, hevx, hev, hrun, Result.andThen_ok, Sem.run_pure]
        have : (arr.toList.take 0 ++ (tmOf B a r).cells.toList ++ arr.toList.drop (0 + (tmOf B a r).cells.toList.length)).toArray = #[tmOf B a r] := by
          have : arr.toList.tail = [] := List.eq_nil_of_length_eq_zero (by rw [List.length_tail, Array.length_toList, h3])
          rw [hg2]
          simp [Value.cells, this]
        rw [this]
      split at hu
      · rename_i hn
        split at hu
        · rename_i st cs hv
          split at hu
          · rename_i s
            split at hu
            · rename_i hne
              cases hu
              rw [hint_ne P t _ _ (by rw [hv]; rfl)] at hv
              obtain ⟨hvs, hes⟩ := tmp_val hv (by simp)
              exact key s st cs hes hne (tmOf_ne B a hvs).symm hn
            · cases hu
          · cases hu
        · rename_i r st hv
          split at hu
          · rename_i st1 cs hv2
            split at hu
            · rename_i hc
              obtain ⟨rfl, hne⟩ := hc
              cases hu
              have hh := hint_ne P t y (res e y) (by rw [hv]; rfl)
              rw [hh] at hv hv2
              obtain ⟨s, rfl, hvs, hes, k2⟩ := ref_tmp hv rfl (by simp)
              have hbox : e r = .box st1 cs := (k2 r rfl).symm.trans hv2
              have href := I.ref s (by rw [hes]; rfl)
              rw [hes] at href
              obtain ⟨g, h3, h4⟩ := href cs hbox
              exact key r st1 cs hbox hne ((tmOf_ne B a hvs).symm.trans (h4.trans h3.symm)) hn
            · cases hu
          · cases hu
        · cases hu
      · cases hu
    · cases hu
  · exact out_store I hp ho hs h
theorem out_assign (I : Inv B Fz e (tmOf B a) w ob S) (hp : ¬ S p) {keep : List Nat} {o : Oper} {d : Nat} {x : Operand} {ups : Ups} (ho : o.op = .assign x)
    (h : assignS keep p d x (hint P o.type x (res e x)) = some ups) : Out P B e a w S p o d ups := by
  unfold assignS at h
  split at h
  · rename_i u hu
    cases h
    unfold assignF at hu
    split at hu
    · rename_i r st hv
      split at hu
      · split at hu
        · rename_i st' cs hv2
          split at hu
          · rename_i hc
            obtain ⟨rfl, hne, hok⟩ := hc
            cases hu
            have hh := hint_ne P o.type x (res e x) (by rw [hv]; rfl)
            rw [hh] at hv hv2
            obtain ⟨s, rfl, hvs, he, h2⟩ := ref_tmp hv rfl (by simp)
            have hbox : e r = .box st' cs := (h2 r rfl).symm.trans hv2
            have href := I.ref s (by rw [he]; rfl)
            rw [he] at href
            obtain ⟨g, h3, h4⟩ := href cs hbox
            obtain ⟨I1, himm⟩ := I.freezeBox hbox hok
            refine ⟨_, w, _, _, ?_, I1.putPlain d (tmOf B a r) _ (.inl himm)⟩
            have hev : a.eval (.tmp s) = tmOf B a r := (tmOf_ne B a hvs).symm.trans (h4.trans h3.symm)
            simp [execOp, ho, hev]
          · cases hu
        · cases hu
      · cases hu
    · cases hu
  · exact out_move I hp _ (.inr ho) h
end
end Go.PE
