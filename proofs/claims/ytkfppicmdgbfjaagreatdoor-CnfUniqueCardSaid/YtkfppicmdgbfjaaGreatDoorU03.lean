/-
  A part of the proof that the law's function returns true and leaves its arguments as they were, for every input (no condition): own lemmas of the proof, in the order of their use.
-/
import Derived.Test.YtkfppicmdgbfjaaGreatDoorU02
import Derived.Laws.AppendOwn
import Derived.Laws.StructEq
import Derived.Laws.Slices
import Derived.Laws.IdiomStrings
import Derived.Laws.BytesString
import Derived.Laws.Small
import Derived.Laws.Rows
set_option linter.all false
namespace Go.PE
open Go.RowKit
section
variable {P : Program} {B : Base} {Fz : Nat → Prop} {e : Env} {a : Act} {tm : Tm} {w : World} {ob : Nat → List Nat} {S : Stamp → Prop} {p : Stamp}
def okV : PV → Bool
  | .agg _ => true
  | v => okC v
theorem okV_not_ref {v : PV} (h : okV v = true) : isRef v = false := by cases v <;> simp_all [okV, okC, isRef]
theorem okV_stamps1 {v : PV} (h : okV v = true) : stamps1 v = [] := by cases v <;> simp_all [okV, okC, stamps1]
theorem okV_stampsOf {v : PV} (h : okV v = true) : stampsOf v = [] := by cases v <;> simp_all [okV, okC, stampsOf, stamps1]
theorem Plain.okV {w : World} {Fz : Nat → Prop} {u : Value} {v : PV} (h : Plain w Fz u v) : okV v = true := by
  rcases h with h | ⟨arr, ps, _, rfl, _⟩
  · have := h.okC
    cases v <;> simp_all [PE.okV, PE.okC]
  · rfl
theorem Plain.rep {w : World} {Fz : Nat → Prop} {u : Value} {v : PV} (h : Plain w Fz u v) : Rep w Fz u v [] := by
  rcases h with h | ⟨arr, ps, rfl, rfl, h⟩
  · exact .plain h
  · exact .agg arr ps h
/-- A slot gets a plain value. -/
theorem Inv.putPlain (I : Inv B Fz e tm w ob S) (d : Nat) (u : Value) (v : PV) (h : Plain w Fz u v) :
    Inv B Fz (upd e d v) (upd tm d u) w (upd ob d []) (fun st => S st ∨ st = p) := by
  refine I.put1 d v u [] (fun _ h => .inl h) rfl rfl rfl (Nat.le_refl _) (fun _ _ => rfl) (by simp) (by simp) ?_ ?_ ?_
  · rw [okV_stampsOf h.okV]; simp
  · rw [okV_stamps1 h.okV]; simp
  · rw [if_neg (by simp [okV_not_ref h.okV])]
    exact h.rep
/-- A slot that speaks of another one. -/
theorem Inv.putRef (I : Inv B Fz e tm w ob S) (d : Nat) (u : Value) (v : PV) (hv : isRef v = true) (h : RefV w Fz e tm u v) (hS : ∀ st ∈ stampsOf v, S st) :
    Inv B Fz (upd e d v) (upd tm d u) w (upd ob d []) (fun st => S st ∨ st = p) := by
  refine I.put1 d v u [] (fun _ h => .inl h) rfl rfl rfl (Nat.le_refl _) (fun _ _ => rfl) (by simp) (by simp) (fun st h => .inl (hS st h)) ?_ ?_
  · cases v <;> simp_all [isRef, stamps1]
  · rw [if_pos hv]
    exact ⟨rfl, h, hS⟩
theorem stamps_stC (p : Stamp) (c : PV) : ∀ st ∈ stampsC (stC p c), st = p := by
  cases c <;> simp [stC, stampsC]
theorem stamps_st1 (p : Stamp) (c : PV) : ∀ st ∈ stamps1 (st1 p c), st = p := by
  cases c <;> simp [st1, stamps1]
  all_goals
    intro a b c _ h
    exact stamps_stC p _ _ h
theorem stamps_stm (p : Stamp) (v : PV) (h : isRef v = false) : ∀ st ∈ stampsOf (stm p v), st = p := by
  cases v <;> simp only [stm, isRef, stampsOf] at h ⊢
  case tup vs =>
    intro st hst
    simp only [List.mem_flatMap, List.mem_map] at hst
    obtain ⟨_, ⟨q, _, rfl⟩, h⟩ := hst
    exact stamps_st1 p q st h
  case own => intro st h; simpa [st1, stampsOf, stamps1] using h
  case nils => intro st h; simpa [st1, stampsOf, stamps1] using h
  case box st cs => exact stamps_st1 p (.box st cs)
  case oagg cs => exact stamps_st1 p (.oagg cs)
  all_goals simp_all [st1, stamps1]
/-- One slot's value goes to another slot. -/
theorem Inv.transfer (I : Inv B Fz e tm w ob S) (hp : ¬ S p) {t d : Nat} (htd : t ≠ d) (u : Value) (v : PV) (hv : isRef v = false) (hst : ∀ st ∈ stampsOf v, st = p) (hst1 : ∀ st ∈ stamps1 v, st = p)
    (hR : Rep w Fz u v (ob t)) :
    Inv B Fz (upd (upd e t .dead) d v) (upd tm d u) w (upd (upd ob t []) d (ob t)) (fun st => S st ∨ st = p) := by
  have hdt : d ≠ t := Ne.symm htd
  refine I.step (fun s => s = t ∨ s = d) (fun _ h => .inl h) rfl rfl rfl (Nat.le_refl _) (fun _ _ _ => rfl)
    (fun s hs => ?_) (fun _ h => h) (fun _ h => .inl h) ?_ ?_ ?_ ?_ ?_ ?_
  · rw [not_or] at hs
    simp [upd, hs.1, hs.2]
  · rintro s (rfl | rfl) b hb
    · simp [upd, htd] at hb
    · rw [upd_same] at hb
      exact ⟨.inl ⟨t, .inl rfl, hb⟩, I.notFz t b hb⟩
  · rintro s (rfl | rfl)
    · simp [upd, htd]
    · rw [upd_same]; exact I.nodup t
  · rintro s s' (rfl | rfl) (rfl | rfl) hne b hb
    · exact absurd rfl hne
    · simp [upd, htd] at hb
    · simp [upd, htd]
    · exact absurd rfl hne
  · rintro s (rfl | rfl) st hs
    · simp [upd, htd, stampsOf, stamps1] at hs
    · rw [upd_same] at hs; exact .inr (hst st hs)
  · rintro s (rfl | rfl)
    · refine RootStep.fresh ?_; simp [upd, htd, stamps1]
    · rw [upd_same, upd_same]; exact RootStep.fresh fun st h hS => hp (hst1 st h ▸ hS)
  · rintro _ s (rfl | rfl)
    · unfold SlotRep; simp [upd, htd, isRef, RefV]
    · unfold SlotRep; rw [upd_same, upd_same, upd_same, if_neg (by simp [hv])]; exact hR
/-- A slot's row is seen anew. -/
theorem Inv.retake (I : Inv B Fz e tm w ob S) (hp : ¬ S p) (d : Nat) (u : Value) (v : PV) (hv : isRef v = false) (hst : ∀ st ∈ stampsOf v, st = p) (hst1 : ∀ st ∈ stamps1 v, st = p)
    (hR : Rep w Fz u v (ob d)) : Inv B Fz (upd e d v) (upd tm d u) w ob (fun st => S st ∨ st = p) := by
  refine I.step (fun s => s = d) (fun _ h => .inl h) rfl rfl rfl (Nat.le_refl _) (fun _ _ _ => rfl)
    (fun s hs => ⟨upd_other hs, upd_other hs, rfl⟩) (fun _ h => h) (fun _ h => .inl h) ?_ ?_ ?_ ?_ ?_ ?_
  · rintro s rfl b hb
    exact ⟨.inl ⟨s, rfl, hb⟩, I.notFz s b hb⟩
  · rintro s rfl; exact I.nodup s
  · rintro s s' rfl rfl hne; exact absurd rfl hne
  · rintro s rfl st hs
    rw [upd_same] at hs; exact .inr (hst st hs)
  · rintro s rfl
    rw [upd_same, upd_same]; exact RootStep.fresh fun st h hS => hp (hst1 st h ▸ hS)
  · rintro _ s rfl
    unfold SlotRep; rw [upd_same, upd_same, if_neg (by simp [hv])]; exact hR
theorem Rep.takeRow {w : World} {Fz : Nat → Prop} {A : Option Addr} {n cap len sz : Nat} {st : Stamp} {xs : List (List PV)} {bs : List Nat}
    (h : Rep w Fz (.slice A n cap) (.own st sz xs) bs) (hl : len ≤ xs.length) (p : Stamp) : Rep w Fz (.slice A len cap) (.own p sz (xs.take len)) bs := by
  cases h with
  | plain h => exact absurd h.okC (by simp [okC])
  | ownNil st sz =>
    obtain rfl : len = 0 := by simpa using hl
    exact .ownNil p sz
  | own g n cap cur e st sz xs c hg hn hc hm hs hu hcell hr =>
    have key : ∀ i j q, cell2 (xs.take len) i j = some q → cell2 xs i j = some q := by
      intro i j q h
      unfold cell2 at h ⊢
      rw [List.getElem?_take] at h
      split at h
      · exact h
      · simp at h
    exact .own g len cap cur e p sz _ c hg (by rw [List.length_take]; omega) (by omega) hm hs (fun x hx => hu x (List.mem_of_mem_take hx))
      (fun i j q h => hcell i j q (key i j q h)) (fun i j q h => hr i j q (key i j q h))
theorem rowIf_none {v : PV} {st : Stamp} {sz : Nat} {xs : List (List PV)} (h : rowIf v none st = some (sz, xs)) : v = .own st sz xs := by
  have h := rowIf_stamp h
  unfold rowAt? at h
  split at h
  · simp only [Option.some.injEq, Prod.mk.injEq] at h
    obtain ⟨rfl, rfl, rfl⟩ := h
    rfl
  · rename_i h0 _; cases h0
  · cases h
/-- What an operation hands on. -/
def Out (P : Program) (B : Base) (e : Env) (a : Act) (w : World) (S : Stamp → Prop) (p : Stamp) (o : Oper) (d : Nat) (ups : Ups) : Prop :=
  ∃ u w' Fz' ob', (execOp a.eval o).run P w = .ok (.value u) w' ∧ Inv B Fz' (apply ups e) (upd (tmOf B a) d u) w' ob' (fun st => S st ∨ st = p)
theorem Rep.stC {w : World} {Fz : Nat → Prop} {u : Value} {v : PV} {bs : List Nat} (h : Rep w Fz u v bs) (p : Stamp) : Rep w Fz u (stC p v) bs := by
  have h0 := h
  cases h with
  | plain h =>
    cases h with
    | nils sz => exact .ownNil p sz
    | _ => exact h0
  | omap g clock es st ks vs c hg hm hr => exact .omap g clock es p ks vs c hg hm hr
  | ownNil st sz => exact .ownNil p sz
  | own g n cap cur e st sz xs c hg hn hc hm hs hu hcell hr => exact .own g n cap cur e p sz xs c hg hn hc hm hs hu hcell hr
  | _ => exact h0
theorem Reps.stC {w : World} {Fz : Nat → Prop} : ∀ {vs : List Value} {ps : List PV} {bs : List Nat}, Reps w Fz vs ps bs → (p : Stamp) → Reps w Fz vs (ps.map (stC p)) bs
  | _, _, _, .nil, _ => .nil
  | _, _, _, .cons h hs, p => .cons (h.stC p) (hs.stC p)
theorem cellC_stC (p : Stamp) (v : PV) (h : cellC v = true) : cellC (stC p v) = true := by cases v <;> simp_all [cellC, PE.stC, okC]
theorem cellC_all_stC (p : Stamp) (cs : List PV) (h : cs.all cellC = true) : (cs.map (stC p)).all cellC = true := by
  rw [List.all_eq_true] at h ⊢
  intro x hx
  obtain ⟨q, hq, rfl⟩ := List.mem_map.1 hx
  exact cellC_stC p q (h q hq)
theorem Rep.oaggC {w : World} {Fz : Nat → Prop} {u : Value} {cs : List PV} {bs : List Nat} (h : Rep w Fz u (.oagg cs) bs) (p : Stamp) : Rep w Fz u (.oagg (cs.map (PE.stC p))) bs := by
  cases h with
  | plain h => exact absurd h.okC (by simp [okC])
  | oagg arr ps bs h hc hs =>
    refine .oagg arr _ bs (h.stC p) (cellC_all_stC p cs hc) fun q hq => ?_
    obtain ⟨q', hq', rfl⟩ := List.mem_map.1 hq
    have := hs q' hq'
    cases q' <;> simp_all [PE.stC, isSelf]
theorem Rep.st1 {w : World} {Fz : Nat → Prop} {u : Value} {v : PV} {bs : List Nat} (h : Rep w Fz u v bs) (p : Stamp) : Rep w Fz u (st1 p v) bs := by
  cases v with
  | nils sz => exact h.stC p
  | own st sz xs => exact h.stC p
  | omap st ks vs => exact h.stC p
  | oagg cs => exact h.oaggC p
  | agg cs =>
    cases h with
    | plain h => exact absurd h.okC (by simp [okC])
    | agg arr ps h =>
      refine .agg arr _ ⟨by simpa using h.1, fun i v q hv hq => ?_⟩
      rw [List.getElem?_map] at hq
      obtain ⟨q', hq', rfl⟩ := Option.map_eq_some_iff.1 hq
      have h9 := h.2 i v q' hv hq'
      have e9 : frzO q' = q' := by cases h9 <;> rfl
      rw [e9]; exact h9
  | box st cs =>
    cases h with
    | plain h => exact absurd h.okC (by simp [okC])
    | box g arr e st ps bs hg h hc => exact .box g arr e p _ bs hg (h.stC p) (SelfOK.map hc (fun q hq => by cases q <;> simp_all [PE.stC, cellC, okC]) (fun q hq => by cases q <;> simp_all [PE.stC, isSelf]))
  | _ => exact h
theorem Reps.st1 {w : World} {Fz : Nat → Prop} : ∀ {vs : List Value} {ps : List PV} {bs : List Nat}, Reps w Fz vs ps bs → (p : Stamp) → Reps w Fz vs (ps.map (st1 p)) bs
  | _, _, _, .nil, _ => .nil
  | _, _, _, .cons h hs, p => .cons (h.st1 p) (hs.st1 p)
theorem Rep.stm {w : World} {Fz : Nat → Prop} {u : Value} {v : PV} {bs : List Nat} (h : Rep w Fz u v bs) (p : Stamp) : Rep w Fz u (stm p v) bs := by
  cases v with
  | tup vs =>
    cases h with
    | plain h => exact absurd h.okC (by simp [okC])
    | tup arr ps bs h => exact .tup arr _ bs (h.st1 p)
  | _ => exact h.st1 p
theorem isRef_stm (p : Stamp) (v : PV) (h : isRef v = false) : isRef (stm p v) = false := by cases v <;> simp_all [isRef, stm, PE.st1]
theorem Rep.st1o {w : World} {Fz : Nat → Prop} {u : Value} {v : PV} {bs : List Nat} (h : Rep w Fz u v bs) (p : Stamp) : Rep w Fz u (st1o p v) bs := by
  cases v with
  | nils sz => exact h.stC p
  | own st sz xs => exact h.stC p
  | omap st ks vs => exact h.stC p
  | oagg cs => exact h.oaggC p
  | agg cs =>
    cases h with
    | plain h => exact absurd h.okC (by simp [okC])
    | agg arr ps h =>
      refine .agg arr _ ⟨by simpa using h.1, fun i v q hv hq => ?_⟩
      rw [List.getElem?_map] at hq
      obtain ⟨q', hq', rfl⟩ := Option.map_eq_some_iff.1 hq
      exact (h.2 i v q' hv hq').frzC
  | box st cs =>
    cases h with
    | plain h => exact absurd h.okC (by simp [okC])
    | box g arr e st ps bs hg h hc => exact .box g arr e p _ bs hg (h.stC p) (SelfOK.map hc (fun q hq => by cases q <;> simp_all [PE.stC, cellC, okC]) (fun q hq => by cases q <;> simp_all [PE.stC, isSelf]))
  | _ => exact h
theorem Reps.st1o {w : World} {Fz : Nat → Prop} : ∀ {vs : List Value} {ps : List PV} {bs : List Nat}, Reps w Fz vs ps bs → (p : Stamp) → Reps w Fz vs (ps.map (st1o p)) bs
  | _, _, _, .nil, _ => .nil
  | _, _, _, .cons h hs, p => .cons (h.st1o p) (hs.st1o p)
theorem Rep.stmo {w : World} {Fz : Nat → Prop} {u : Value} {v : PV} {bs : List Nat} (h : Rep w Fz u v bs) (p : Stamp) : Rep w Fz u (stmo p v) bs := by
  cases v with
  | tup vs =>
    cases h with
    | plain h => exact absurd h.okC (by simp [okC])
    | tup arr ps bs h => exact .tup arr _ bs (h.st1o p)
  | _ => exact h.st1o p
theorem isRef_stmo (p : Stamp) (v : PV) (h : isRef v = false) : isRef (stmo p v) = false := by cases v <;> simp_all [isRef, stmo, PE.st1o]
theorem PlaceVal.unique {w : World} {v : Value} {pl : Option Nat} {x y : Value} (h : PlaceVal w v pl x) (h' : PlaceVal w v pl y) : x = y := by
  cases pl with
  | none => exact h.symm.trans h'
  | some c =>
    obtain ⟨g, e1, e2⟩ := h
    obtain ⟨g', e3, e4⟩ := h'
    rw [e1] at e3
    simp only [Value.pointer.injEq, Option.some.injEq, Addr.mk.injEq, and_true] at e3
    subst e3
    rw [e2] at e4
    exact Option.some.inj e4
/-- A value that is moved or assigned: its machine value stays. -/
theorem Inv.move (I : Inv B Fz e (tmOf B a) w ob S) (hp : ¬ S p) {assign : Bool} {keep : List Nat} {d : Nat} {x : Operand} {t : TypeId} {ups : Ups}
    (h : moveS assign keep p d x (hint P t x (res e x)) = some ups) :
    ∃ Fz' ob', Inv B Fz' (apply ups e) (upd (tmOf B a) d (a.eval x)) w ob' (fun st => S st ∨ st = p) := by
  by_cases hok : okC (hint P t x (res e x)).1 = true
  · have hi := I.immH P t x hok
    have hu : ups = [(d, (hint P t x (res e x)).1)] := by
      generalize hint P t x (res e x) = vr at *
      obtain ⟨v1, v2⟩ := vr
      cases v1 <;> simp_all [moveS, okC]
    rw [hu]
    exact ⟨Fz, _, I.putPlain d _ _ (.inl hi)⟩
  · rw [Bool.not_eq_true] at hok
    rw [hint_ne P t x _ hok] at h hok
    cases x with
    | const c =>
      rcases const_cases c with h' | h'
      · have hv : (res e (.const c)).1 = constPV c := rfl
        rw [hv, h'] at hok; cases hok
      · have hv : (res e (.const c)).1 = .dead := h'
        unfold moveS at h
        rw [hv] at h
        simp [okC] at h
    | global g =>
      have hv : (res e (.global g)).1 = globPV g := rfl
      rcases globPV_cases g with h' | ⟨_, _, h'⟩
      · unfold moveS at h; rw [hv, h'] at h; simp [okC] at h
      · rw [hv, h'] at hok; cases hok
    | func f => simp [res, opv, okC] at hok
    | tmp s =>
      obtain ⟨hvs, hrs⟩ : s ≠ VS ∧ res e (.tmp s) = (e s, match rootOf (e s) with | some r => e r | none => .dead) := by
        rcases res_tmp e s with ⟨_, h2⟩ | h1
        · unfold moveS at h; rw [h2] at h; simp [okC] at h
        · exact h1
      have hev : a.eval (.tmp s) = tmOf B a s := (tmOf_ne B a hvs).symm
      rw [hrs] at h hok
      rw [hev]
      unfold moveS at h
      simp only at h hok
      cases hes : e s with
      | own st sz xs =>
        rw [hes] at h
        simp only at h
        have hR := I.slot s (by rw [hes]; rfl)
        rw [hes] at hR
        split at h
        · cases h
        · rename_i hne
          split at h
          · simp only [Option.some.injEq] at h
            subst h
            exact ⟨Fz, _, I.transfer hp hne _ (.own p sz xs) rfl (by simp [stampsOf, stamps1]) (by simp [stamps1]) (hR.stC p)⟩
          · simp only [Option.some.injEq] at h
            subst h
            refine ⟨Fz, _, I.putRef d _ (.snap s none st 0 xs.length) rfl ?_ ?_⟩
            · intro sz' xs' hr
              have hr := rowIf_stamp hr
              rw [hes] at hr
              simp only [rowAt?, Option.some.injEq, Prod.mk.injEq] at hr
              obtain ⟨_, rfl, rfl⟩ := hr
              refine ⟨by omega, ?_⟩
              generalize tmOf B a s = u at *
              generalize ob s = bs at *
              cases hR with
              | plain h => exact absurd h.okC (by simp [okC])
              | ownNil => exact ⟨none, 0, 0, none, 0, rfl, by simp, by simp, fun _ => ⟨rfl, rfl⟩, fun ad h => by cases h⟩
              | own g n cap cur e st sz xs c hg hn hc hm hs hu hcell hr =>
                subst hn
                refine ⟨_, _, cap, _, cap, rfl, rfl, hc, fun _ => ⟨rfl, rfl⟩, fun ad h _ => ?_⟩
                cases h
                simp [Addr.add]
            · intro st' hst
              simp only [stampsOf, List.mem_singleton] at hst
              subst hst
              exact I.stamps s st' (by rw [hes]; simp [stampsOf, stamps1])
      | box st cs =>
        rw [hes] at h
        simp only at h
        have hR := I.slot s (by rw [hes]; rfl)
        rw [hes] at hR
        split at h
        · cases h
        · rename_i hne
          split at h
          · simp only [Option.some.injEq] at h
            subst h
            exact ⟨Fz, _, I.transfer hp hne _ (.box p (cs.map (stC p))) rfl (stamps_stm p (.box st cs) rfl) (stamps_st1 p (.box st cs)) (hR.st1 p)⟩
          · simp only [Option.some.injEq] at h
            subst h
            refine ⟨Fz, _, I.putRef d _ (.loc s st 0) rfl ?_ ?_⟩
            · intro cs' _
              generalize tmOf B a s = u at *
              generalize ob s = bs at *
              cases hR with
              | plain h => exact absurd h.okC (by simp [okC])
              | box g arr e st ps bs hg h hc => exact ⟨g, rfl, rfl⟩
            · intro st' hst
              simp only [stampsOf, List.mem_singleton] at hst
              subst hst
              exact I.stamps s st' (by rw [hes]; simp [stampsOf, stamps1])
      | agg cs =>
        rw [hes] at h
        simp only [Option.some.injEq] at h
        subst h
        have hR := I.slot s (by rw [hes]; rfl)
        rw [hes] at hR
        refine ⟨Fz, _, I.putPlain d _ (.agg cs) ?_⟩
        generalize tmOf B a s = u at *
        generalize ob s = bs at *
        cases hR with
        | plain h => exact absurd h.okC (by simp [okC])
        | agg arr _ h => exact .inr ⟨arr, _, rfl, rfl, h⟩
      | tup vs =>
        rw [hes] at h
        simp only at h
        have hR := I.slot s (by rw [hes]; rfl)
        rw [hes] at hR
        split at h
        · cases h
        · rename_i hne
          simp only [Option.some.injEq] at h
          subst h
          refine ⟨Fz, _, I.transfer hp hne _ (stm p (.tup vs)) rfl (stamps_stm p (.tup vs) rfl) (by simp [stm, stamps1]) (hR.stm p)⟩
      | loc r st o =>
        rw [hes] at h
        simp only [Option.some.injEq] at h
        subst h
        have hR := I.ref s (by rw [hes]; rfl)
        rw [hes] at hR
        exact ⟨Fz, _, I.putRef d _ _ rfl hR fun st' hst => I.stamps s st' (by rw [hes]; exact hst)⟩
      | mref r pl st =>
        rw [hes] at h
        simp only [rootOf] at h
        have hR := I.ref s (by rw [hes]; rfl)
        rw [hes] at hR
        split at h
        · split at h
          · rename_i st' ks vs he
            split at h
            · rename_i hc
              obtain ⟨rfl, hne⟩ := hc
              cases h
              have hpv := hR ks vs (by rw [he]; exact mapIf_of rfl)
              have hR2 := I.slot r (by rw [he]; rfl)
              rw [he, show tmOf B a r = _ from hpv] at hR2
              exact ⟨Fz, _, I.transfer hp hne _ (.omap p ks vs) rfl (by simp [stampsOf, stamps1]) (by simp [stamps1]) (hR2.stC p)⟩
            · cases h
          · cases h
        · simp only [Option.some.injEq] at h
          subst h
          exact ⟨Fz, _, I.putRef d _ _ rfl hR fun st' hst => I.stamps s st' (by rw [hes]; exact hst)⟩
      | omap st ks vs =>
        rw [hes] at h
        simp only at h
        have hR := I.slot s (by rw [hes]; rfl)
        rw [hes] at hR
        split at h
        · cases h
        · rename_i hne
          split at h
          · simp only [Option.some.injEq] at h
            subst h
            exact ⟨Fz, _, I.transfer hp hne _ (.omap p ks vs) rfl (by simp [stampsOf, stamps1]) (by simp [stamps1]) (hR.stC p)⟩
          · simp only [Option.some.injEq] at h
            subst h
            refine ⟨Fz, _, I.putRef d _ (.mref s none st) rfl (fun ks' vs' _ => rfl) ?_⟩
            intro st' hst
            simp only [stampsOf, List.mem_singleton] at hst
            subst hst
            exact I.stamps s st' (by rw [hes]; simp [stampsOf, stamps1])
      | eloc r pl st i k =>
        rw [hes] at h
        simp only [Option.some.injEq] at h
        subst h
        have hR := I.ref s (by rw [hes]; rfl)
        rw [hes] at hR
        exact ⟨Fz, _, I.putRef d _ _ rfl hR fun st' hst => I.stamps s st' (by rw [hes]; exact hst)⟩
      | snap r pl st off len =>
        rw [hes] at h
        simp only [rootOf] at h
        have hR := I.ref s (by rw [hes]; rfl)
        rw [hes] at hR
        split at h
        · -- assigned
          split at h
          · cases h
          · rename_i sz xs hr
            obtain ⟨h4, A, n, cap, A', cap', h5, h6, h7, h8, h9⟩ := hR sz xs hr
            obtain ⟨u, bs, g1, g2, g3⟩ := I.row hr
            obtain rfl := g1.unique h5
            rw [h6]
            by_cases hd : r = d
            · rw [if_pos hd] at h
              split at h
              · rename_i hc
                obtain ⟨rfl, rfl⟩ := hc
                simp only [Option.some.injEq] at h
                subst h hd
                obtain ⟨rfl, rfl⟩ := h8 rfl
                have he := rowIf_none hr
                have hR := I.slot r (by rw [he]; rfl)
                rw [he, show tmOf B a r = _ from h5] at hR
                exact ⟨Fz, _, I.retake hp r _ _ rfl (by simp [stampsOf, stamps1]) (by simp [stamps1]) (hR.takeRow (by omega) p)⟩
              · cases h
            · rw [if_neg hd] at h
              split at h
              · rename_i hc
                obtain ⟨rfl, rfl, _⟩ := hc
                simp only [Option.some.injEq] at h
                subst h
                obtain ⟨rfl, rfl⟩ := h8 rfl
                have he := rowIf_none hr
                have hR := I.slot r (by rw [he]; rfl)
                rw [he, show tmOf B a r = _ from h5] at hR
                exact ⟨Fz, _, I.transfer hp hd _ (.own p sz (xs.take len)) rfl (by simp [stampsOf, stamps1]) (by simp [stamps1]) (hR.takeRow (by omega) p)⟩
              · simp only [Option.some.injEq] at h
                subst h
                obtain ⟨bs', ob', I', _, _, _, u', k1, k2⟩ := I.freezeRow hr
                obtain rfl := k1.unique h5
                exact ⟨_, _, I'.putPlain d _ _ (.inl (k2.part h4 h7 h9))⟩
        · simp only [Option.some.injEq] at h
          subst h
          exact ⟨Fz, _, I.putRef d _ _ rfl hR fun st' hst => I.stamps s st' (by rw [hes]; exact hst)⟩
      | _ => rw [hes] at h hok; simp_all [okC]
end
end Go.PE
namespace Go.PE
open Go.RowKit
section
variable {P : Program} {B : Base} {Fz : Nat → Prop} {e : Env} {a : Act} {tm : Tm} {w : World} {ob : Nat → List Nat} {S : Stamp → Prop} {p : Stamp}
theorem Inv.int (I : Inv B Fz e (tmOf B a) w ob S) {x : Operand} {k : IntKind} {n : Int} (h : (res e x).1 = .int k n) : a.eval x = .int k n := by
  have hi := I.imm x (by show okC (res e x).1 = true; rw [h]; rfl)
  rw [show opv e x = _ from h] at hi
  generalize a.eval x = u at *
  cases hi; rfl
theorem Inv.bool (I : Inv B Fz e (tmOf B a) w ob S) {x : Operand} {b : Bool} (h : (res e x).1 = .bool b) : a.eval x = .bool b := by
  have hi := I.imm x (by show okC (res e x).1 = true; rw [h]; rfl)
  rw [show opv e x = _ from h] at hi
  generalize a.eval x = u at *
  cases hi; rfl
theorem Inv.str (I : Inv B Fz e (tmOf B a) w ob S) {x : Operand} {s : List UInt8} (h : (res e x).1 = .str s) : ∃ b : ByteArray, a.eval x = .string b ∧ b.data.toList = s := by
  have hi := I.imm x (by show okC (res e x).1 = true; rw [h]; rfl)
  rw [show opv e x = _ from h] at hi
  generalize a.eval x = u at *
  cases hi with
  | str s => exact ⟨s, rfl, rfl⟩
theorem Inv.agg (I : Inv B Fz e (tmOf B a) w ob S) {x : Operand} {cs : List PV} (h : (res e x).1 = .agg cs) : ∃ arr, a.eval x = .agg arr ∧ ImmL w Fz arr.toList cs := by
  cases x with
  | const c =>
    have : constPV c = .agg cs := h
    rcases const_cases c with h' | h' <;> rw [this] at h' <;> simp [okC] at h'
  | global g =>
    have h : globPV g = .agg cs := h
    rcases globPV_cases g with h' | ⟨_, _, h'⟩ <;> rw [h'] at h <;> cases h
  | func f => cases h
  | tmp s =>
    obtain ⟨hvs, he⟩ := tmp_val h (by simp)
    have hR := I.slot s (by rw [he]; rfl)
    rw [he] at hR
    rw [← tmOf_ne B a hvs]
    generalize tmOf B a s = u at *
    generalize ob s = bs at *
    cases hR with
    | plain h => exact absurd h.okC (by simp [okC])
    | agg arr ps h => exact ⟨arr, rfl, h⟩
theorem out_of {o : Oper} {d : Nat} {u : Value} {w' : World} {Fz' : Nat → Prop} {ob' : Nat → List Nat} {ups : Ups}
    (hr : (execOp a.eval o).run P w = .ok (.value u) w') (h : Inv B Fz' (apply ups e) (upd (tmOf B a) d u) w' ob' (fun st => S st ∨ st = p)) : Out P B e a w S p o d ups :=
  ⟨u, w', Fz', ob', hr, h⟩
theorem out_plain (I : Inv B Fz e (tmOf B a) w ob S) {o : Oper} {d : Nat} {u : Value} {v : PV} (hr : (execOp a.eval o).run P w = .ok (.value u) w) (h : Plain w Fz u v) :
    Out P B e a w S p o d [(d, v)] := out_of hr (I.putPlain d u v h)
theorem toList_data (s : ByteArray) : s.toList = s.data.toList := ByteArray.toList_eq s
theorem out_move (I : Inv B Fz e (tmOf B a) w ob S) (hp : ¬ S p) {keep : List Nat} {o : Oper} {d : Nat} {x : Operand} {ups : Ups} (asg : Bool)
    (ho : o.op = .move x ∨ o.op = .assign x) (h : moveS asg keep p d x (hint P o.type x (res e x)) = some ups) : Out P B e a w S p o d ups := by
  obtain ⟨Fz', ob', I'⟩ := I.move hp h
  refine out_of ?_ I'
  rcases ho with ho | ho <;> simp [execOp, ho]
theorem out_pick (I : Inv B Fz e (tmOf B a) w ob S) {o : Oper} {d : Nat} {c x y : Operand} {ups : Ups} (ho : o.op = .pick c x y) {t v : Bool}
    (hc : (res e c).1 = .bool t) (hx : (res e (if t then x else y)).1 = .bool v) (hu : ups = [(d, .bool v)]) : Out P B e a w S p o d ups := by
  subst hu
  have h1 := I.bool hc
  have h2 := I.bool hx
  refine out_plain I (u := .bool v) ?_ (.inl (.bool v))
  simp only [execOp, ho, Sem.run_bind, h1, asBool, Sem.run_pure, Result.andThen_ok]
  cases t <;> simp_all
theorem cmp_sound {op : BinOp} {k : IntKind} {x y : Int} {v : Bool} (h : cmpI op x y = some v) (t : TypeId) :
    (binOp op t (.int k x) (.int k y)).run P w = .ok (.bool v) w := by
  cases op <;> simp only [cmpI, Option.some.injEq, reduceCtorEq] at h <;> subst h <;> simp [binOp, Op.intCmp]
theorem bits_sound {op : BinOp} {k : IntKind} {x y : Int} {v : Int} (h : bitsI op k x y = some v) (t : TypeId) :
    (binOp op t (.int k x) (.int k y)).run P w = .ok (.int k v) w := by
  cases op <;> simp only [bitsI, Option.some.injEq, reduceCtorEq] at h <;> subst h <;> simp [binOp, Op.intBits]
theorem arith_sound {op : BinOp} {k : IntKind} {x y : Int} {v : PV} (h : arithI op k x y = some v) (t : TypeId) :
    ∃ u, (binOp op t (.int k x) (.int k y)).run P w = .ok u w ∧ Imm w Fz u v := by
  have hb : ∀ n, bitsI op k x y = some n → ∃ u, (binOp op t (.int k x) (.int k y)).run P w = .ok u w ∧ Imm w Fz u (.int k n) := fun n hn => ⟨_, bits_sound hn t, .int _ _⟩
  have hc : ∀ c, cmpI op x y = some c → ∃ u, (binOp op t (.int k x) (.int k y)).run P w = .ok u w ∧ Imm w Fz u (.bool c) := fun c hn => ⟨_, cmp_sound hn t, .bool _⟩
  cases op <;> simp only [arithI] at h
  case add => cases h; exact ⟨.int k (k.wrap (x + y)), by simp [binOp, Op.intArith], .int _ _⟩
  case sub => cases h; exact ⟨.int k (k.wrap (x - y)), by simp [binOp, Op.intArith], .int _ _⟩
  case mul => cases h; exact ⟨.int k (k.wrap (x * y)), by simp [binOp, Op.intArith], .int _ _⟩
  case quo =>
    split at h
    · cases h
    · rename_i hy; cases h; exact ⟨.int k (k.wrap (x.tdiv y)), by simp [binOp, Op.intDiv, hy], .int _ _⟩
  case rem =>
    split at h
    · cases h
    · rename_i hy; cases h; exact ⟨.int k (x.tmod y), by simp [binOp, Op.intDiv, hy], .int _ _⟩
  case shl => cases h
  case shr => cases h
  case and => obtain ⟨n, hn, rfl⟩ := Option.map_eq_some_iff.1 h; exact hb n hn
  case or => obtain ⟨n, hn, rfl⟩ := Option.map_eq_some_iff.1 h; exact hb n hn
  case xor => obtain ⟨n, hn, rfl⟩ := Option.map_eq_some_iff.1 h; exact hb n hn
  case andNot => obtain ⟨n, hn, rfl⟩ := Option.map_eq_some_iff.1 h; exact hb n hn
  all_goals (obtain ⟨n, hn, rfl⟩ := Option.map_eq_some_iff.1 h; exact hc n hn)
theorem shift_sound {op : BinOp} {k k' : IntKind} {x y : Int} {v : PV} (h : shiftI op k x y = some v) (t : TypeId) :
    ∃ u, (binOp op t (.int k x) (.int k' y)).run P w = .ok u w ∧ Imm w Fz u v := by
  unfold shiftI at h
  split at h
  · cases h
  · rename_i hy
    cases op <;> simp only [Option.some.injEq, reduceCtorEq] at h <;> subst h
    · refine ⟨.int k (k.wrap (x * 2 ^ (min y.toNat k.bits))), ?_, .int _ _⟩
      show (Op.shift .shl k x k' y).run P w = _
      unfold Op.shift
      rw [if_neg hy]
      rfl
    · refine ⟨.int k (x.fdiv (2 ^ (min y.toNat k.bits))), ?_, .int _ _⟩
      show (Op.shift .shr k x k' y).run P w = _
      unfold Op.shift
      rw [if_neg hy]
      rfl
theorem str_sound {op : BinOp} {x y : ByteArray} {v : PV} (h : strI op x.data.toList y.data.toList = some v) (t : TypeId) :
    ∃ u, (binOp op t (.string x) (.string y)).run P w = .ok u w ∧ Imm w Fz u v := by
  cases op <;> simp only [strI, Option.some.injEq, reduceCtorEq] at h
  case add =>
    split at h
    · rename_i hl
      simp only [Option.some.injEq] at h; subst h
      have hx : x.size = x.data.toList.length := by rw [Array.length_toList]; rfl
      have hy : y.size = y.data.toList.length := by rw [Array.length_toList]; rfl
      refine ⟨.string (x ++ y), ?_, ?_⟩
      · have : ¬ (((x.size + y.size : Nat) : Int) > IntKind.i64.max) := by
          have : IntKind.i64.max = 9223372036854775807 := by decide
          omega
        simp only [binOp, Op.stringOp, this, if_false, Sem.run_pure]
      · have := Imm.str (w := w) (Fz := Fz) (x ++ y)
        rwa [show (x ++ y).data.toList = x.data.toList ++ y.data.toList from by simp [ByteArray.data_append]] at this
    · cases h
  all_goals subst h
  all_goals refine ⟨_, ?_, .bool _⟩
  all_goals simp [binOp, Op.stringOp, toList_data]
theorem ImmL.sub {w : World} {Fz : Nat → Prop} {arr : Array Value} {ps : List PV} (h : ImmL w Fz arr.toList ps) (o n : Nat) :
    ImmL w Fz (arr.extract o (o + n)).toList ((ps.drop o).take n) := by
  have e : (arr.extract o (o + n)).toList = (arr.toList.drop o).take n := by
    simp [Array.toList_extract, List.extract_eq_take_drop]
  rw [e]
  refine ⟨by simp [h.1], fun i v p hv hp => ?_⟩
  rw [List.getElem?_take] at hv hp
  split at hv
  · rename_i hi
    rw [if_pos hi] at hp
    rw [List.getElem?_drop] at hv hp
    exact h.2 _ v p hv hp
  · cases hv
/-- A value of a type: a struct's cells, or one cell. -/
def TVal (w : World) (Fz : Nat → Prop) (agg : Bool) (v : Value) (ps : List PV) : Prop :=
  if agg then ∃ arr, v = .agg arr ∧ ImmL w Fz arr.toList ps else ∃ p, ps = [p] ∧ Imm w Fz v p
theorem run_isAgg {t : TypeId} {b : Bool} (h : isAggT P t = some b) : (isAgg t).run P w = .ok b w := by
  unfold isAggT at h
  split at h
  · rename_i fs hu; cases h; simp [isAgg, run_underlying hu]
  · rename_i n e hu; cases h; simp [isAgg, run_underlying hu]
  · rename_i d h1 h2 hu
    cases h
    simp only [isAgg, Sem.run_bind, run_underlying hu, Result.andThen_ok]
    cases d <;> simp_all
  · cases h
theorem run_sizeOf {t : TypeId} {n : Nat} (h : sizeT P t = some n) : (sizeOf t).run P w = .ok n w := by
  unfold sizeT at h
  obtain ⟨i, hi, rfl⟩ := Option.map_eq_some_iff.1 h
  simp [sizeOf, typeInfo, hi]
theorem run_part {t : TypeId} {arr : Array Value} {ps : List PV} {o m : Nat} {ag : Bool} (hs : sizeT P t = some m) (ha : isAggT P t = some ag) (h : ImmL w Fz arr.toList ps)
    (hl : o + m ≤ ps.length) (h1 : ag = true ∨ m = 1) : ∃ v, (part t arr o).run P w = .ok v w ∧ TVal w Fz ag v ((ps.drop o).take m) := by
  cases ag with
  | true =>
    refine ⟨.agg (arr.extract o (o + m)), ?_, ?_⟩
    · simp [part, run_isAgg ha, run_sizeOf hs]
    · exact ⟨_, rfl, h.sub o m⟩
  | false =>
    obtain rfl : m = 1 := by simpa using h1
    have hla := h.1
    have ho : o < arr.size := by rw [← Array.length_toList, hla]; omega
    refine ⟨arr[o], ?_, ?_⟩
    · simp [part, run_isAgg ha, ho]
    · refine ⟨ps[o]'(by omega), ?_, ?_⟩
      · rw [List.drop_eq_getElem_cons (by omega)]; simp only [List.take_succ_cons, List.take_zero]
      · exact h.2 o _ _ (by simp [ho]) (List.getElem?_eq_getElem (by omega))
theorem eqT_sound : ∀ (n d : Nat) (t : TypeId) (xs ys : List PV) (b ag : Bool) (vx vy : Value), n ≤ d → eqT P n t xs ys = some b → isAggT P t = some ag →
    TVal w Fz ag vx xs → TVal w Fz ag vy ys → (Op.equalIn d t vx vy).run P w = .ok b w
  | 0, d, t, xs, ys, b, ag, vx, vy, hd, h, ha, hx, hy => by simp [eqT] at h
  | n + 1, 0, t, xs, ys, b, ag, vx, vy, hd, h, ha, hx, hy => by omega
  | n + 1, d + 1, t, xs, ys, b, ag, vx, vy, hd, h, ha, hx, hy => by
    unfold eqT at h
    unfold isAggT at ha
    split at h
    · rename_i hu
      rw [hu] at ha
      simp only [Option.some.injEq] at ha
      subst ha
      obtain ⟨p, rfl, hx⟩ := hx
      obtain ⟨q, rfl, hy⟩ := hy
      split at h
      · rename_i hp hq
        simp only [List.cons.injEq, and_true] at hp hq
        subst hp hq
        cases hx; cases hy
        simp only [Option.some.injEq] at h
        subst h
        exact run_equalIn_bool' w d t _ _ hu
      · cases h
    · rename_i k0 hu
      rw [hu] at ha
      simp only [Option.some.injEq] at ha
      subst ha
      obtain ⟨p, rfl, hx⟩ := hx
      obtain ⟨q, rfl, hy⟩ := hy
      split at h
      · rename_i hp hq
        simp only [List.cons.injEq, and_true] at hp hq
        subst hp hq
        cases hx; cases hy
        split at h
        · rename_i hk
          subst hk
          simp only [Option.some.injEq] at h
          subst h
          exact run_equalIn_int w d t _ _ _ _ hu
        · cases h
      · cases h
    · rename_i hu
      rw [hu] at ha
      simp only [Option.some.injEq] at ha
      subst ha
      obtain ⟨p, rfl, hx⟩ := hx
      obtain ⟨q, rfl, hy⟩ := hy
      split at h
      · rename_i hp hq
        simp only [List.cons.injEq, and_true] at hp hq
        subst hp hq
        cases hx; cases hy
        simp only [Option.some.injEq] at h
        subst h
        rw [run_equalIn_string w d t _ _ hu, toList_data, toList_data]
      · cases h
    · rename_i fs hu
      rw [hu] at ha
      simp only [Option.some.injEq] at ha
      subst ha
      obtain ⟨ax, rfl, hx⟩ := hx
      obtain ⟨ay, rfl, hy⟩ := hy
      split at h
      · cases h
      · rename_i hst
        rw [Bool.not_eq_true] at hst
        have hf : P.fieldsOf t = fs := by simp [Program.fieldsOf, hu]
        rw [run_equalIn_agg w d t ax ay (by rw [hf]; exact hu) hst, hf]
        generalize fs.toList = l at h
        clear hu hf
        induction l generalizing b with
        | nil =>
          simp only [List.foldr_nil, Option.some.injEq] at h
          subst h
          simp [Op.eqFields]
        | cons f l ih =>
          simp only [List.foldr_cons] at h
          split at h
          · rename_i hname
            simp only [Op.eqFields, hname, ne_eq, not_true_eq_false, if_false]
            exact ih b h
          · rename_i hname
            split at h
            · rename_i m ag' hs' ha'
              split at h
              · rename_i hlen
                obtain ⟨hl1, hl2, hl3⟩ := hlen
                split at h
                · rename_i b1 b2 he hr
                  simp only [Option.some.injEq] at h
                  subst h
                  obtain ⟨v1, r1, t1⟩ := run_part (w := w) (Fz := Fz) hs' ha' hx hl1 hl3
                  obtain ⟨v2, r2, t2⟩ := run_part (w := w) (Fz := Fz) hs' ha' hy hl2 hl3
                  have := eqT_sound n d f.type _ _ b1 ag' v1 v2 (by omega) he ha' t1 t2
                  simp only [Op.eqFields, hname, ne_eq, not_false_eq_true, if_true, Sem.run_bind, r1, r2, this, Result.andThen_ok]
                  cases b1 with
                  | false => simp
                  | true => simpa using ih b2 hr
                · cases h
              · cases h
            · cases h
    · cases h
end
end Go.PE
namespace Go.PE
open Go.RowKit
section
variable {P : Program} {B : Base} {Fz : Nat → Prop} {e : Env} {a : Act} {tm : Tm} {w : World} {ob : Nat → List Nat} {S : Stamp → Prop} {p : Stamp}
theorem guard_int (op : BinOp) (t : TypeId) (x y : Operand) (k k' : IntKind) (m n : Int) : (eqGuard op t x y (.int k m) (.int k' n)).run P w = .ok () w := by
  cases op <;> simp [eqGuard]
theorem guard_str (op : BinOp) (t : TypeId) (x y : Operand) (m n : ByteArray) : (eqGuard op t x y (.string m) (.string n)).run P w = .ok () w := by
  cases op <;> simp [eqGuard]
theorem guard_bool (op : BinOp) (t : TypeId) (x y : Operand) (m n : Bool) : (eqGuard op t x y (.bool m) (.bool n)).run P w = .ok () w := by
  cases op <;> simp [eqGuard]
theorem eqS_sound (I : Inv B Fz e (tmOf B a) w ob S) {t : TypeId} {x y : Operand} {b : Bool} (h : eqS P t (res e x).1 (res e y).1 = some b) (op : BinOp) (hop : op = .eql ∨ op = .neq) :
    (eqGuard op t x y (a.eval x) (a.eval y)).run P w = .ok () w ∧ (binOp op t (a.eval x) (a.eval y)).run P w = .ok (.bool (if op = .eql then b else !b)) w := by
  unfold eqS at h
  split at h
  · rename_i m n hx hy
    rw [I.bool hx, I.bool hy]
    split at h
    · rename_i hu
      cases h
      refine ⟨guard_bool _ _ _ _ _ _, ?_⟩
      rcases hop with rfl | rfl <;> simp [binOp, run_equal_bool w t m n hu]
    · cases h
  · rename_i xs ys hx hy
    obtain ⟨ax, ex, ix⟩ := I.agg hx
    obtain ⟨ay, ey, iy⟩ := I.agg hy
    rw [ex, ey]
    split at h
    · cases h
    · rename_i hg
      rw [Bool.not_eq_true] at hg
      refine ⟨run_eqGuard_agg w op t x y ax ay hg, ?_⟩
      split at h
      case isFalse => cases h
      rename_i ha
      have := eqT_sound (w := w) (Fz := Fz) 8 10000 t xs ys b true _ _ (by omega) h ha ⟨ax, rfl, ix⟩ ⟨ay, rfl, iy⟩
      rcases hop with rfl | rfl
      · rw [run_eql_struct, this]; rfl
      · rw [run_neq_struct, this]; rfl
  · cases h
theorem out_bin (I : Inv B Fz e (tmOf B a) w ob S) {o : Oper} {d : Nat} {op : BinOp} {t ty : TypeId} {x y : Operand} (ho : o.op = .binOp op t x y ty) {v : PV}
    (h : binS P op t (res e x).1 (res e y).1 = some v) : Out P B e a w S p o d [(d, v)] := by
  unfold binS at h
  split at h
  · rename_i k m k' n hx hy
    have ex := I.int hx
    have ey := I.int hy
    have key : ∃ u, (binOp op t (.int k m) (.int k' n)).run P w = .ok u w ∧ Imm w Fz u v := by
      split at h
      · exact shift_sound h t
      · exact shift_sound h t
      · split at h
        · rename_i hk; subst hk; exact arith_sound h t
        · cases h
    obtain ⟨u, hr, hi⟩ := key
    exact out_plain I (by simp only [execOp, ho, Sem.run_bind, ex, ey, guard_int, hr, Result.andThen_ok, Sem.run_pure]) (.inl hi)
  · rename_i m n hx hy
    obtain ⟨bx, ex, rfl⟩ := I.str hx
    obtain ⟨by', ey, rfl⟩ := I.str hy
    obtain ⟨u, hr, hi⟩ := str_sound (P := P) (w := w) (Fz := Fz) h t
    exact out_plain I (by simp only [execOp, ho, Sem.run_bind, ex, ey, guard_str, hr, Result.andThen_ok, Sem.run_pure]) (.inl hi)
  · split at h
    · obtain ⟨b, hb, rfl⟩ := Option.map_eq_some_iff.1 h
      obtain ⟨h1, h2⟩ := eqS_sound I hb .eql (.inl rfl)
      exact out_plain I (u := .bool b) (by simp only [execOp, ho, Sem.run_bind, h1, h2, Result.andThen_ok, Sem.run_pure, if_true]) (.inl (.bool _))
    · obtain ⟨b, hb, rfl⟩ := Option.map_eq_some_iff.1 h
      obtain ⟨h1, h2⟩ := eqS_sound I hb .neq (.inr rfl)
      exact out_plain I (u := .bool (!b)) (by simp only [execOp, ho, Sem.run_bind, h1, h2, Result.andThen_ok, Sem.run_pure]; rfl) (.inl (.bool _))
    · cases h
theorem out_un (I : Inv B Fz e (tmOf B a) w ob S) {o : Oper} {d : Nat} {op : UnOp} {t : TypeId} {x : Operand} (ho : o.op = .unOp op t x) {v : PV}
    (h : unS op (res e x).1 = some v) : Out P B e a w S p o d [(d, v)] := by
  unfold unS at h
  split at h
  · rename_i k n hx
    cases h
    exact out_plain I (u := .int k (k.wrap (0 - n))) (by simp only [execOp, ho, Sem.run_bind, I.int hx, Op.unary, Op.intArith, Result.andThen_ok, Sem.run_pure]) (.inl (.int _ _))
  · rename_i b hx
    cases h
    exact out_plain I (u := .bool (!b)) (by simp only [execOp, ho, Sem.run_bind, I.bool hx, Op.unary, Result.andThen_ok, Sem.run_pure]) (.inl (.bool _))
  · cases h
theorem Inv.slotRef (I : Inv B Fz e (tmOf B a) w ob S) {x : Operand} {v : PV} (h : (res e x).1 = v) (hv : isRef v = true) (hd : v ≠ .dead) : ∃ t, x = .tmp t ∧ e t = v ∧ RefV w Fz e (tmOf B a) (a.eval x) v ∧ t ≠ VS := by
  cases x with
  | const c =>
    rcases const_cases c with h' | h'
    · have h2 : constPV c = v := h
      rw [h2] at h'
      exact absurd (ok_not_ref h') (by simp [hv])
    · have h2 : constPV c = v := h
      exact absurd (h2.symm.trans h') hd
  | global g =>
    have h : globPV g = v := h
    rcases globPV_cases g with h' | ⟨_, _, h'⟩
    · rw [h'] at h; exact absurd h.symm hd
    · rw [h'] at h; subst h; cases hv
  | func f => have h2 : PV.func f [] = v := h; subst h2; cases hv
  | tmp t =>
    obtain ⟨hvs, he⟩ := tmp_val h hd
    have hR := I.ref t (by rw [he]; exact hv)
    rw [he, tmOf_ne B a hvs] at hR
    exact ⟨t, rfl, he, hR, hvs⟩
/-- An address moved on by some cells. -/
theorem Inv.addr (I : Inv B Fz e (tmOf B a) w ob S) {d off : Nat} {x : Operand} {ups : Ups} (h : addrS d off x (res e x) = some ups) :
    ∃ ad, a.eval x = .pointer (some ad) ∧ ∃ Fz' ob', Inv B Fz' (apply ups e) (upd (tmOf B a) d (.pointer (some (ad.add off)))) w ob' (fun st => S st ∨ st = p) := by
  unfold addrS at h
  split at h
  · rename_i st cs hx
    split at h
    · rename_i t
      cases h
      obtain ⟨hvs, he⟩ := tmp_val hx (by simp)
      have hR := I.slot t (by rw [he]; rfl)
      rw [he] at hR
      rw [← tmOf_ne B a hvs]
      obtain ⟨g, htm⟩ : ∃ g, tmOf B a t = .pointer (some ⟨g, 0, none⟩) := by
        generalize tmOf B a t = u at *
        generalize ob t = bs at *
        cases hR with
        | plain h => exact absurd h.okC (by simp [okC])
        | box g => exact ⟨g, rfl⟩
      refine ⟨⟨g, 0, none⟩, htm, Fz, _, I.putRef d _ (.loc t st off) rfl ?_ ?_⟩
      · intro cs' _
        exact ⟨g, htm, by rw [add_lit, Nat.zero_add]⟩
      · intro st' hs
        simp only [stampsOf, List.mem_singleton] at hs
        subst hs
        exact I.stamps t st' (by rw [he]; simp [stampsOf, stamps1])
    · cases h
  · rename_i r st o hx
    obtain ⟨t, rfl, he, hR, hvs⟩ := I.slotRef hx rfl (by simp)
    split at h
    · rename_i st' cs hr
      split at h
      · rename_i hst
        subst hst
        cases h
        have hr' : e r = .box st' cs := by
          have : (res e (.tmp t)).2 = e r := by simp [res, opv, hvs, he, rootOf]
          exact this.symm.trans hr
        obtain ⟨g, h1, h2⟩ := hR cs hr'
        refine ⟨_, h2, Fz, _, I.putRef d _ (.loc r st' (o + off)) rfl ?_ ?_⟩
        · intro cs' _
          exact ⟨g, h1, by rw [add_lit]⟩
        · intro s hs
          exact I.stamps t s (by rw [he]; exact hs)
      · cases h
    · cases h
  · rename_i r pl st i k hx
    obtain ⟨t, rfl, he, hR, hvs⟩ := I.slotRef hx rfl (by simp)
    split at h
    · rename_i szxs hr
      obtain ⟨sz, xs⟩ := szxs
      cases h
      have hr' : rowIf (e r) pl st = some (sz, xs) := by
        have : (res e (.tmp t)).2 = e r := by simp [res, opv, hvs, he, rootOf]
        rw [← this]; exact hr
      obtain ⟨ad, n, cap, h1, h2, h3⟩ := hR sz xs hr'
      refine ⟨_, h3, Fz, _, I.putRef d _ (.eloc r pl st i (k + off)) rfl ?_ ?_⟩
      · intro sz' xs' hr2
        rw [hr'] at hr2
        cases hr2
        exact ⟨ad, n, cap, h1, h2, by rw [add_add, Nat.add_assoc]⟩
      · intro s hs
        exact I.stamps t s (by rw [he]; exact hs)
    · cases h
  · rename_i cs o hx
    cases h
    have hi := I.imm x (by show okC (res e x).1 = true; rw [hx]; rfl)
    rw [show opv e x = _ from hx] at hi
    generalize hu : a.eval x = u at *
    cases hi with
    | iptr ad _ _ c hcell hr =>
      refine ⟨_, rfl, Fz, _, I.putPlain d _ (.iptr cs (o + off)) (.inl ?_)⟩
      rw [add_add]
      exact .iptr ad cs (o + off) c hcell hr
  · cases h
end
end Go.PE
namespace Go.PE
open Go.RowKit
section
variable {P : Program} {B : Base} {Fz : Nat → Prop} {e : Env} {a : Act} {tm : Tm} {w : World} {ob : Nat → List Nat} {S : Stamp → Prop} {p : Stamp}
/-- What is known of a place. -/
def PlaceOK (w : World) (Fz : Nat → Prop) (e : Env) (tm : Tm) (ob : Nat → List Nat) (u : Value) : Place → Prop
  | .var r st cs o => e r = .box st cs ∧ ∃ g arr ty bs, u = .pointer (some ⟨g, o, none⟩) ∧ tm r = .pointer (some ⟨g, 0, none⟩) ∧
      w.heap[g]? = some (.cells arr ty (0, 0)) ∧ Reps w Fz arr.toList cs bs ∧ ob r = g :: bs ∧ SelfOK g ty arr.toList cs
  | .elem r pl root st sz xs i k => root = e r ∧ rowIf (e r) pl st = some (sz, xs) ∧ ∃ ad n cap, PlaceVal w (tm r) pl (.slice (some ad) n cap) ∧
      i < xs.length ∧ u = .pointer (some (ad.add (i * sz + k)))
  | .fixed cs o => Imm w Fz u (.iptr cs o)
theorem Inv.boxAt (I : Inv B Fz e tm w ob S) {r : Nat} {st : Stamp} {cs : List PV} (he : e r = .box st cs) :
    ∃ g arr ty bs, tm r = .pointer (some ⟨g, 0, none⟩) ∧ w.heap[g]? = some (.cells arr ty (0, 0)) ∧ Reps w Fz arr.toList cs bs ∧ ob r = g :: bs ∧ SelfOK g ty arr.toList cs := by
  have hR := I.slot r (by rw [he]; rfl)
  rw [he] at hR
  generalize tm r = u at *
  generalize ob r = bs at *
  cases hR with
  | plain h => exact absurd h.okC (by simp [okC])
  | box g arr ty _ _ bs0 hg h hc => exact ⟨g, arr, ty, bs0, rfl, hg, h, rfl, hc⟩
theorem Inv.place (I : Inv B Fz e (tmOf B a) w ob S) {x : Operand} {pl : Place} (h : placeOf x (res e x) = some pl) : PlaceOK w Fz e (tmOf B a) ob (a.eval x) pl := by
  unfold placeOf at h
  split at h
  · rename_i st cs hx
    split at h
    · rename_i t
      cases h
      obtain ⟨hvs, he⟩ := tmp_val hx (by simp)
      obtain ⟨g, arr, ty, bs, h1, h2, h3, h4, h5⟩ := I.boxAt he
      exact ⟨he, g, arr, ty, bs, (tmOf_ne B a hvs).symm.trans h1, h1, h2, h3, h4, h5⟩
    · cases h
  · rename_i r st o hx
    obtain ⟨t, rfl, he, hR, hvs⟩ := I.slotRef hx rfl (by simp)
    have h2 : (res e (.tmp t)).2 = e r := by simp [res, opv, hvs, he, rootOf]
    split at h
    · rename_i st' cs hr
      split at h
      · rename_i hst
        subst hst
        cases h
        have hr' : e r = .box st' cs := h2.symm.trans hr
        obtain ⟨g, h1, h3⟩ := hR cs hr'
        obtain ⟨g', arr, ty, bs, k1, k2, k3, k4, k5⟩ := I.boxAt hr'
        rw [k1] at h1
        cases h1
        exact ⟨hr', g, arr, ty, bs, h3, k1, k2, k3, k4, k5⟩
      · cases h
    · cases h
  · rename_i r pl st i k hx
    obtain ⟨t, rfl, he, hR, hvs⟩ := I.slotRef hx rfl (by simp)
    have h2 : (res e (.tmp t)).2 = e r := by simp [res, opv, hvs, he, rootOf]
    split at h
    · rename_i sz xs hr
      cases h
      rw [h2] at hr ⊢
      obtain ⟨ad, n, cap, h1, h2, h3⟩ := hR sz xs hr
      exact ⟨rfl, hr, ad, n, cap, h1, h2, h3⟩
    · cases h
  · rename_i cs o hx
    cases h
    have hi := I.imm x (by show okC (res e x).1 = true; rw [hx]; rfl)
    rw [show opv e x = _ from hx] at hi
    exact hi
  · cases h
theorem Reps.immL {w : World} {Fz : Nat → Prop} : ∀ {vs : List Value} {ps : List PV} {bs : List Nat}, Reps w Fz vs ps bs → ps.all okC = true → ImmL w Fz vs ps
  | _, _, _, .nil, _ => ⟨rfl, fun i v p h => by simp at h⟩
  | _, _, _, .cons h hs, hp => by
    simp only [List.all_cons, Bool.and_eq_true] at hp
    have ih := hs.immL hp.2
    refine ⟨by simp [ih.1], fun i v p hv hq => ?_⟩
    cases i with
    | zero => simp at hv hq; subst hv hq; exact h.imm hp.1
    | succ i => exact ih.2 i v p (by simpa using hv) (by simpa using hq)
/-- The cells at a place are there. -/
theorem Inv.cells (I : Inv B Fz e (tmOf B a) w ob S) {x : Operand} {pl : Place} (h : placeOf x (res e x) = some pl) {n : Nat} {cs : List PV} (hc : pl.cells n = some cs) :
    ∃ ad vs, a.eval x = .pointer (some ad) ∧ vs.length = n ∧ cs.length = n ∧ (∀ (j : Nat) v, vs[j]? = some v → w.cell? (ad.add j) = some v) ∧ (cs.all okC = true → ImmL w Fz vs cs) := by
  have hp := I.place h
  cases pl with
  | var r st all o =>
    obtain ⟨he, g, arr, ty, bs, h1, h2, h3, h4, h5, h6⟩ := hp
    simp only [Place.cells] at hc
    split at hc
    · rename_i hl
      cases hc
      have hlen := h4.length
      refine ⟨⟨g, o, none⟩, (arr.toList.drop o).take n, h1, by simp at hlen ⊢; omega, by simp; omega, fun j v hv => ?_, fun hok => ?_⟩
      · rw [add_lit]
        simp only [World.cell?, h3, Option.isSome_none, Bool.false_eq_true, if_false]
        rw [List.getElem?_take] at hv
        split at hv
        · rw [List.getElem?_drop] at hv
          simpa using hv
        · cases hv
      · obtain ⟨b1, b2, _, _, hb⟩ := h4.split o
        obtain ⟨b3, b4, _, hb', _⟩ := hb.split n
        exact hb'.immL hok
    · cases hc
  | elem r pl root st sz xs i k =>
    obtain ⟨rfl, hr, ad, n', cap, h1, h2, h3⟩ := hp
    simp only [Place.cells] at hc
    split at hc
    · rename_i c hc'
      split at hc
      · rename_i hl
        cases hc
        obtain ⟨u, bs, g1, g2, g3⟩ := I.row hr
        obtain rfl := g1.unique h1
        cases g2 with
        | plain h => exact absurd h.okC (by simp [okC])
        | own g _ _ cur ty _ _ _ cf hg hn hcp hm hs hu hcell hrr =>
          have hci := (List.getElem?_eq_some_iff.1 hc').2
          refine ⟨_, (List.range n).map fun j => cf i (k + j), h3, by simp, by simp; omega, fun j v hv => ?_, fun _ => ⟨by simp; omega, fun j v q hv hq => ?_⟩⟩
          · simp only [List.getElem?_map] at hv
            obtain ⟨j', hj', rfl⟩ := Option.map_eq_some_iff.1 hv
            obtain ⟨hj'', hjj⟩ := List.getElem?_eq_some_iff.1 hj'
            simp at hj'' hjj
            subst hjj
            have hcc : cell2 xs i (k + j) = some (c[k + j]'(by omega)) := by
              simp [cell2, hc', List.getElem?_eq_getElem (show k + j < c.length by omega)]
            have := hcell _ _ _ hcc
            rw [add_lit, add_lit]
            simp only [World.cell?, hg, Option.isSome_none, Bool.false_eq_true, if_false]
            rw [← this]
            congr 1
            omega
          · simp only [List.getElem?_map] at hv
            obtain ⟨j', hj', rfl⟩ := Option.map_eq_some_iff.1 hv
            obtain ⟨hj'', hjj⟩ := List.getElem?_eq_some_iff.1 hj'
            simp at hj'' hjj
            subst hjj
            rw [List.getElem?_take, if_pos hj'', List.getElem?_drop] at hq
            exact hrr i (k + j) q (by simp [cell2, hc', hq])
      · cases hc
    · cases hc
  | fixed all o =>
    simp only [PlaceOK] at hp
    simp only [Place.cells] at hc
    split at hc
    · rename_i hl
      cases hc
      generalize a.eval x = u at *
      cases hp with
      | iptr ad _ _ cf hcell hr =>
        refine ⟨_, (List.range n).map fun j => cf (o + j), rfl, by simp, by simp; omega, fun j v hv => ?_, fun _ => ⟨by simp; omega, fun j v q hv hq => ?_⟩⟩
        · simp only [List.getElem?_map] at hv
          obtain ⟨j', hj', rfl⟩ := Option.map_eq_some_iff.1 hv
          obtain ⟨hj'', hjj⟩ := List.getElem?_eq_some_iff.1 hj'
          simp at hj'' hjj
          subst hjj
          rw [add_add]
          exact (hcell (o + j) _ (List.getElem?_eq_getElem (by omega))).2
        · simp only [List.getElem?_map] at hv
          obtain ⟨j', hj', rfl⟩ := Option.map_eq_some_iff.1 hv
          obtain ⟨hj'', hjj⟩ := List.getElem?_eq_some_iff.1 hj'
          simp at hj'' hjj
          subst hjj
          rw [List.getElem?_take, if_pos hj'', List.getElem?_drop] at hq
          exact hr (o + j) q hq
    · cases hc
/-- What is loaded from an address. -/
theorem run_loadAt {t : TypeId} {n : Nat} {ag : Bool} (hs : sizeT P t = some n) (ha : isAggT P t = some ag) (h1 : ag = true ∨ n = 1) {ad : Addr} {vs : List Value} (hl : vs.length = n)
    (hc : ∀ (j : Nat) v, vs[j]? = some v → w.cell? (ad.add j) = some v) :
    (Instr.loadAt t (.pointer (some ad))).run P w = .ok (if ag then .agg vs.toArray else vs.headD undef) w := by
  simp only [Instr.loadAt, Instr.sureAddr, Sem.run_bind, Sem.run_pure, Result.andThen_ok, loadVar, run_isAgg ha]
  cases ag with
  | true =>
    simp only [if_true, Sem.run_bind, run_sizeOf hs, Result.andThen_ok]
    subst hl
    rw [run_loadCells_list w ad vs hc]
    rfl
  | false =>
    obtain rfl : n = 1 := by simpa using h1
    match vs, hl with
    | [v], _ =>
      have := hc 0 v rfl
      rw [show ad.add 0 = ad from rfl] at this
      simp [this]
end
end Go.PE
