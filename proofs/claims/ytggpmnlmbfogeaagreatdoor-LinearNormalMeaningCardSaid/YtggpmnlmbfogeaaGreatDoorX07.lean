/-
  A part of the proof that the law's function returns true and leaves its arguments as they were, for every input (no condition): own lemmas of the proof, in the order of their use.
-/
import Derived.Test.YtggpmnlmbfogeaaGreatDoorX06
set_option linter.all false
namespace Go.PE
open Go.RowKit
section
variable {P : Program} {B : Base} {Fz : Nat → Prop} {e : Env} {a : Act} {tm : Tm} {w : World} {ob : Nat → List Nat} {S S' : Stamp → Prop} {p : Stamp}
inductive ArgsRel (w : World) (Fz : Nat → Prop) (tm : Tm) (e : Env) : List Value → List PV → List (Nat × Stamp) → Prop
 | nil : ArgsRel w Fz tm e [] [] []
 | plain {v q vs ps bs} (h : Plain w Fz v q) (t : ArgsRel w Fz tm e vs ps bs) : ArgsRel w Fz tm e (v :: vs) (q :: ps) bs
 | box {r st cs vs ps bs} (he : e r = .box st cs) (t : ArgsRel w Fz tm e vs ps bs) : ArgsRel w Fz tm e (tm r :: vs) (.box (0, 0) (cs.map (stC (0, 0))) :: ps) ((r, st) :: bs)
theorem ArgsRel.mono {Fz' : Nat → Prop} {vs : List Value} {ps : List PV} {bs : List (Nat × Stamp)} (h : ArgsRel w Fz tm e vs ps bs) (hF : ∀ b, Fz b → Fz' b) : ArgsRel w Fz' tm e vs ps bs := by
 induction h with
 | nil => exact .nil
 | plain h _ ih => exact .plain (h.mono hF fun _ _ => rfl) ih
 | box he _ ih => exact .box he ih
theorem argS_cases {x : Operand} {vr : PV × PV} {v : PV} {u : Ups} {b : Option (Nat × Stamp)} (h : argS x vr = some (v, u, b)) :
  (∃ st cs t, vr.1 = .box st cs ∧ x = .tmp t ∧ v = .box (0, 0) (cs.map (stC (0, 0))) ∧ u = [] ∧ b = some (t, st)) ∨
  (∃ r st cs, vr.1 = .loc r st 0 ∧ vr.2 = .box st cs ∧ v = .box (0, 0) (cs.map (stC (0, 0))) ∧ u = [] ∧ b = some (r, st)) ∨
  (PE.view vr = some v ∧ freezeUps x vr = some u ∧ b = none) := by
 unfold argS at h
 split at h
 ·rename_i st cs hv
  split at h
  ·cases h
   exact .inl ⟨st, cs, _, hv, rfl, rfl, rfl, rfl⟩
  ·cases h
 ·rename_i r st hv
  split at h
  ·rename_i st' cs hv2
   split at h
   ·rename_i hst
    subst hst
    cases h
    exact .inr (.inl ⟨r, st', cs, hv, hv2, rfl, rfl, rfl⟩)
   ·cases h
  ·cases h
 ·split at h
  ·rename_i v' u' h1 h2
   cases h
   exact .inr (.inr ⟨h1, h2, rfl⟩)
  ·cases h
theorem Inv.args {e0 : Env} :
  ∀ (l : List (TypeId × Operand)) (u1 : Ups) (Fz : Nat → Prop) (ob : Nat → List Nat) (vs : List PV) (us : Ups) (bs : List (Nat × Stamp)),
  Inv B Fz (apply u1 e0) (tmOf B a) w ob S → Frz e0 u1 → argsS (l.map fun q => (q.2, hint P q.1 q.2 (res e0 q.2))) = some (vs, us, bs) → ((u1 ++ us).map (·.1) ++ bs.map (·.1)).Nodup →
  ∃ Fz' ob', Inv B Fz' (apply (u1 ++ us) e0) (tmOf B a) w ob' S ∧ (∀ b, Fz b → Fz' b) ∧ ArgsRel w Fz' (tmOf B a) e0 (l.map fun q => a.eval q.2) vs bs
 | [], u1, Fz, ob, vs, us, bs, I, hF, h, hnd => by
  simp only [List.map_nil, argsS, Option.some.injEq, Prod.mk.injEq] at h
  obtain ⟨rfl, rfl, rfl⟩ := h
  rw [List.append_nil]
  exact ⟨Fz, ob, I, fun _ h => h, .nil⟩
 | (t, x) :: l, u1, Fz, ob, vs, us, bs, I, hF, h, hnd => by
  simp only [List.map_cons, argsS] at h
  split at h
  ·rename_i v u b vs' us' bs' h1 h2
   cases h
   rcases argS_cases h1 with ⟨st, cs, s, hv, rfl, rfl, rfl, rfl⟩ | ⟨r, st, cs, hv, hv2, rfl, rfl, rfl⟩ | ⟨hv, hu, rfl⟩
   ·have hne := hint_ne P t (.tmp s) (res e0 (.tmp s)) (by rw [hv]; rfl)
    rw [hne] at hv
    obtain ⟨Fz', ob', I', hFF, hA⟩ := Inv.args l u1 Fz ob vs' us' bs' I hF h2 (by
     simp only [Option.toList_some, List.nil_append, List.singleton_append, List.map_cons] at hnd
     rw [List.nodup_append] at hnd ⊢
     refine ⟨hnd.1, (List.nodup_cons.1 hnd.2.1).2, fun q hq q' hq' => hnd.2.2 q hq q' (List.mem_cons_of_mem _ hq')⟩)
    rw [List.nil_append]
    obtain ⟨hvs, he⟩ := tmp_val hv (by simp)
    refine ⟨Fz', ob', I', hFF, ?_⟩
    rw [List.map_cons, ← tmOf_ne B a hvs]
    exact .box (r := s) he hA
   ·have hne := hint_ne P t x (res e0 x) (by rw [hv]; rfl)
    rw [hne] at hv hv2
    have h1' : (res e0 x).1 = opv e0 x := rfl
    obtain ⟨s, rfl⟩ := opv_own_tmp (e := e0) (x := x) (by rw [← h1', hv]; rfl) (by rw [← h1', hv]; simp)
    obtain ⟨hvs, he⟩ := tmp_val hv (by simp)
    have hr2 : (res e0 (.tmp s)).2 = e0 r := by simp [res, opv, hvs, he, rootOf]
    rw [hr2] at hv2
    have hs1 : apply u1 e0 s = e0 s := apply_other u1 e0 s fun q hq hqs => by
     obtain ⟨pl, st', sz, xs, hrow⟩ := hF q hq
     rw [hqs, he] at hrow
     rcases rowIf_root hrow with ⟨_, _, _, h⟩ | ⟨_, _, h⟩ <;> cases h
    have hr1 : apply u1 e0 r = e0 r := apply_other u1 e0 r fun q hq hqr => by
     rw [List.nodup_append] at hnd
     exact hnd.2.2 q.1 (List.mem_map.2 ⟨q, List.mem_append.2 (.inl hq), rfl⟩) r (by simp) hqr
    have href := I.ref s (by rw [hs1, he]; rfl)
    rw [hs1, he] at href
    obtain ⟨g, hg1, hg2⟩ := href cs (by rw [hr1, hv2])
    obtain ⟨Fz', ob', I', hFF, hA⟩ := Inv.args l u1 Fz ob vs' us' bs' I hF h2 (by
     simp only [Option.toList_some, List.nil_append, List.singleton_append, List.map_cons] at hnd
     rw [List.nodup_append] at hnd ⊢
     refine ⟨hnd.1, (List.nodup_cons.1 hnd.2.1).2, fun q hq q' hq' => hnd.2.2 q hq q' (List.mem_cons_of_mem _ hq')⟩)
    rw [List.nil_append]
    have hev : a.eval (.tmp s) = tmOf B a r := by rw [hg1, ← tmOf_ne B a hvs]; exact hg2
    refine ⟨Fz', ob', I', hFF, ?_⟩
    rw [List.map_cons, hev]
    exact .box (r := r) hv2 hA
   ·have hd : ∀ q ∈ u1, ∀ q' ∈ u, q.1 ≠ q'.1 := by
     intro q hq q' hq' hqq
     rw [List.map_append, List.nodup_append, List.nodup_append] at hnd
     exact hnd.1.2.2 q.1 (List.mem_map.2 ⟨q, hq, rfl⟩) q'.1 (List.mem_map.2 ⟨q', List.mem_append.2 (.inl hq'), rfl⟩) hqq
    have hres := frozen_apart (P := P) hF rfl hv hu hd
    obtain ⟨Fz1, ob1, I1, hF1, hpl, _, h4⟩ := I.frozen (t := t) (by rw [hres]; exact hv) (by rw [hres]; exact hu)
    rw [← apply_append] at I1
    have hFr1 : Frz e0 (u1 ++ u) := by
     intro q hq
     rcases List.mem_append.1 hq with hq | hq
     ·exact hF q hq
     ·rcases h4 with rfl | ⟨r, c, rfl, _, pl, st, sz, xs, hrow, _⟩
      ·cases hq
      ·simp only [List.mem_singleton] at hq
       subst hq
       have hr : apply u1 e0 r = e0 r := apply_other u1 e0 r fun q' hq' => hd q' hq' _ (List.mem_singleton.2 rfl)
       rw [hr] at hrow
       exact ⟨pl, st, sz, xs, hrow⟩
    obtain ⟨Fz2, ob2, I2, hF2, hA⟩ := Inv.args l (u1 ++ u) Fz1 ob1 vs' us' bs' I1 hFr1 h2 (by rw [List.append_assoc]; simpa using hnd)
    rw [List.append_assoc] at I2
    exact ⟨Fz2, ob2, I2, fun b hb => hF2 b (hF1 b hb), .plain (hpl.mono hF2 fun _ _ => rfl) hA⟩
  ·cases h
theorem ArgsRel.reps {e1 : Env} (I : Inv B Fz e1 tm w ob S) {vs : List Value} {ps : List PV} {bs : List (Nat × Stamp)} (h : ArgsRel w Fz tm e vs ps bs) (hb : ∀ q ∈ bs, e1 q.1 = e q.1) :
  Reps w Fz vs ps (bs.flatMap fun q => ob q.1) := by
 induction h with
 | nil => exact .nil
 | plain h _ ih => simpa using Reps.cons h.rep (ih hb)
 | @box r st cs vs ps bs he _ ih =>
  have h1 : e1 r = .box st cs := (hb (r, st) (by simp)).trans he
  have hR := I.slot r (by rw [h1]; rfl)
  rw [h1] at hR
  exact .cons (hR.st1 (0, 0)) (ih fun q hq => hb q (List.mem_cons_of_mem _ hq))
def boxVals : List Value → List PV → List Value
 | v :: vs, .box .. :: ps => v :: boxVals vs ps
 | _ :: vs, _ :: ps => boxVals vs ps
 | _, _ => []
theorem boxVals_plain {v : Value} {q : PV} {vs : List Value} {ps : List PV} (h : okV q = true) : boxVals (v :: vs) (q :: ps) = boxVals vs ps := by
 cases q <;> first | rfl | simp [okV, okC] at h
theorem ArgsRel.boxVals {vs : List Value} {ps : List PV} {bs : List (Nat × Stamp)} (h : ArgsRel w Fz tm e vs ps bs) (vs' : List Value) (ps' : List PV) :
  PE.boxVals (vs ++ vs') (ps ++ ps') = bs.map (fun q => tm q.1) ++ PE.boxVals vs' ps' := by
 induction h with
 | nil => rfl
 | plain h _ ih => rw [List.cons_append, List.cons_append, boxVals_plain h.okV]; exact ih
 | box he _ ih => simpa [PE.boxVals] using ih
theorem boxVals_ok : ∀ {vs : List Value} {ps : List PV}, (∀ q ∈ ps, okV q = true) → boxVals vs ps = []
 | [], ps, _ => by cases ps <;> rfl
 | v :: vs, [], _ => rfl
 | v :: vs, q :: ps, h => by
  rw [boxVals_plain (h q (by simp))]
  exact boxVals_ok fun q' hq' => h q' (List.mem_cons_of_mem _ hq')
theorem Inv.flat_nodup (I : Inv B Fz e tm w ob S) : ∀ (l : List (Nat × Stamp)), (l.map (·.1)).Nodup → (l.flatMap fun q => ob q.1).Nodup
 | [], _ => List.nodup_nil
 | q :: l, h => by
  rw [List.map_cons, List.nodup_cons] at h
  rw [List.flatMap_cons, List.nodup_append]
  refine ⟨I.nodup q.1, I.flat_nodup l h.2, fun x hx y hy hxy => ?_⟩
  subst hxy
  obtain ⟨q', hq', hx'⟩ := List.mem_flatMap.1 hy
  refine I.disj q.1 q'.1 (fun hqq => h.1 (List.mem_map.2 ⟨q', hq', hqq.symm⟩)) x hx hx'
def Post (w : World) (Fz : Nat → Prop) (bs : List Nat) (boxes : List Value) (r : PV) (outs : List (List PV)) (u : Value) (w' : World) : Prop :=
 w'.os = w.os ∧ w'.tape = w.tape ∧ w'.output = w.output ∧ w.heap.size ≤ w'.heap.size ∧ (∀ b, b < w.heap.size → b ∉ bs → w'.heap[b]? = w.heap[b]?) ∧ isRef r = false ∧
 ∃ (Fz' : Nat → Prop) (bsr bss : List Nat), (∀ b, Fz b → Fz' b) ∧ (∀ b, Fz' b → Fz b ∨ b ∈ bs ∨ w.heap.size ≤ b ∧ b < w'.heap.size) ∧
  (∀ b ∈ bsr ++ bss, (b ∈ bs ∨ w.heap.size ≤ b ∧ b < w'.heap.size) ∧ ¬ Fz' b) ∧ (bsr ++ bss).Nodup ∧ Rep w' Fz' u r bsr ∧ Reps w' Fz' boxes (outs.map (PV.box (0, 0))) bss
def MeetsN (P : Program) (f : FuncId) (F : List PV → Option (PV × List (List PV))) : Prop :=
 ∀ (w : World) (Fz : Nat → Prop) (args : Array Value) (avs : List PV) (bs : List Nat) (r : PV) (outs : List (List PV)),
  Glob w Fz → (∀ b, Fz b → b < w.heap.size) → bs.Nodup → (∀ b ∈ bs, ¬ Fz b ∧ b < w.heap.size) → Reps w Fz args.toList avs bs → F avs = some (r, outs) →
  ∀ (o : Oper) (a : Act) (next : Act → World → Prop) (Q : Exit → Act → World → Prop),
   (∀ u w', Post w Fz bs (boxVals args.toList avs) r outs u w' → next (a.put o.dst u) w') → o.upon P a next Q ((callFunc f args).run P w)
def PartOf (A : Option Addr) (cap sz off len : Nat) (A' : Option Addr) (cap' : Nat) : Prop :=
 len ≤ cap' ∧ (off = 0 → A' = A ∧ cap' = cap) ∧ (∀ ad, A = some ad → 0 < len → A' = some (ad.add (off * sz)))
def RowPost (w : World) (bs : List Nat) (A : Option Addr) (n cap sz : Nat) (new : List (List PV)) (w' : World) : Prop :=
 w'.os = w.os ∧ w'.tape = w.tape ∧ w'.output = w.output ∧ w.heap.size ≤ w'.heap.size ∧ (∀ b, b < w.heap.size → b ∉ bs → w'.heap[b]? = w.heap[b]?) ∧
 ∃ Fz', Rep w' Fz' (.slice A n cap) (.own (0, 0) sz new) bs
def MeetsW (P : Program) (f : FuncId) (F : List PV → Option (PV × List (List PV))) : Prop :=
 ∀ (w : World) (bs : List Nat) (A : Option Addr) (n cap sz : Nat) (xs : List (List PV)) (off len : Nat) (A' : Option Addr) (cap' : Nat) (args : List Value) (avs : List PV) (r : PV) (new : List (List PV)),
  Rep w (fun b => b < w.heap.size ∧ b ∉ bs) (.slice A n cap) (.own (0, 0) sz xs) bs → bs.Nodup → (∀ b ∈ bs, b < w.heap.size) → flat1 xs = true → off + len ≤ xs.length → 0 < len → PartOf A cap sz off len A' cap' →
  Reps w (fun b => b < w.heap.size ∧ b ∉ bs) args avs [] → Glob w (fun b => b < w.heap.size ∧ b ∉ bs) → F (.own (0, 0) sz ((xs.drop off).take len) :: avs) = some (r, new) →
  new.length = len → new.all (fun c => c.length == sz && c.all scalar1) = true →
  ∀ (op : Oper) (a : Act) (next : Act → World → Prop) (Q : Exit → Act → World → Prop),
   (∀ u w', RowPost w bs A n cap sz (xs.take off ++ new ++ xs.drop (off + len)) w' → (scalar r = true → Rep w' (fun _ => False) u r []) → next (a.put op.dst u) w') →
   op.upon P a next Q ((callFunc f (.slice A' len cap' :: args).toArray).run P w)
def MeetsP (P : Program) (f : FuncId) (F : List PV → Option (PV × List (List PV))) : Prop :=
 ∀ (w : World) (bs : List Nat) (A : Option Addr) (n cap sz : Nat) (xs : List (List PV)) (off len : Nat) (A' : Option Addr) (cap' : Nat) (m : Int),
  Rep w (fun b => b < w.heap.size ∧ b ∉ bs) (.slice A n cap) (.own (0, 0) sz xs) bs → bs.Nodup → (∀ b ∈ bs, b < w.heap.size) → flat1 xs = true → off + len ≤ xs.length → PartOf A cap sz off len A' cap' →
  Glob w (fun b => b < w.heap.size ∧ b ∉ bs) → F [.own (0, 0) sz ((xs.drop off).take len)] = some (.int .i64 m, []) → 0 ≤ m → m ≤ len →
  ∀ (op : Oper) (a : Act) (next : Act → World → Prop) (Q : Exit → Act → World → Prop),
   (∀ A2 cap2 w', RowPost w bs A n cap sz xs w' → PartOf A cap sz off m.toNat A2 cap2 → next (a.put op.dst (.slice A2 m.toNat cap2)) w') →
   op.upon P a next Q ((callFunc f #[.slice A' len cap']).run P w)
def Meets (P : Program) (f : FuncId) (F : List PV → Option (PV × List (List PV))) : Prop :=
 (wrB f = false → prB f = false → MeetsN P f F) ∧ (wrB f = true → MeetsW P f F) ∧ (wrB f = false → prB f = true → MeetsP P f F)
theorem scalar_rep {w' : World} {F' : Nat → Prop} {u : Value} {r : PV} {bs : List Nat} (h : Rep w' F' u r bs) (hs : scalar r = true) (F : Nat → Prop) : Rep w' F u r [] := by
 have one : ∀ {u : Value} {r : PV} {bs : List Nat}, Rep w' F' u r bs → scalar1 r = true → Rep w' F u r [] := by
  intro u r bs h hs
  cases h with
  | plain h =>
   cases h with
   | int k n => exact .plain (.int k n)
   | bool b => exact .plain (.bool b)
   | str s => exact .plain (.str s)
   | nilp => exact .plain .nilp
   | nilf => exact .plain .nilf
   | nili => exact .plain .nili
   | ifi t k n => exact .plain (.ifi t k n)
   | erri t v => exact .plain (.erri t v)
   | _ => simp [scalar1] at hs
  | _ => simp [scalar1] at hs
 cases r with
 | tup vs =>
  cases h with
  | plain h => exact absurd h.okC (by simp [okC])
  | tup arr ps bs h =>
   refine .tup arr vs [] ?_
   simp only [scalar] at hs
   have many : ∀ (vs : List PV) (l : List Value) (bs : List Nat), Reps w' F' l vs bs → vs.all scalar1 = true → Reps w' F l vs [] := by
    intro vs
    induction vs with
    | nil => intro l bs h _; cases h; exact .nil
    | cons q vs ih =>
     intro l bs h hs
     cases h with
     | cons h1 h2 =>
      rw [List.all_cons, Bool.and_eq_true] at hs
      exact .cons (one h1 hs.1) (ih _ _ h2 hs.2)
   exact many vs _ _ h hs
 | _ => exact one h hs
theorem Rep.plainRow {F F' : Nat → Prop} {u : Value} {st st' : Stamp} {sz : Nat} {xs : List (List PV)} {bs : List Nat} (h : Rep w F u (.own st sz xs) bs) (hf : flat1 xs = true) : Rep w F' u (.own st' sz xs) bs := by
 cases h with
 | plain h => exact absurd h.okC (by simp [okC])
 | ownNil => exact .ownNil st' sz
 | own g n cap cur e _ _ _ c hg hn hc hm hs hu hcell hr =>
  refine .own g n cap cur e st' sz xs c hg hn hc hm hs hu hcell fun i j p hp => ?_
  have hsc : scalar1 p = true := by
   unfold cell2 at hp
   obtain ⟨x, h1, h2⟩ := Option.bind_eq_some_iff.1 hp
   exact List.all_eq_true.1 (List.all_eq_true.1 hf x (List.mem_of_getElem? h1)) p (List.mem_of_getElem? h2)
  have h1 := hr i j p hp
  generalize c i j = u at h1 ⊢
  cases h1 with
  | int k n => exact .int k n
  | bool b => exact .bool b
  | str s => exact .str s
  | nilp => exact .nilp
  | nilf => exact .nilf
  | nili => exact .nili
  | ifi t k n => exact .ifi t k n
  | erri t v => exact .erri t v
  | _ => simp [scalar1] at hsc
def updL {α : Type} (L : List (Nat × α)) (f : Nat → α) : Nat → α := L.foldl (fun f q => upd f q.1 q.2) f
theorem updL_cons {α : Type} (q : Nat × α) (L : List (Nat × α)) (f : Nat → α) : updL (q :: L) f = updL L (upd f q.1 q.2) := rfl
theorem updL_other {α : Type} : ∀ (L : List (Nat × α)) (f : Nat → α) (s : Nat), s ∉ L.map (·.1) → updL L f s = f s
 | [], f, s, _ => rfl
 | q :: L, f, s, h => by
  rw [List.map_cons, List.mem_cons, not_or] at h
  rw [updL_cons, updL_other L _ s h.2, upd_other h.1]
theorem updL_mem {α : Type} : ∀ (L : List (Nat × α)) (f : Nat → α) (s : Nat) (v : α), (L.map (·.1)).Nodup → (s, v) ∈ L → updL L f s = v
 | [], f, s, v, _, h => by cases h
 | q :: L, f, s, v, hnd, h => by
  rw [List.map_cons, List.nodup_cons] at hnd
  rw [updL_cons]
  rcases List.mem_cons.1 h with rfl | h
  ·rw [updL_other L _ s hnd.1, upd_same]
  ·exact updL_mem L _ s v hnd.2 h
theorem apply_updL (u : Ups) (e : Env) : apply u e = updL u e := by
 induction u generalizing e with
 | nil => rfl
 | cons q u ih => rw [apply_cons, updL_cons, ih]
structure Back where
 slot : Nat
 pv : PV
 val : Value
 bs : List Nat
theorem Inv.stepL {Fz' : Nat → Prop} {w' : World} (I : Inv B Fz e tm w ob S) (L : List Back) (hnd : (L.map (·.slot)).Nodup) (hSS : ∀ st, S st → S' st) (bs : List Nat) (hbs : ∀ b ∈ bs, ∃ q ∈ L, b ∈ ob q.slot)
  (hos : w'.os = w.os) (htape : w'.tape = w.tape) (hout : w'.output = w.output) (hsize : w.heap.size ≤ w'.heap.size) (hheap : ∀ b, b < w.heap.size → b ∉ bs → w'.heap[b]? = w.heap[b]?)
  (hFF : ∀ b, Fz b → Fz' b) (hF' : ∀ b, Fz' b → Fz b ∨ b ∈ bs ∨ w.heap.size ≤ b ∧ b < w'.heap.size)
  (hL : ∀ q ∈ L, (∀ b ∈ q.bs, (b ∈ bs ∨ w.heap.size ≤ b ∧ b < w'.heap.size) ∧ ¬ Fz' b) ∧ isRef q.pv = false ∧ Rep w' Fz' q.val q.pv q.bs ∧ (∀ st ∈ stampsOf q.pv, S' st) ∧
   RootStep S w w' (e q.slot) q.pv (tm q.slot) q.val)
  (hflat : (L.flatMap (·.bs)).Nodup) :
  ∃ ob', Inv B Fz' (updL (L.map fun q => (q.slot, q.pv)) e) (updL (L.map fun q => (q.slot, q.val)) tm) w' ob' S' := by
 have k1 : (L.map fun q => (q.slot, q.pv)).map (·.1) = L.map (·.slot) := by simp
 have k2 : (L.map fun q => (q.slot, q.val)).map (·.1) = L.map (·.slot) := by simp
 have k3 : (L.map fun q => (q.slot, q.bs)).map (·.1) = L.map (·.slot) := by simp
 have g1 : ∀ q ∈ L, updL (L.map fun q => (q.slot, q.pv)) e q.slot = q.pv := fun q hq => updL_mem _ _ _ _ (by rw [k1]; exact hnd) (List.mem_map.2 ⟨q, hq, rfl⟩)
 have g2 : ∀ q ∈ L, updL (L.map fun q => (q.slot, q.val)) tm q.slot = q.val := fun q hq => updL_mem _ _ _ _ (by rw [k2]; exact hnd) (List.mem_map.2 ⟨q, hq, rfl⟩)
 have g3 : ∀ q ∈ L, updL (L.map fun q => (q.slot, q.bs)) ob q.slot = q.bs := fun q hq => updL_mem _ _ _ _ (by rw [k3]; exact hnd) (List.mem_map.2 ⟨q, hq, rfl⟩)
 have pairwise : ∀ q ∈ L, ∀ q' ∈ L, q.slot ≠ q'.slot → ∀ b ∈ q.bs, b ∉ q'.bs := by
  clear hL hbs g1 g2 g3 k1 k2 k3 hF' hheap
  induction L with
  | nil => intro q hq; cases hq
  | cons x L ih =>
   rw [List.flatMap_cons, List.nodup_append] at hflat
   rw [List.map_cons, List.nodup_cons] at hnd
   intro q hq q' hq' hne b hb hb'
   rcases List.mem_cons.1 hq with h1 | h1 <;> rcases List.mem_cons.1 hq' with h2 | h2
   ·exact hne (by rw [h1, h2])
   ·rw [h1] at hb
    exact hflat.2.2 b hb b (List.mem_flatMap.2 ⟨q', h2, hb'⟩) rfl
   ·rw [h2] at hb'
    exact hflat.2.2 b hb' b (List.mem_flatMap.2 ⟨q, h1, hb⟩) rfl
   ·exact ih hnd.2 hflat.2.1 q h1 q' h2 hne b hb hb'
 have single : ∀ q ∈ L, q.bs.Nodup := by
  intro q hq
  clear hL hbs g1 g2 g3 k1 k2 k3 hF' hheap pairwise hnd
  induction L with
  | nil => cases hq
  | cons x L ih =>
   rw [List.flatMap_cons, List.nodup_append] at hflat
   rcases List.mem_cons.1 hq with rfl | hq
   ·exact hflat.1
   ·exact ih hflat.2.1 hq
 have hmem : ∀ s, s ∈ L.map (·.slot) → ∃ q ∈ L, q.slot = s := fun s hs => by simpa using hs
 refine ⟨updL (L.map fun q => (q.slot, q.bs)) ob, I.step (fun s => s ∈ L.map (·.slot)) hSS hos htape hout hsize (fun b hb hn => hheap b hb fun hbb => ?_) (fun s hs => ⟨?_, ?_, ?_⟩) hFF (fun b hb => ?_) ?_ ?_ ?_ ?_ ?_ ?_⟩
 ·obtain ⟨q, hq, hb2⟩ := hbs b hbb
  exact hn q.slot (List.mem_map.2 ⟨q, hq, rfl⟩) hb2
 ·exact updL_other _ _ _ (by rw [k1]; exact hs)
 ·exact updL_other _ _ _ (by rw [k2]; exact hs)
 ·exact updL_other _ _ _ (by rw [k3]; exact hs)
 ·rcases hF' b hb with h | h | h
  ·exact .inl h
  ·obtain ⟨q, hq, hb2⟩ := hbs b h
   exact .inr (.inl ⟨q.slot, List.mem_map.2 ⟨q, hq, rfl⟩, hb2⟩)
  ·exact .inr (.inr h)
 ·intro s hs b hb
  obtain ⟨q, hq, rfl⟩ := hmem s hs
  rw [g3 q hq] at hb
  obtain ⟨h1, h2⟩ := (hL q hq).1 b hb
  refine ⟨?_, h2⟩
  rcases h1 with h1 | h1
  ·obtain ⟨q', hq', hb2⟩ := hbs b h1
   exact .inl ⟨q'.slot, List.mem_map.2 ⟨q', hq', rfl⟩, hb2⟩
  ·exact .inr h1
 ·intro s hs
  obtain ⟨q, hq, rfl⟩ := hmem s hs
  rw [g3 q hq]
  exact single q hq
 ·intro s s' hs hs' hne b hb hb'
  obtain ⟨q, hq, rfl⟩ := hmem s hs
  obtain ⟨q', hq', rfl⟩ := hmem s' hs'
  rw [g3 q hq] at hb
  rw [g3 q' hq'] at hb'
  exact pairwise q hq q' hq' hne b hb hb'
 ·intro s hs st hst
  obtain ⟨q, hq, rfl⟩ := hmem s hs
  rw [g1 q hq] at hst
  exact (hL q hq).2.2.2.1 st hst
 ·intro s hs
  obtain ⟨q, hq, rfl⟩ := hmem s hs
  rw [g1 q hq, g2 q hq]
  exact (hL q hq).2.2.2.2
 ·intro _ s hs
  obtain ⟨q, hq, rfl⟩ := hmem s hs
  unfold SlotRep
  rw [g1 q hq, g2 q hq, g3 q hq, if_neg (by simp [(hL q hq).2.1])]
  exact (hL q hq).2.2.1
end
end Go.PE
namespace Go.PE
open Go.RowKit
section
variable {P : Program} {B : Base} {Fz : Nat → Prop} {e : Env} {a : Act} {tm : Tm} {w : World} {ob : Nat → List Nat} {S S' : Stamp → Prop} {p : Stamp}
theorem Rep.restamp {u : Value} {cs : List PV} {st0 : Stamp} {bs : List Nat} (h : Rep w Fz u (.box st0 cs) bs) (st p : Stamp) : Rep w Fz u (.box st (cs.map (PE.stC p))) bs := by
 have h' := h.st1 p
 simp only [PE.st1] at h'
 cases h' with
 | plain h2 => cases h2
 | box g arr ty _ _ bs hg hr hc => exact .box g arr ty st _ bs hg hr hc
theorem ArgsRel.boxes {vs : List Value} {ps : List PV} {bs : List (Nat × Stamp)} (h : ArgsRel w Fz tm e vs ps bs) : ∀ q ∈ bs, ∃ cs, e q.1 = .box q.2 cs := by
 induction h with
 | nil => simp
 | plain _ _ ih => exact ih
 | box he _ ih =>
  intro q hq
  rcases List.mem_cons.1 hq with rfl | hq
  ·exact ⟨_, he⟩
  ·exact ih q hq
theorem backS_split {w' : World} {Fz' : Nat → Prop} : ∀ {bs : List (Nat × Stamp)} {outs : List (List PV)} {ub : Ups} {bss : List Nat}, backS p bs outs = some ub →
  Reps w' Fz' (bs.map fun q => tm q.1) (outs.map (PV.box (0, 0))) bss →
  ∃ L : List Back, L.map (·.slot) = bs.map (·.1) ∧ L.map (fun q => (q.slot, q.pv)) = ub ∧ L.flatMap (·.bs) = bss ∧
   ∀ q ∈ L, q.val = tm q.slot ∧ Rep w' Fz' q.val q.pv q.bs ∧ ∃ (st : Stamp) (cs : List PV), (q.slot, st) ∈ bs ∧ q.pv = .box st (cs.map (stC p))
 | [], [], ub, bss, h, hr => by
  simp only [backS, Option.some.injEq] at h
  subst h
  cases hr
  exact ⟨[], rfl, rfl, rfl, by simp⟩
 | [], _ :: _, ub, bss, h, hr => by simp [backS] at h
 | (r, st) :: bs, [], ub, bss, h, hr => by simp [backS] at h
 | (r, st) :: bs, cs :: os, ub, bss, h, hr => by
  simp only [backS] at h
  obtain ⟨ub', h1, rfl⟩ := Option.map_eq_some_iff.1 h
  rw [List.map_cons, List.map_cons] at hr
  cases hr with
  | @cons _ _ _ _ b bs' hR hs =>
   obtain ⟨L, k1, k2, k3, k4⟩ := backS_split h1 hs
   refine ⟨⟨r, .box st (cs.map (stC p)), tm r, b⟩ :: L, by simp [k1], by simp [k2], by simp [k3], fun q hq => ?_⟩
   rcases List.mem_cons.1 hq with rfl | hq
   ·exact ⟨rfl, hR.restamp st p, st, cs, by simp, rfl⟩
   ·obtain ⟨j1, j2, st', cs', j3, j4⟩ := k4 q hq
    exact ⟨j1, j2, st', cs', List.mem_cons_of_mem _ j3, j4⟩
theorem stamps_boxC (st p : Stamp) (cs : List PV) : ∀ s ∈ stamps1 (.box st (cs.map (stC p))), s = st ∨ s = p := by
 intro s hs
 simp only [stamps1, List.mem_cons, List.mem_flatMap, List.mem_map] at hs
 rcases hs with h | ⟨q, ⟨c, _, rfl⟩, h⟩
 ·exact .inl h
 ·exact .inr (stamps_stC p c s h)
def dstTm (d : Option Nat) (u : Value) (tm : Tm) : Tm := match d with | some d => upd tm d u | none => tm
theorem Inv.back (I : Inv B Fz e tm w ob S) (hp : ¬ S p) {bs : List (Nat × Stamp)} (hbx : ∀ q ∈ bs, ∃ cs, e q.1 = .box q.2 cs) (d : Option Nat) {r : PV} {outs : List (List PV)} {u : Value} {w' : World}
  (hpost : Post w Fz (bs.flatMap fun q => ob q.1) (bs.map fun q => tm q.1) r outs u w') {ub : Ups} (hb : backS p bs outs = some ub)
  (hnd : ((ub ++ dstUps p d r).map (·.1)).Nodup) :
  ∃ Fz' ob', Inv B Fz' (apply (ub ++ dstUps p d r) e) (dstTm d u tm) w' ob' (fun s => S s ∨ s = p) := by
 obtain ⟨hos, htape, hout, hsize, hheap, hnr, Fz', bsr, bss, hFF, hF', hnew, hndb, hru, hrb⟩ := hpost
 obtain ⟨L, k1, k2, k3, k4⟩ := backS_split hb hrb
 have hroot : ∀ q ∈ L, RootStep S w w' (e q.slot) q.pv (tm q.slot) q.val := by
  intro q hq
  obtain ⟨h1, h2, st, cs, h3, h4⟩ := k4 q hq
  obtain ⟨cs0, h5⟩ := hbx _ h3
  refine ⟨fun st' cs' hpv hS => ?_, fun pl st' sz xs' hrow hS => ?_⟩
  ·rw [h4] at hpv
   cases hpv
   exact ⟨cs0, h5, h1⟩
  ·have hrow' := rowIf_stamp hrow
   rw [h4] at hrow'
   unfold rowAt? at hrow'
   split at hrow'
   ·rename_i hh; cases hh
   ·rename_i c st'' cs'' hh
    cases hh
    split at hrow'
    ·rename_i st3 sz3 xs3 hc
     simp only [Option.some.injEq, Prod.mk.injEq] at hrow'
     obtain ⟨rfl, rfl, rfl⟩ := hrow'
     rw [List.getElem?_map] at hc
     obtain ⟨c0, _, hc0⟩ := Option.map_eq_some_iff.1 hc
     have := stamps_stC p c0 st3 (by rw [hc0]; simp [stampsC])
     exact absurd (this ▸ hS) hp
    ·cases hrow'
   ·cases hrow'
 have hstL : ∀ q ∈ L, ∀ st ∈ stampsOf q.pv, S st ∨ st = p := by
  intro q hq st hst
  obtain ⟨h1, h2, st0, cs, h3, h4⟩ := k4 q hq
  obtain ⟨cs0, h5⟩ := hbx _ h3
  rw [h4] at hst
  rcases stamps_boxC st0 p cs st (by simpa [stampsOf] using hst) with h | h
  ·subst h
   exact .inl (I.stamps q.slot st (by rw [h5]; simp [stampsOf, stamps1]))
  ·exact .inr h
 have hin : ∀ b ∈ bs.flatMap (fun q => ob q.1), ∃ q ∈ L, b ∈ ob q.slot := by
  intro b hb
  obtain ⟨q, hq, hb⟩ := List.mem_flatMap.1 hb
  have : q.1 ∈ L.map (·.slot) := by rw [k1]; exact List.mem_map.2 ⟨q, hq, rfl⟩
  obtain ⟨q', hq', h⟩ := List.mem_map.1 this
  exact ⟨q', hq', by rw [h]; exact hb⟩
 have hval : L.map (fun q => (q.slot, q.val)) = L.map (fun q => (q.slot, tm q.slot)) := List.map_congr_left fun q hq => by rw [(k4 q hq).1]
 have hsame : ∀ (L : List Back) , updL (L.map fun q => (q.slot, tm q.slot)) tm = tm := by
  intro L
  induction L with
  | nil => rfl
  | cons q L ih =>
   have : upd tm q.slot (tm q.slot) = tm := by
    funext t
    by_cases h : t = q.slot
    ·rw [h, upd_same]
    ·rw [upd_other h]
   rw [List.map_cons, updL_cons, this, ih]
 have hbsL : ∀ q ∈ L, ∀ b ∈ q.bs, (b ∈ bs.flatMap (fun q => ob q.1) ∨ w.heap.size ≤ b ∧ b < w'.heap.size) ∧ ¬ Fz' b := fun q hq b hb =>
  hnew b (List.mem_append.2 (.inr (by rw [← k3]; exact List.mem_flatMap.2 ⟨q, hq, hb⟩)))
 have hpvL : ∀ q ∈ L, isRef q.pv = false := fun q hq => by
  obtain ⟨_, _, st0, cs, _, h4⟩ := k4 q hq
  rw [h4]; rfl
 cases d with
 | none =>
  simp only [dstUps, dstTm, List.append_nil] at hnd ⊢
  obtain ⟨ob', I'⟩ := I.stepL (S' := fun s => S s ∨ s = p) L (by rw [k1, ← show ub.map (·.1) = bs.map (·.1) by rw [← k2, ← k1]; simp]; exact hnd) (fun _ h => .inl h) (bs.flatMap fun q => ob q.1) hin hos htape hout hsize hheap hFF hF'
   (fun q hq => ⟨hbsL q hq, hpvL q hq, (k4 q hq).2.1, hstL q hq, hroot q hq⟩) (by rw [k3]; exact (List.nodup_append.1 hndb).2.1)
  rw [hval, hsame, k2, ← apply_updL] at I'
  exact ⟨Fz', ob', I'⟩
 | some d =>
  simp only [dstUps, dstTm] at hnd ⊢
  have hkeys : ub.map (·.1) = L.map (·.slot) := by rw [← k2]; simp
  have hnd' : ((L ++ [(⟨d, stm p r, u, bsr⟩ : Back)]).map (·.slot)).Nodup := by
   rw [List.map_append, ← hkeys]
   simpa using hnd
  obtain ⟨ob', I'⟩ := I.stepL (S' := fun s => S s ∨ s = p) (L ++ [⟨d, stm p r, u, bsr⟩]) hnd' (fun _ h => .inl h) (bs.flatMap fun q => ob q.1) (fun b hb => by
    obtain ⟨q, hq, h⟩ := hin b hb
    exact ⟨q, List.mem_append.2 (.inl hq), h⟩) hos htape hout hsize hheap hFF hF'
   (fun q hq => by
    rcases List.mem_append.1 hq with hq | hq
    ·exact ⟨hbsL q hq, hpvL q hq, (k4 q hq).2.1, hstL q hq, hroot q hq⟩
    ·simp only [List.mem_singleton] at hq
     subst hq
     have hstp := stamps_stm p r hnr
     refine ⟨fun b hb => hnew b (List.mem_append.2 (.inl hb)), isRef_stm p r hnr, hru.stm p, fun st hst => .inr (hstp st hst), RootStep.fresh fun st hst hS => ?_⟩
     have : st ∈ stampsOf (stm p r) := by
      cases hr : stm p r with
      | tup vs => rw [hr] at hst; simp [stamps1] at hst
      | _ => rw [hr] at hst; first | exact hst | simp [stamps1] at hst
     exact hp (hstp st this ▸ hS))
   (by
    rw [List.flatMap_append, k3, List.nodup_append]
    rw [List.nodup_append] at hndb
    refine ⟨hndb.2.1, by simpa using hndb.1, fun x hx y hy hxy => hndb.2.2 y (by simpa using hy) x hx hxy.symm⟩)
  have e1 : updL ((L ++ [(⟨d, stm p r, u, bsr⟩ : Back)]).map fun q => (q.slot, q.val)) tm = upd tm d u := by
   rw [List.map_append, hval]
   show updL (_ ++ [(d, u)]) tm = _
   have : ∀ (l : List (Nat × Value)) (f : Tm), updL (l ++ [(d, u)]) f = upd (updL l f) d u := fun l f => by simp [updL, List.foldl_append]
   rw [this, hsame]
  have e2 : updL ((L ++ [(⟨d, stm p r, u, bsr⟩ : Back)]).map fun q => (q.slot, q.pv)) e = apply (ub ++ [(d, stm p r)]) e := by
   rw [apply_updL, List.map_append, k2]
   rfl
  rw [e1, e2] at I'
  exact ⟨Fz', ob', I'⟩
def OutC (P : Program) (B : Base) (e : Env) (a : Act) (w : World) (S : Stamp → Prop) (p : Stamp) (o : Oper) (ups : Ups) : Prop :=
 ∀ (next : Act → World → Prop) (Q : Exit → Act → World → Prop),
  (∀ u w' Fz' ob', Inv B Fz' (apply ups e) (dstTm o.dst u (tmOf B a)) w' ob' (fun s => S s ∨ s = p) → next (a.put o.dst u) w') → o.wp P a w next Q
theorem run_call {o : Oper} {c : Call} (ho : o.op = .call c) {x : Operand} (hc : c.callee = .value x) {g : FuncId} {vs : Array Value} (hx : a.eval x = .func (.func g) #[] vs) :
  (execOp a.eval o).run P w = (callFunc g (c.args.map a.eval ++ vs)).run P w := by
 simp only [execOp, ho, resolve, hc, hx, Deferred.ofValue, Sem.run_bind, Sem.run_pure, Result.andThen_ok, invoke, Array.empty_append]
theorem out_call {Φ : FuncId → List PV → Option (PV × List (List PV))} (I : Inv B Fz e (tmOf B a) w ob S) (hp : ¬ S p) {o : Oper} {c : Call} (ho : o.op = .call c) {x : Operand} (hc : c.callee = .value x)
  {g : FuncId} {caps : List PV} (hx : (res e x).1 = .func g caps) (hM : MeetsN P g (Φ g)) (l : List (TypeId × Operand)) (hl : l.map (·.2) = c.args.toList) {ups : Ups}
  (h : callS Φ p o.dst g (l.map fun q => (q.2, hint P q.1 q.2 (res e q.2))) caps = some ups) : OutC P B e a w S p o ups := by
 intro next Q hnext
 have hfx := I.imm x (by show okC (res e x).1 = true; rw [hx]; rfl)
 rw [show opv e x = _ from hx] at hfx
 obtain ⟨vs, hev, hsz, hcaps⟩ : ∃ vs : Array Value, a.eval x = .func (.func g) #[] vs ∧ vs.size = caps.length ∧ ∀ (i : Nat) v q, vs[i]? = some v → caps[i]? = some q → Imm w Fz v q := by
  generalize a.eval x = val at hfx
  cases hfx with
  | func f caps vs cc hs hv hr =>
   refine ⟨vs, rfl, hs, fun i v q h1 h2 => ?_⟩
   rw [hv i q h2] at h1
   cases h1
   exact hr i q h2
 have hcL : ImmL w Fz vs.toList caps := ⟨by simpa using hsz, fun i v q h1 h2 => hcaps i v q (by simpa using h1) h2⟩
 have hcOk : ∀ q ∈ caps, okV q = true := by
  intro q hq
  obtain ⟨i, hi, hqi⟩ := List.getElem_of_mem hq
  have h1 : vs[i]? = some (vs[i]'(by omega)) := Array.getElem?_eq_getElem (by omega)
  have := (hcaps i _ q h1 (by rw [List.getElem?_eq_getElem hi, hqi])).okC
  cases q <;> first | rfl | exact this
 have hargs : (c.args.map a.eval ++ vs).toList = (l.map fun q => a.eval q.2) ++ vs.toList := by
  rw [Array.toList_append, Array.toList_map, ← hl, List.map_map]
  rfl
 unfold Oper.wp
 rw [run_call ho hc hev]
 unfold callS at h
 split at h
 ·cases h
 ·rename_i avs us bs hargsS
  split at h
  ·cases h
  ·rename_i r outs hF
   split at h
   ·cases h
   ·rename_i ub hub
    simp only at h
    generalize huf : (if (scalar r && bs.isEmpty) = true then ([] : Ups) else us) = uf at h
    by_cases hnd : nodupB ((uf ++ ub ++ dstUps p o.dst r).map (·.1)) = true
    rotate_left
    ·rw [if_neg hnd] at h; cases h
    ·rw [if_pos hnd] at h
     cases h
     rw [nodupB_iff] at hnd
     by_cases hsc : (scalar r && bs.isEmpty) = true
     ·
      rw [if_pos hsc] at huf
      subst huf
      simp only [Bool.and_eq_true, List.isEmpty_iff] at hsc
      obtain ⟨hsc, rfl⟩ := hsc
      have hA : ∀ (l : List (TypeId × Operand)) (avs : List PV) (us : Ups), argsS (l.map fun q => (q.2, hint P q.1 q.2 (res e q.2))) = some (avs, us, []) →
        Reps w (fun b => b < w.heap.size) (l.map fun q => a.eval q.2) avs [] ∧ ∀ q ∈ avs, okV q = true := by
       intro l
       induction l with
       | nil =>
        intro avs us h
        simp only [List.map_nil, argsS, Option.some.injEq, Prod.mk.injEq] at h
        obtain ⟨rfl, _, _⟩ := h
        exact ⟨.nil, by simp⟩
       | cons q l ih =>
        intro avs us h
        simp only [List.map_cons, argsS] at h
        split at h
        ·rename_i v u b vs' us' bs' h1 h2
         simp only [Option.some.injEq, Prod.mk.injEq, List.append_eq_nil_iff] at h
         obtain ⟨rfl, rfl, hb, rfl⟩ := h
         obtain ⟨k1, k2⟩ := ih _ _ h2
         rcases argS_cases h1 with ⟨_, _, _, _, _, _, _, rfl⟩ | ⟨_, _, _, _, _, _, _, rfl⟩ | ⟨hv, _, _⟩
         ·simp at hb
         ·simp at hb
         ·obtain ⟨bs1, hpl, hbs1⟩ := I.view P q.1 q.2 hv
          have hpl' : Plain w (fun b => b < w.heap.size) (a.eval q.2) v := hpl.mono (fun b hb => hb.elim (I.fzlt b) fun hb => by
           obtain ⟨s, _, hs⟩ := hbs1 b hb
           exact I.lt s b hs) fun _ _ => rfl
          exact ⟨by simpa using Reps.cons hpl'.rep k1, fun q' hq' => by
           rcases List.mem_cons.1 hq' with rfl | hq'
           ·exact hpl'.okV
           ·exact k2 q' hq'⟩
        ·cases h
      obtain ⟨hA1, hA2⟩ := hA l avs us hargsS
      have hreps : Reps w (fun b => b < w.heap.size) (c.args.map a.eval ++ vs).toList (avs ++ caps) [] := by
       rw [hargs]
       have hcR := Reps.ofImmL hcL
       have := hA1.append (hcR.mono (Fz' := fun b => b < w.heap.size) (I.fzlt) (fun _ _ => rfl) (by simp))
       simpa using this
      have houts : outs = [] := by cases outs with
       | nil => rfl
       | cons _ _ => simp [backS] at hub
      subst houts
      have hub' : ub = [] := by simpa [backS] using hub.symm
      subst hub'
      refine hM w (fun b => b < w.heap.size) _ _ [] r [] (I.glob.mono I.fzlt fun _ _ => rfl) (fun _ h => h) List.nodup_nil (by simp) hreps hF o a next Q fun u w' hpost => ?_
      obtain ⟨hos, htape, hout, hsize, hheap, hnr, Fz', bsr, bss, hFF, hF', hnew, hndb, hru, hrb⟩ := hpost
      have hpost' : Post w Fz (([] : List (Nat × Stamp)).flatMap fun q => ob q.1) (([] : List (Nat × Stamp)).map fun q => tmOf B a q.1) r [] u w' :=
       ⟨hos, htape, hout, hsize, fun b hb _ => hheap b hb (by simp), hnr, Fz, [], [], fun _ h => h, fun _ h => .inl h, by simp, by simp, scalar_rep hru hsc Fz, .nil⟩
      obtain ⟨Fz2, ob2, I2⟩ := I.back hp (bs := []) (by simp) o.dst hpost' (ub := []) rfl (by simpa using hnd)
      exact hnext u w' Fz2 ob2 (by simpa using I2)
     ·rw [if_neg hsc] at huf
      subst huf
      have hkb : ub.map (·.1) = bs.map (·.1) := by
       have : ∀ (bs : List (Nat × Stamp)) (outs : List (List PV)) (ub : Ups), backS p bs outs = some ub → ub.map (·.1) = bs.map (·.1) := by
        intro bs
        induction bs with
        | nil => intro outs ub h; cases outs <;> simp_all [backS]
        | cons q bs ih =>
         intro outs ub h
         cases outs with
         | nil => simp [backS] at h
         | cons cs os =>
          simp only [backS] at h
          obtain ⟨ub', h1, rfl⟩ := Option.map_eq_some_iff.1 h
          simp [ih _ _ h1]
       exact this _ _ _ hub
      have hnd1 : ((us ++ ub).map (·.1)).Nodup := by
       rw [List.map_append] at hnd
       exact (List.nodup_append.1 hnd).1
      obtain ⟨Fz1, ob1, I1, hF1, hA⟩ := Inv.args (P := P) (e0 := e) l [] Fz ob avs us bs I (frz_nil e) hargsS (by rw [List.nil_append, ← hkb, ← List.map_append]; exact hnd1)
      rw [List.nil_append] at I1
      have hkeep : ∀ q ∈ bs, apply us e q.1 = e q.1 := fun q hq => apply_other us e q.1 fun q' hq' h => by
       rw [List.map_append, hkb, List.nodup_append] at hnd1
       exact hnd1.2.2 q'.1 (List.mem_map.2 ⟨q', hq', rfl⟩) q.1 (List.mem_map.2 ⟨q, hq, rfl⟩) h
      have hreps := hA.reps I1 hkeep
      have hreps2 : Reps w Fz1 (c.args.map a.eval ++ vs).toList (avs ++ caps) (bs.flatMap fun q => ob1 q.1) := by
       rw [hargs]
       have hcR := Reps.ofImmL hcL
       have := hreps.append (hcR.mono hF1 (fun _ _ => rfl) (by simp))
       simpa using this
      have hbk : (bs.map (·.1)).Nodup := by
       rw [List.map_append, hkb, List.nodup_append] at hnd1
       exact hnd1.2.1
      have hbx : ∀ q ∈ bs, ∃ cs, apply us e q.1 = .box q.2 cs := by
       intro q hq
       rw [hkeep q hq]
       exact hA.boxes q hq
      refine hM w Fz1 _ _ _ r outs I1.glob I1.fzlt (I1.flat_nodup bs hbk) (fun b hb => ?_) hreps2 hF o a next Q fun u w' hpost => ?_
      ·obtain ⟨q, hq, hb⟩ := List.mem_flatMap.1 hb
       exact ⟨I1.notFz q.1 b hb, I1.lt q.1 b hb⟩
      ·have hbv : boxVals (c.args.map a.eval ++ vs).toList (avs ++ caps) = bs.map fun q => tmOf B a q.1 := by
        rw [hargs, hA.boxVals, boxVals_ok hcOk, List.append_nil]
       rw [hbv] at hpost
       obtain ⟨Fz2, ob2, I2⟩ := I1.back hp (bs := bs) hbx o.dst hpost hub (by
        rw [List.append_assoc, List.map_append] at hnd
        exact (List.nodup_append.1 hnd).2.1)
       refine hnext u w' Fz2 ob2 ?_
       rw [List.append_assoc, apply_append]
       exact I2
theorem Inv.rowOut (I : Inv B Fz e tm w ob S) (hSS : ∀ st, S st → S' st) {r : Nat} {st : Stamp} {sz : Nat} {xs xs' : List (List PV)} (he : e r = .own st sz xs) {w' : World}
  (hos : w'.os = w.os) (htape : w'.tape = w.tape) (hout : w'.output = w.output) (hsize : w.heap.size ≤ w'.heap.size) (hheap : ∀ b, b < w.heap.size → b ∉ ob r → w'.heap[b]? = w.heap[b]?)
  (hlen : xs'.length = xs.length) (hrep : Rep w' Fz (tm r) (.own st sz xs') (ob r)) : Inv B Fz (upd e r (.own st sz xs')) tm w' ob S' := by
 refine I.step (fun s => s = r) hSS hos htape hout hsize (fun b hb h => hheap b hb (h r rfl))
  (fun s hs => ⟨upd_other hs, rfl, rfl⟩) (fun _ h => h) (fun _ h => .inl h) ?_ ?_ ?_ ?_ ?_ ?_
 ·rintro s rfl x hx; exact ⟨.inl ⟨s, rfl, hx⟩, I.notFz s x hx⟩
 ·rintro s rfl; exact I.nodup s
 ·rintro s s' rfl rfl hne; exact absurd rfl hne
 ·rintro s rfl st' hs
  rw [upd_same] at hs
  exact hSS _ (I.stamps s st' (by rw [he]; exact hs))
 ·rintro s rfl
  rw [upd_same, he]
  refine ⟨fun st' cs' h => (by cases h), fun pl' st' sz' xs'' h _ => ?_⟩
  have h := rowIf_stamp h
  cases pl' with
  | none =>
   simp only [rowAt?, Option.some.injEq, Prod.mk.injEq] at h
   obtain ⟨rfl, rfl, rfl⟩ := h
   exact ⟨_, rowIf_of rfl, hlen.symm, fun x hx => hx⟩
  | some c' => simp [rowAt?] at h
 ·rintro _ s rfl
  unfold SlotRep
  rw [upd_same, if_neg (by simp [isRef])]
  exact hrep
theorem Rep.own_len {u : Value} {st : Stamp} {sz : Nat} {xs : List (List PV)} {bs : List Nat} (h : Rep w Fz u (.own st sz xs) bs) : ∃ A n cap, u = .slice A n cap ∧ xs.length = n ∧ n ≤ cap ∧ n ≤ maxLen := by
 cases h with
 | plain h => exact absurd h.okC (by simp [okC])
 | ownNil => exact ⟨none, 0, 0, rfl, rfl, Nat.le_refl _, Nat.zero_le _⟩
 | own g n cap cur ty _ _ _ c hg hn hc hm hs hu hcell hr => exact ⟨_, n, cap, rfl, hn, hc, by omega⟩
theorem Inv.lend (I : Inv B Fz e tm w ob S) {r : Nat} {st : Stamp} {sz : Nat} {xs : List (List PV)} (he : e r = .own st sz xs) (hf : flat1 xs = true) :
  ∃ A n cap, tm r = .slice A n cap ∧ xs.length = n ∧ n ≤ cap ∧ Rep w (fun b => b < w.heap.size ∧ b ∉ ob r) (.slice A n cap) (.own (0, 0) sz xs) (ob r) ∧ (ob r).Nodup ∧ (∀ b ∈ ob r, b < w.heap.size) ∧
   (∀ b, Fz b → b < w.heap.size ∧ b ∉ ob r) := by
 have hR := I.slot r (by rw [he]; rfl)
 rw [he] at hR
 obtain ⟨A, n, cap, hu, hn, hc, _⟩ := hR.own_len
 refine ⟨A, n, cap, hu, hn, hc, ?_, I.nodup r, I.lt r, fun b hb => ⟨I.fzlt b hb, fun h => I.notFz r b h hb⟩⟩
 rw [← hu]
 exact hR.plainRow hf
theorem flat1_splice {xs new : List (List PV)} {off len sz : Nat} (h : flat1 xs = true) (hn : new.all (fun c => c.length == sz && c.all scalar1) = true) : flat1 (xs.take off ++ new ++ xs.drop (off + len)) = true := by
 unfold flat1 at h ⊢
 rw [List.all_eq_true] at h hn ⊢
 intro c hc
 simp only [List.mem_append] at hc
 rcases hc with (hc | hc) | hc
 ·exact h c (List.mem_of_mem_take hc)
 ·have := hn c hc
  rw [Bool.and_eq_true] at this
  exact this.2
 ·exact h c (List.mem_of_mem_drop hc)
theorem Inv.restArgs (I : Inv B Fz e (tmOf B a) w ob S) {r : Nat} : ∀ (l : List (TypeId × Operand)) (avs : List PV) (us : Ups), argsS (l.map fun q => (q.2, hint P q.1 q.2 (res e q.2))) = some (avs, us, []) →
  rowOnly r (l.map fun q => (q.2, hint P q.1 q.2 (res e q.2))) = true → Reps w (fun b => b < w.heap.size ∧ b ∉ ob r) (l.map fun q => a.eval q.2) avs [] := by
 intro l
 induction l with
 | nil =>
  intro avs us h _
  simp only [List.map_nil, argsS, Option.some.injEq, Prod.mk.injEq] at h
  obtain ⟨rfl, _, _⟩ := h
  exact .nil
 | cons q l ih =>
  intro avs us h hro
  simp only [List.map_cons, argsS] at h
  simp only [rowOnly, List.map_cons, List.all_cons, Bool.and_eq_true] at hro
  split at h
  ·rename_i v u b vs' us' bs' h1 h2
   simp only [Option.some.injEq, Prod.mk.injEq, List.append_eq_nil_iff] at h
   obtain ⟨rfl, rfl, hb, rfl⟩ := h
   have k1 := ih _ _ h2 (by unfold rowOnly; exact hro.2)
   rcases argS_cases h1 with ⟨_, _, _, _, _, _, _, rfl⟩ | ⟨_, _, _, _, _, _, _, rfl⟩ | ⟨hv, _, _⟩
   ·simp at hb
   ·simp at hb
   ·obtain ⟨bs1, hpl, hbs1⟩ := I.view P q.1 q.2 hv
    have hpl' : Plain w (fun b => b < w.heap.size ∧ b ∉ ob r) (a.eval q.2) v := hpl.mono (fun b hb => hb.elim (fun hb => ⟨I.fzlt b hb, fun h => I.notFz r b h hb⟩) fun hb => by
     obtain ⟨s', hsrc, hs'⟩ := hbs1 b hb
     refine ⟨I.lt s' b hs', fun hbg => ?_⟩
     have hsr : s' ≠ r := by
      rcases hsrc with ⟨hxs, _⟩ | hroot
      ·have := hro.1.1
       rw [hxs] at this
       simpa using this
      ·have := hro.1.2
       rw [hroot] at this
       simpa using this
     exact I.disj s' r hsr b hs' hbg) fun _ _ => rfl
    simpa using Reps.cons hpl'.rep k1
  ·cases h
theorem fn_eval (I : Inv B Fz e (tmOf B a) w ob S) {x : Operand} {g : FuncId} (hx : (res e x).1 = .func g []) : a.eval x = .func (.func g) #[] #[] := by
 have hfx := I.imm x (by show okC (res e x).1 = true; rw [hx]; rfl)
 rw [show opv e x = _ from hx] at hfx
 generalize a.eval x = val at hfx
 cases hfx with
 | func f caps vs cc hs hv hr =>
  have : vs = #[] := by apply Array.eq_empty_of_size_eq_zero; simpa using hs
  subst this
  rfl
theorem out_callW {Φ : FuncId → List PV → Option (PV × List (List PV))} (I : Inv B Fz e (tmOf B a) w ob S) (hp : ¬ S p) {o : Oper} {c : Call} (ho : o.op = .call c) {x : Operand} (hc : c.callee = .value x)
  {g : FuncId} {caps : List PV} (hx : (res e x).1 = .func g caps) (hM : MeetsW P g (Φ g)) (l : List (TypeId × Operand)) (hl : l.map (·.2) = c.args.toList) {ups : Ups}
  (h : callWS Φ p o.dst g (l.map fun q => (q.2, hint P q.1 q.2 (res e q.2))) caps = some ups) : OutC P B e a w S p o ups := by
 intro next Q hnext
 unfold callWS at h
 cases l with
 | nil => simp at h
 | cons q0 l =>
 obtain ⟨t0, x0⟩ := q0
 simp only [List.map_cons] at h
 split at h
 ·rename_i x1 vr1 l1 heq
  simp only [List.cons.injEq, Prod.mk.injEq] at heq
  obtain ⟨⟨rfl, rfl⟩, rfl⟩ := heq
  have hev := fn_eval I hx
  split at h
  ·rename_i r st off len hv1
   split at h
   ·rename_i st' sz xs hv2
    split at h
    ·rename_i vs us hargs
     split at h
     ·rename_i rv new hF
      split at h
      ·rename_i hcond
       obtain ⟨rfl, hsc, hfit, hpos, hnl, hnew, hro, hdr, hfl⟩ := hcond
       cases h
       have hne := hint_ne P t0 x0 (res e x0) (by rw [hv1]; rfl)
       rw [hne] at hv1 hv2
       obtain ⟨s, rfl, hes, href, hvs⟩ := I.slotRef hv1 rfl (by simp)
       have h2 : (res e (.tmp s)).2 = e r := by simp [res, opv, hvs, hes, rootOf]
       rw [h2] at hv2
       obtain ⟨_, A0, n0, cap0, A', cap', hpv, hx0, hlc, hoff, hA'⟩ := href sz xs (by rw [hv2]; exact rowIf_of rfl)
       have hpv' : tmOf B a r = .slice A0 n0 cap0 := hpv
       obtain ⟨A, n, cap, htm, hn, hcp, hrep, hnd, hlt, hFF⟩ := I.lend hv2 hfl
       rw [htm] at hpv'
       cases hpv'
       have hreps := I.restArgs l vs us hargs hro
       unfold Oper.wp
       rw [run_call ho hc hev]
       have hargl : c.args.map a.eval ++ #[] = (.slice A' len cap' :: l.map fun q => a.eval q.2).toArray := by
        rw [Array.append_empty, ← Array.toArray_toList (xs := c.args.map a.eval), Array.toList_map, ← hl, List.map_cons, List.map_cons, hx0, List.map_map]
        rfl
       rw [hargl]
       refine hM w (ob r) A0 n0 cap0 sz xs off len A' cap' _ vs rv new hrep hnd hlt hfl hfit hpos ⟨hlc, hoff, hA'⟩ hreps (I.glob.mono hFF fun _ _ => rfl) hF hnl hnew o a next Q fun u w' hpost hru => ?_
       obtain ⟨hos, htape, hout, hsize, hheap, Fz', hrep'⟩ := hpost
       have hnewlen : (xs.take off ++ new ++ xs.drop (off + len)).length = xs.length := by simp; omega
       have hrepN : Rep w' Fz (tmOf B a r) (.own st' sz (xs.take off ++ new ++ xs.drop (off + len))) (ob r) := by
        rw [htm]
        exact hrep'.plainRow (flat1_splice hfl hnew)
       cases hd : o.dst with
       | none =>
        have I1 := I.rowOut (S' := fun s => S s ∨ s = p) (fun _ h => .inl h) hv2 hos htape hout hsize hheap hnewlen hrepN
        have := hnext u w' Fz ob (by rw [hd]; exact I1)
        rw [hd] at this
        exact this
       | some d =>
        have hru' : Rep w' Fz u rv [] := scalar_rep (hru hsc) hsc Fz
        have hnr : isRef rv = false := by cases rv <;> first | rfl | simp [scalar, scalar1] at hsc
        have hstp := stamps_stm p rv hnr
        have I1 := I.rowOut (S' := S) (fun _ h => h) hv2 hos htape hout hsize hheap hnewlen hrepN
        have I2 := I1.put1 (S' := fun s => S s ∨ s = p) d (stm p rv) u [] (fun _ h => .inl h) rfl rfl rfl (Nat.le_refl _) (fun _ _ => rfl) (by simp) (by simp) (fun st hst => .inr (hstp st hst))
         (fun st hst hS => by
          have : st ∈ stampsOf (stm p rv) := by
           cases hr : stm p rv with
           | tup vs => rw [hr] at hst; simp [stamps1] at hst
           | _ => rw [hr] at hst; first | exact hst | simp [stamps1] at hst
          exact hp (hstp st this ▸ hS))
         (by rw [if_neg (by rw [isRef_stm p rv hnr]; simp)]; exact hru'.stm p)
        have := hnext u w' Fz _ (by rw [hd]; simp only [dstUps, dstTm]; exact I2)
        rw [hd] at this
        exact this
      ·cases h
     ·cases h
    ·cases h
   ·cases h
  ·cases h
 ·cases h
theorem out_callP {Φ : FuncId → List PV → Option (PV × List (List PV))} (I : Inv B Fz e (tmOf B a) w ob S) (hp : ¬ S p) {o : Oper} {c : Call} (ho : o.op = .call c) {x : Operand} (hc : c.callee = .value x)
  {g : FuncId} {caps : List PV} (hx : (res e x).1 = .func g caps) (hM : MeetsP P g (Φ g)) (l : List (TypeId × Operand)) (hl : l.map (·.2) = c.args.toList) {ups : Ups}
  (h : callPS Φ o.dst g (l.map fun q => (q.2, hint P q.1 q.2 (res e q.2))) caps = some ups) : OutC P B e a w S p o ups := by
 intro next Q hnext
 unfold callPS at h
 split at h
 ·rename_i d x0 vr hd hl0
  obtain ⟨t0, rfl, rfl⟩ : ∃ t0, l = [(t0, x0)] ∧ vr = hint P t0 x0 (res e x0) := by
   cases l with
   | nil => simp at hl0
   | cons q l =>
    cases l with
    | nil =>
     simp only [List.map_cons, List.map_nil, List.cons.injEq, Prod.mk.injEq, and_true] at hl0
     obtain ⟨rfl, rfl⟩ := hl0
     exact ⟨q.1, rfl, rfl⟩
    | cons q2 l => simp at hl0
  have hev := fn_eval I hx
  have hargl : c.args.map a.eval ++ #[] = #[a.eval x0] := by
   rw [Array.append_empty, ← Array.toArray_toList (xs := c.args.map a.eval), Array.toList_map, ← hl]
   rfl
  have fin : ∀ (r : Nat) (st : Stamp) (off len : Nat) (sz : Nat) (xs : List (List PV)) (m : Int), r ≠ d → e r = .own st sz xs → off + len ≤ xs.length → flat1 xs = true → S st →
    Φ g [.own (0, 0) sz ((xs.drop off).take len)] = some (.int .i64 m, []) → 0 ≤ m → m ≤ len →
    (∃ A n cap A' cap', tmOf B a r = .slice A n cap ∧ a.eval x0 = .slice A' len cap' ∧ PartOf A cap sz off len A' cap') →
    ups = [(d, .snap r none st off m.toNat)] → o.wp P a w next Q := by
   intro r st off len sz xs m hrd her hfit hfl hS hF h0 hm ⟨A, n, cap, A', cap', htm0, hx0, hpart⟩ hups
   subst hups
   obtain ⟨A1, n1, cap1, htm, hn, hcp, hrep, hnd, hlt, hFF⟩ := I.lend her hfl
   rw [htm0] at htm
   cases htm
   unfold Oper.wp
   rw [run_call ho hc hev, hargl, hx0]
   refine hM w (ob r) A n cap sz xs off len A' cap' m hrep hnd hlt hfl hfit hpart (I.glob.mono hFF fun _ _ => rfl) hF h0 hm o a next Q fun A2 cap2 w' hpost hpart2 => ?_
   obtain ⟨hos, htape, hout, hsize, hheap, Fz', hrep'⟩ := hpost
   have I1 := I.rowOut (S' := S) (fun _ h => h) her hos htape hout hsize hheap rfl (by rw [htm0]; exact hrep'.plainRow hfl)
   have hsame : upd e r (.own st sz xs) = e := by
    funext t
    by_cases h : t = r
    ·rw [h, upd_same, her]
    ·rw [upd_other h]
   rw [hsame] at I1
   have href : RefV w' e (tmOf B a) (.slice A2 m.toNat cap2) (.snap r none st off m.toNat) := by
    intro sz2 xs2 h2
    rw [her, rowIf_of rfl] at h2
    cases h2
    exact ⟨by omega, A, n, cap, A2, cap2, htm0, rfl, hpart2.1, hpart2.2.1, hpart2.2.2⟩
   have I2 := I1.put1 (S' := fun st => S st ∨ st = p) d (.snap r none st off m.toNat) (.slice A2 m.toNat cap2) [] (fun _ h => .inl h) rfl rfl rfl (Nat.le_refl _) (fun _ _ => rfl) (by simp) (by simp)
    (by intro st' hst'; simp only [stampsOf, List.mem_singleton] at hst'; subst hst'; exact .inl hS) (by simp [stamps1]) (by rw [if_pos (show isRef (.snap r none st off m.toNat) = true from rfl)]; exact ⟨rfl, href, by intro st' hst'; simp only [stampsOf, List.mem_singleton] at hst'; subst hst'; exact hS⟩)
   have := hnext (.slice A2 m.toNat cap2) w' _ _ (by rw [hd]; exact I2)
   exact this
  split at h
  ·rename_i r st off len hv1
   split at h
   ·rename_i st' sz xs hv2
    split at h
    ·rename_i m hF
     split at h
     ·rename_i hcond
      obtain ⟨rfl, hrd, h0, hm, hfit, hfl⟩ := hcond
      have hne := hint_ne P t0 x0 (res e x0) (by rw [hv1]; rfl)
      rw [hne] at hv1 hv2
      obtain ⟨s, rfl, hes, href, hvs⟩ := I.slotRef hv1 rfl (by simp)
      have h2 : (res e (.tmp s)).2 = e r := by simp [res, opv, hvs, hes, rootOf]
      rw [h2] at hv2
      obtain ⟨_, A, n, cap, A', cap', hpv, hx0, hlc, hoff, hA'⟩ := href sz xs (by rw [hv2]; exact rowIf_of rfl)
      exact fin r st' off len sz xs m hrd hv2 hfit hfl (I.stamps s st' (by rw [hes]; simp [stampsOf])) hF h0 hm ⟨A, n, cap, A', cap', hpv, hx0, hlc, hoff, hA'⟩ (Option.some.inj h).symm
     ·cases h
    ·cases h
   ·cases h
  ·rename_i st sz xs hv1
   split at h
   ·rename_i t
    split at h
    ·rename_i m hF
     split at h
     ·rename_i hcond
      obtain ⟨htd, h0, hm, hfl⟩ := hcond
      have hne := hint_ne P t0 (.tmp t) (res e (.tmp t)) (by rw [hv1]; rfl)
      rw [hne] at hv1
      obtain ⟨hvs, het⟩ := tmp_val hv1 (by simp)
      obtain ⟨A, n, cap, htm, hn, hcp, _⟩ := I.lend het hfl
      subst hn
      refine fin t st 0 xs.length sz xs m htd het (by omega) hfl (I.stamps t st (by rw [het]; simp [stampsOf, stamps1])) (by rw [List.drop_zero, List.take_length]; exact hF) h0 hm
       ⟨A, xs.length, cap, A, cap, htm, (tmOf_ne B a hvs).symm.trans htm, hcp, fun _ => ⟨rfl, rfl⟩, fun ad had _ => by rw [had, Nat.zero_mul]; rfl⟩ (Option.some.inj h).symm
     ·cases h
    ·cases h
   ·cases h
  ·cases h
 ·cases h
end
end Go.PE
