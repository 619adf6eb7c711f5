/-
  A part of the proof that the law's function returns true and leaves its arguments as they were, for every input (no condition): own lemmas of the proof, in the order of their use.
-/
import Derived.Test.YtggpmnlmbfogeaaGreatDoorX09
import Derived.Laws.StandIn
import Derived.Lib.Bytealg
set_option linter.all false
namespace Go.PE
open Go.RowKit
section
variable {P : Program} {C : Ctx} {B : Base} {Fz : Nat → Prop} {e : Env} {tm : Tm} {ob : Nat → List Nat} {a : Act} {w : World} {S S' : Stamp → Prop}
variable {Φ : FuncId → List PV → Option (PV × List (List PV))}
def resOne (tmps : Array Value) : ResultVar → Sem Value
 | .tmp t => pure (tmps.getD t undef)
 | .cell a t => do loadVar t (← asAddr (tmps.getD a undef))
theorem results_eq (fn : Func) (tmps : Array Value) : results fn tmps = (do
  let vs ← fn.results.mapM (resOne tmps)
  pure (if h : vs.size = 1 then vs[0] else .tuple vs)) := by
 have : (fun (r : ResultVar) => (match r with
  | .tmp t => pure (tmps.getD t undef)
  | .cell a t => do loadVar t (← asAddr (tmps.getD a undef)) : Sem Value)) = resOne tmps := by
  funext r
  cases r <;> rfl
 unfold results
 rw [← this]
 rfl
theorem run_resOne (I : Inv B Fz e (tmOf B a) w ob S) {r : ResultVar} {v : PV} (h : resVal P e r = some v) :
  ∃ u, (resOne a.tmps r).run P w = .ok u w ∧ Rep w Fz u v ((resSlots [r]).flatMap ob) ∧ isRef v = false := by
 cases r with
 | tmp t =>
  simp only [resVal] at h
  split at h
  ·cases h
  ·rename_i hr
   cases h
   have hr' : isRef (opv e (.tmp t)) = false := by simpa using hr
   obtain ⟨ho, hv⟩ : opv e (.tmp t) = e t ∧ t ≠ VS := by
    rcases opv_tmp e t with ⟨h1, _⟩ | h1
    ·rw [h1] at hr'; cases hr'
    ·exact h1
   rw [ho] at hr' ⊢
   exact ⟨tmOf B a t, by rw [tmOf_ne B a hv]; rfl, by simpa [resSlots] using I.slot t hr', hr'⟩
 | cell t ty =>
  simp only [resVal] at h
  split at h
  ·rename_i cs n ag het hs ha
   split at h
   ·rename_i hc
    obtain ⟨hc1, rfl⟩ := hc
    obtain ⟨ho, hvs⟩ : opv e (.tmp t) = e t ∧ t ≠ VS := by
     rcases opv_tmp e t with ⟨h1, _⟩ | h1
     ·rw [h1] at het; cases het
     ·exact h1
    rw [ho] at het
    have hR := I.slot t (by rw [het]; rfl)
    rw [het] at hR
    have hi := hR.imm rfl
    obtain ⟨ad, vs, hv, hlen, hcell, hL⟩ := hi.ptr
    have hrun := run_loadAt (P := P) (w := w) hs ha hc1 (ad := ad) (vs := vs) hlen hcell
    simp only [Instr.loadAt, Instr.sureAddr, Sem.run_bind, Sem.run_pure, Result.andThen_ok] at hrun
    have hrun2 : (resOne a.tmps (.cell t ty)).run P w = .ok (if ag then .agg vs.toArray else vs.headD undef) w := by
     have hv' : a.tmps.getD t undef = .pointer (some ad) := (tmOf_ne B a hvs).symm.trans hv
     simp only [resOne, hv', asAddr, Sem.run_bind, Sem.run_pure, Result.andThen_ok]
     exact hrun
    refine ⟨_, hrun2, ?_⟩
    cases ag with
    | true =>
     simp only [if_true, Option.some.injEq] at h
     subst h
     exact ⟨.agg vs.toArray cs (by simpa using hL), rfl⟩
    | false =>
     simp only [Bool.false_eq_true, if_false] at h
     cases cs with
     | nil => simp at h
     | cons c cs =>
      simp only [List.head?_cons, Option.some.injEq] at h
      subst h
      match vs, hlen with
      | x :: vs, _ =>
      have := hL.2 0 x c rfl rfl
      exact ⟨.plain this, ok_not_ref this.okC⟩
   ·cases h
  ·cases h
theorem resSlots_cons (r : ResultVar) (l : List ResultVar) : resSlots (r :: l) = resSlots [r] ++ resSlots l := by cases r <;> rfl
theorem run_resVals (I : Inv B Fz e (tmOf B a) w ob S) : ∀ {rs : List ResultVar} {vs : List PV}, resVals P e rs = some vs →
  ∃ us, (rs.mapM (resOne a.tmps)).run P w = .ok us w ∧ Reps w Fz us vs ((resSlots rs).flatMap ob) ∧ (∀ v ∈ vs, isRef v = false)
 | [], vs, h => by
  simp only [resVals, Option.some.injEq] at h
  subst h
  exact ⟨[], by simp, .nil, by simp⟩
 | r :: rs, vs, h => by
  simp only [resVals] at h
  split at h
  ·rename_i v vs' h1 h2
   cases h
   obtain ⟨u, k1, k2, k3⟩ := run_resOne I h1
   obtain ⟨us, j1, j2, j3⟩ := run_resVals I h2
   refine ⟨u :: us, by simp [k1, j1], ?_, fun x hx => ?_⟩
   ·rw [resSlots_cons, List.flatMap_append]
    exact .cons k2 j2
   ·rcases List.mem_cons.1 hx with rfl | hx
    ·exact k3
    ·exact j3 x hx
  ·cases h
theorem run_results (I : Inv B Fz e (tmOf B a) w ob S) {fn : Func} {vs : List PV} (h : resVals P e fn.results.toList = some vs) :
  ∃ u, (results fn a.tmps).run P w = .ok u w ∧ Rep w Fz u (one vs) ((resSlots fn.results.toList).flatMap ob) ∧ isRef (one vs) = false := by
 obtain ⟨us, h1, h2, h3⟩ := run_resVals I h
 have hm : (fn.results.mapM (resOne a.tmps)).run P w = .ok us.toArray w := by
  rw [Array.mapM_eq_mapM_toList]
  simp [h1]
 refine ⟨_, by rw [results_eq, Sem.run_bind, hm, Result.andThen_ok, Sem.run_pure], ?_, ?_⟩
 ·generalize (resSlots fn.results.toList).flatMap ob = bb at h2 ⊢
  cases vs with
  | nil =>
   cases h2
   exact .tup #[] [] [] .nil
  | cons v vs =>
   cases vs with
   | nil =>
    match us, h2.length with
    | [u], _ =>
    simp only [List.size_toArray, List.length_cons, List.length_nil, Nat.zero_add, dite_true]
    cases h2 with
    | cons h hs =>
     cases hs
     rw [List.append_nil]
     exact h
   | cons v' vs =>
    have hl := h2.length
    rw [dif_neg (by simp at hl ⊢; omega)]
    exact .tup us.toArray _ _ (by simpa using h2)
 ·cases vs with
  | nil => rfl
  | cons v vs =>
   cases vs with
   | nil => exact h3 v (by simp)
   | cons v' vs => rfl
theorem Reps.frz {w : World} {Fz : Nat → Prop} : ∀ {us : List Value} {vs : List PV} {bs : List Nat}, Reps w Fz us vs bs → bs.Nodup →
  ∃ fz bs1 : List Nat, Reps w (fun b => Fz b ∨ b ∈ fz) us (vs.map frzC) bs1 ∧ (∀ b ∈ fz, b ∈ bs) ∧ (∀ b ∈ bs1, b ∈ bs ∧ b ∉ fz) ∧ bs1.Nodup
 | _, _, _, .nil, _ => ⟨[], [], .nil, by simp, by simp, List.nodup_nil⟩
 | _, _, _, .cons (v := v) (p := p) (b := b0) (bs := bs0) h hs, hnd => by
  rw [List.nodup_append] at hnd
  obtain ⟨fz, bs1, k1, k2, k3, k4⟩ := Reps.frz hs hnd.2.1
  have keep : frzC p = p → ∃ fz bs1 : List Nat, Reps w (fun b => Fz b ∨ b ∈ fz) (v :: _) ((p :: _).map frzC) bs1 ∧ (∀ b ∈ fz, b ∈ b0 ++ bs0) ∧ (∀ b ∈ bs1, b ∈ b0 ++ bs0 ∧ b ∉ fz) ∧ bs1.Nodup := fun hp => by
   refine ⟨fz, b0 ++ bs1, ?_, fun b hb => List.mem_append.2 (.inr (k2 b hb)), fun b hb => ?_, ?_⟩
   ·rw [List.map_cons, hp]
    exact .cons (h.mono (fun _ h => .inl h) (fun _ _ => rfl) fun _ _ => rfl) k1
   ·rcases List.mem_append.1 hb with hb | hb
    ·exact ⟨List.mem_append.2 (.inl hb), fun hf => hnd.2.2 b hb b (k2 b hf) rfl⟩
    ·exact ⟨List.mem_append.2 (.inr (k3 b hb).1), (k3 b hb).2⟩
   ·rw [List.nodup_append]
    exact ⟨hnd.1, k4, fun x hx y hy hxy => hnd.2.2 x hx y (k3 y hy).1 hxy⟩
  cases p with
  | own st sz xs =>
   refine ⟨b0 ++ fz, bs1, ?_, fun b hb => ?_, fun b hb => ⟨List.mem_append.2 (.inr (k3 b hb).1), fun hf => ?_⟩, k4⟩
   ·rw [List.map_cons]
    have hi : Imm w (fun b => Fz b ∨ b ∈ b0 ++ fz) v (.imm sz xs) := by
     cases h with
     | plain h => exact absurd h.okC (by simp [okC])
     | ownNil => exact .imm none 0 0 sz [] (fun _ _ => undef) rfl (Nat.le_refl _) (by simp) (fun i j q hq => by simp [cell2] at hq) (fun i j q hq => by simp [cell2] at hq)
     | own g n cap cur ty _ _ _ c hg hn hc hm hs hu hcell hr =>
      refine .imm _ n cap sz xs c hn hc hu (fun i j q hq => ⟨_, rfl, .inr (by simp), ?_⟩) (fun i j q hq => (hr i j q hq).mono (fun _ h => .inl h) fun _ _ => rfl)
      rw [add_lit]
      simp only [World.cell?, hg, Option.isSome_none, Bool.false_eq_true, if_false, Nat.zero_add]
      exact hcell i j q hq
    have := Reps.cons (Rep.plain hi) (k1.mono (Fz' := fun b => Fz b ∨ b ∈ b0 ++ fz) (fun b hb => hb.imp_right fun hb => List.mem_append.2 (.inr hb)) (fun _ _ => rfl) fun _ _ => rfl)
    exact this
   ·rcases List.mem_append.1 hb with hb | hb
    ·exact List.mem_append.2 (.inl hb)
    ·exact List.mem_append.2 (.inr (k2 b hb))
   ·rcases List.mem_append.1 hf with hf | hf
    ·exact hnd.2.2 b hf b (k3 b hb).1 rfl
    ·exact (k3 b hb).2 hf
  | nils sz =>
   refine ⟨fz, bs1, ?_, fun b hb => List.mem_append.2 (.inr (k2 b hb)), fun b hb => ⟨List.mem_append.2 (.inr (k3 b hb).1), (k3 b hb).2⟩, k4⟩
   rw [List.map_cons]
   have hi : Imm w (fun b => Fz b ∨ b ∈ fz) v (.imm sz []) := by
    have := h.imm rfl
    exact (this.mono (fun _ h => .inl h) fun _ _ => rfl).frzC
   exact .cons (.plain hi) k1
  | _ => exact keep rfl
theorem Post.frz {w w' : World} {Fz : Nat → Prop} {bs : List Nat} {boxes : List Value} {r : PV} {outs : List (List PV)} {u : Value} (h : Post w Fz bs boxes r outs u w') : Post w Fz bs boxes (frzT r) outs u w' := by
 cases r with
 | tup vs =>
  obtain ⟨h1, h2, h3, h4, h5, _, Fz', bsr, bss, k1, k2, k3, k4, k5, k6⟩ := h
  rw [List.nodup_append] at k4
  obtain ⟨arr, hu, hreps⟩ : ∃ arr, u = .tuple arr ∧ Reps w' Fz' arr.toList vs bsr := by
   cases k5 with
   | plain h => exact absurd h.okC (by simp [okC])
   | tup arr _ _ h => exact ⟨arr, rfl, h⟩
  obtain ⟨fz, bs1, j1, j2, j3, j4⟩ := hreps.frz k4.1
  refine ⟨h1, h2, h3, h4, h5, rfl, fun b => Fz' b ∨ b ∈ fz, bs1, bss, fun b hb => .inl (k1 b hb), fun b hb => ?_, fun b hb => ?_, ?_, ?_, ?_⟩
  ·rcases hb with hb | hb
   ·exact k2 b hb
   ·exact .inr (k3 b (List.mem_append.2 (.inl (j2 b hb)))).1
  ·rcases List.mem_append.1 hb with hb | hb
   ·have := k3 b (List.mem_append.2 (.inl (j3 b hb).1))
    exact ⟨this.1, fun h => h.elim this.2 (j3 b hb).2⟩
   ·have := k3 b (List.mem_append.2 (.inr hb))
    exact ⟨this.1, fun h => h.elim this.2 fun hf => k4.2.2 b (j2 b hf) b hb rfl⟩
  ·rw [List.nodup_append]
   exact ⟨j4, k4.2.1, fun x hx y hy hxy => k4.2.2 x (j3 x hx).1 y hy hxy⟩
  ·rw [hu]; exact .tup arr _ _ j1
  ·exact k6.mono (fun _ h => .inl h) (fun _ _ => rfl) fun _ _ => rfl
 | _ => exact h
theorem run_results0 (I : Inv B Fz e (tmOf B a) w ob S) {fn : Func} {vs : List PV} (h : resVals P e fn.results.toList = some vs) :
  ∃ u, (results fn a.tmps).run P w = .ok u w ∧ Rep w Fz u (stmo (0, 0) (one vs)) ((resSlots fn.results.toList).flatMap ob) ∧ isRef (stmo (0, 0) (one vs)) = false := by
 obtain ⟨u, h1, h2, h3⟩ := run_results I h
 exact ⟨u, h1, h2.stmo (0, 0), isRef_stmo (0, 0) _ h3⟩
theorem outs_reps (I : Inv B Fz e tm w ob S) : ∀ {bp : List Nat} {outs : List (List PV)}, outsOf e bp = some outs → Reps w Fz (bp.map tm) (outs.map (PV.box (0, 0))) (bp.flatMap ob)
 | [], outs, h => by
  simp only [outsOf, Option.some.injEq] at h
  subst h
  exact .nil
 | i :: bp, outs, h => by
  simp only [outsOf] at h
  split at h
  ·rename_i st cs os h1 h2
   cases h
   have hR := I.slot i (by rw [h1]; rfl)
   rw [h1] at hR
   refine .cons ?_ (outs_reps I h2)
   generalize ob i = obi at hR ⊢
   generalize tm i = tmi at hR ⊢
   cases hR with
   | plain h => cases h
   | box g arr ty _ _ bs hg hr hc => exact .box g arr ty (0, 0) _ bs hg hr hc
  ·cases h
theorem boxVals_pos : ∀ {args : List Value} {avs : List PV} (k : Nat) (f : Nat → Value), (∀ i v, args[i]? = some v → f (k + i) = v) → args.length = avs.length → boxVals args avs = (boxPosFrom k avs).map f
 | [], [], _, _, _, _ => rfl
 | [], _ :: _, _, _, _, hl => by simp at hl
 | _ :: _, [], _, _, _, hl => by simp at hl
 | v :: args, q :: avs, k, f, hf, hl => by
  have ih := boxVals_pos (args := args) (avs := avs) (k + 1) f (fun i v hv => by rw [← hf (i + 1) v (by simpa using hv)]; congr 1; omega) (by simpa using hl)
  have h0 := hf 0 v rfl
  cases q <;> simp only [boxVals, boxPosFrom, List.map_cons] <;> first | exact ih | (rw [ih, ← h0]; rfl)
theorem boxPos_box : ∀ {avs : List PV} {k i : Nat}, i ∈ boxPosFrom k avs → k ≤ i ∧ i < k + avs.length
 | [], k, i, h => by simp [boxPosFrom] at h
 | q :: avs, k, i, h => by
  have key : i ∈ boxPosFrom (k + 1) avs → k ≤ i ∧ i < k + (q :: avs).length := fun h => by
   have := boxPos_box h
   simp only [List.length_cons]; omega
  cases q with
  | box =>
   simp only [boxPosFrom, List.mem_cons] at h
   rcases h with rfl | h
   ·simp
   ·exact key h
  | _ => exact key h
theorem body_meets (hm : P.follows .mixedOrders = true) (hM : ∀ g, Meets P g (Φ g)) {f : FuncId} {fn : Func} (hf : P.funcs[f]? = some fn) {c : Code} (hc : fn.body = some c) (hn : fn.name ≠ "runtime.NumGoroutine")
    (keep : List Nat) (lv : Nat → List Nat) (n : Nat) : MeetsN P f (funcBody P Φ keep lv n fn.ntmps c fn.results.toList) := by
  intro w Fz args avs bs r outs hgl hfz hnd hbs hreps hF o a0 next Q hnext
  unfold funcBody at hF
  split at hF
  · rename_i hcond
    obtain ⟨hlen, hnt, hcode, hst⟩ := hcond
    have henter : (callFunc f args).run P w = .ok (.enter f args) w := by
      simp [callFunc, hf, hn, hc]
    rw [henter, Oper.upon_enter]
    have hal : args.toList.length = avs.length := hreps.length
    have has : args.size = avs.length := by rw [← hal]; simp
    obtain ⟨g, g1, g2, g3, g4, g5⟩ := hreps.blocks hnd
    let act : Act := { tmps := args ++ Array.replicate (fn.ntmps - args.size) undef, defers := [] }
    let C : Ctx := { B := ⟨w, bs, Fz, undef⟩, nt := fn.ntmps, K := fun t => t ∈ boxPos avs, T := fun t => args.getD t undef }
    let B : Base := ⟨w, bs, Fz, undef⟩
    have htm : ∀ i, i < args.size → tmOf B act i = args.getD i undef := by
      intro i hi
      rw [tmOf_ne B act (by omega)]
      show (args ++ Array.replicate (fn.ntmps - args.size) undef).getD i undef = _
      rw [Array.getD_eq_getD_getElem?, Array.getD_eq_getD_getElem?, Array.getElem?_append_left hi]
    have hsat : Sat C (fun s => s.1 ≤ 0) (lookup (avs.zipIdx.map fun q => (q.2, q.1))) act w := by
      refine ⟨⟨Fz, g, ?_⟩, ?_, hnt, rfl, fun t ht => ?_⟩
      · refine { rep := ?_, glob := hgl, nodup := g3, disj := g4, notFz := fun s b hb => (hbs b (g5 s b hb)).1, lt := fun s b hb => (hbs b (g5 s b hb)).2, fzlt := hfz, mine := fun s b hb => .inl (g5 s b hb), fz0 := fun _ h => h, fzo := fun _ h => .inl h,
                 stamps := ?_, os := rfl, tape := rfl, output := rfl, size := Nat.le_refl _, frame := fun _ _ _ => rfl }
        · intro s
          unfold SlotRep
          rw [lookup_args]
          by_cases hs : s < avs.length
          · have h1 : avs[s]? = some avs[s] := List.getElem?_eq_getElem hs
            have h2 : args.toList[s]? = some (args.getD s undef) := by
              rw [Array.getD_eq_getD_getElem?]
              simp [show s < args.size by omega]
            have hR := g1 s _ _ h2 h1
            rw [h1, Option.getD_some, htm s (by omega)]
            generalize args.getD s undef = av at hR ⊢
            generalize g s = gs at hR ⊢
            cases hv : avs[s] with
            | dead =>
              rw [hv] at hR
              rw [if_pos (show isRef .dead = true from rfl)]
              cases hR with
              | plain h => cases h
              | dead v => exact ⟨rfl, trivial⟩
            | loc => rw [hv] at hR; cases hR with | plain h => cases h
            | eloc => rw [hv] at hR; cases hR with | plain h => cases h
            | snap => rw [hv] at hR; cases hR with | plain h => cases h
            | _ => rw [hv] at hR; exact hR
          · rw [List.getElem?_eq_none (by omega), Option.getD_none, if_pos (show isRef .dead = true from rfl)]
            exact ⟨g2 s (by omega), trivial⟩
        · intro s st hs
          rw [lookup_args] at hs
          by_cases hlt : s < avs.length
          · rw [List.getElem?_eq_getElem hlt, Option.getD_some] at hs
            rw [List.all_eq_true] at hst
            have := hst _ (List.getElem_mem hlt)
            unfold stamp0 at this
            rw [List.all_eq_true] at this
            have := this st hs
            simp at this
            omega
          · rw [List.getElem?_eq_none (by omega), Option.getD_none] at hs
            simp [stampsOf, stamps1] at hs
      · show (args ++ Array.replicate (fn.ntmps - args.size) undef).size = fn.ntmps
        simp; omega
      · have := (boxPos_box ht).2
        exact htm t (by omega)
    have fin : ∀ (ex : Ex) (rid : Nat) (e : List (Nat × PV)), exec P Φ keep lv n 0 c (0, avs.zipIdx.map fun q => (q.2, q.1)) = some (ex, rid, e) → (∀ id, ex ≠ .exit id) → finish P fn.results.toList (boxPos avs) (lookup e) = some (r, outs) →
        Calls P f args w fun
          | .returned v, w'' => next (a0.put o.dst v) w''
          | .panicked chain, w'' => Q (.panic chain) a0 w''
          | .outgrown, _ => LetsOut Q := by
      intro ex rid e hex hne hfin
      refine calls_of_wp hf hc ?_
      refine code_sound (C := C) hm hM (ks := boxPos avs) rfl lv n c 0 _ 0 rid _ e ex act w hcode hex hsat fun a' w' H' => ?_
      unfold finish at hfin
      split at hfin
      · cases hfin
      · rename_i u hu
        split at hfin
        · rename_i vs os hvs hos
          split at hfin
          · rename_i hnd2
            simp only [Option.some.injEq, Prod.mk.injEq] at hfin
            obtain ⟨rfl, rfl⟩ := hfin
            rw [Bool.and_eq_true, nodupB_iff, nodupB_iff] at hnd2
            obtain ⟨⟨Fz1, ob1, I1⟩, k1, _, k2, k3⟩ := H'
            obtain ⟨Fz2, ob2, I2⟩ := Inv.resFrz fn.results.toList [] Fz1 ob1 u I1 (fun q hq => by cases hq) hu (by simpa using hnd2.1)
            rw [List.nil_append] at I2
            obtain ⟨v, j1, j2, j3⟩ := run_results0 I2 hvs
            have hbx := outs_reps I2 hos
            have hflat := I2.flat_nodup ((resSlots fn.results.toList ++ boxPos avs).map fun i => (i, ((0, 0) : Stamp))) (by simpa [Function.comp_def] using hnd2.2)
            have hpost : Post w Fz bs (boxVals args.toList avs) (stmo (0, 0) (one vs)) os v w' := by
              refine ⟨I2.os, I2.tape, I2.output, I2.size, fun b hb hn => I2.frame b hb hn, j3, Fz2, (resSlots fn.results.toList).flatMap ob2, (boxPos avs).flatMap ob2, fun b hb => I2.fz0 b hb, fun b hb => ?_, fun b hb => ?_, ?_, j2, ?_⟩
              · rcases I2.fzo b hb with h | h | h
                · exact .inl h
                · exact .inr (.inl h)
                · exact .inr (.inr ⟨h, I2.fzlt b hb⟩)
              · rw [← List.flatMap_append] at hb
                obtain ⟨i, hi, hb⟩ := List.mem_flatMap.1 hb
                refine ⟨?_, I2.notFz i b hb⟩
                rcases I2.mine i b hb with h | h
                · exact .inl h
                · exact .inr ⟨h, I2.lt i b hb⟩
              · rw [← List.flatMap_append]
                simpa [List.flatMap_map] using hflat
              · have hmap : (boxPos avs).map (tmOf B a') = boxVals args.toList avs := by
                  rw [boxVals_pos (args := args.toList) (avs := avs) 0 (fun t => args.getD t undef) (fun i v hv => by
                    rw [Nat.zero_add, Array.getD_eq_getD_getElem?]
                    have : args[i]? = some v := by simpa using hv
                    rw [this]; rfl) hal]
                  exact List.map_congr_left fun t ht => k3 t ht
                rw [← hmap]
                exact hbx
            have hres := hnext v w' hpost.frz
            cases ex with
            | exit id => exact absurd rfl (hne id)
            | normal => exact ⟨k2, v, j1, hres⟩
            | ret => exact ⟨k2, v, j1, hres⟩
          · cases hfin
        · cases hfin
    split at hF
    · cases hF
    · rename_i ex rid e hne hex
      exact fin ex rid e hex (fun id h => hne id h) hF
    · cases hF
  · cases hF
theorem none_meets (f : FuncId) : Meets P f (fun _ => none) :=
 ⟨fun _ _ _ _ _ _ _ _ _ _ _ _ _ _ h => (by cases h), fun _ => (by intro w bs A n cap sz xs off len A' cap' args avs r new _ _ _ _ _ _ _ _ _ h; cases h), fun _ _ => (by intro w bs A n cap sz xs off len A' cap' m _ _ _ _ _ _ _ h; cases h)⟩
theorem funcS_meets (hm : P.follows .mixedOrders = true) (hM : ∀ g, Meets P g (Φ g)) (keep : FuncId → List Nat) (lv : FuncId → Nat → List Nat) (n : Nat) (f : FuncId) : Meets P f (funcS P Φ keep lv n f) := by
 cases hf : P.funcs[f]? with
 | none =>
  have : funcS P Φ keep lv n f = fun _ => none := by funext avs; simp [funcS, hf]
  rw [this]; exact none_meets f
 | some fn =>
  cases hc : fn.body with
  | none =>
   have : funcS P Φ keep lv n f = fun _ => none := by funext avs; simp [funcS, hf, hc]
   rw [this]; exact none_meets f
  | some c =>
   by_cases hn : fn.name = "runtime.NumGoroutine" ∨ (wrB f || prB f) = true
   ·have : funcS P Φ keep lv n f = fun _ => none := by funext avs; simp only [funcS, hf, hc, if_pos hn]
    rw [this]; exact none_meets f
   ·have : funcS P Φ keep lv n f = funcBody P Φ (keep f) (lv f) n fn.ntmps c fn.results.toList := by funext avs; simp only [funcS, hf, hc, if_neg hn]
    rw [this]; exact ⟨fun _ _ => body_meets hm hM hf hc (fun h => hn (.inl h)) _ _ _, fun h => absurd (.inr (by rw [h]; rfl)) hn, fun _ h => absurd (.inr (by rw [h]; simp)) hn⟩
end
end Go.PE
namespace Go.PE
open Go.RowKit
def uni (a b : List Nat) : List Nat := a ++ b.filter fun x => !a.contains x
def tmpsOf (o : Op) : List Nat := o.operands.toList.filterMap fun | .tmp t => some t | _ => none
def liveOps (ops : Array Oper) : List Oper → List Nat → List Nat
 | [], out => out
 | o :: l, out =>
  let out := liveOps ops l out
  let out := match o.dst with
   | some d => out.filter fun x => x ≠ d
   | none => out
  uni (uni out (tmpsOf o.op)) (match o.guard with | some (j, _) => ((ops[j]?).bind (·.dst)).toList | none => [])
def liveIn (rets : List Nat) : Nat → Code → List (Nat × List Nat) → List Nat → List Nat × List (Nat × List Nat)
 | _, .skip, _, out => (out, [])
 | _, .region _ ops _, _, out => (liveOps ops ops.toList out, [])
 | b, .seq x y, ex, out =>
  let (o1, t1) := liveIn rets b y ex out
  let (o2, t2) := liveIn rets b x ex o1
  (o2, t1 ++ t2)
 | b, .cond c x y, ex, out =>
  let (o1, t1) := liveIn rets b x ex out
  let (o2, t2) := liveIn rets b y ex out
  (uni (uni o1 o2) (match c with | .tmp t => [t] | _ => []), t1 ++ t2)
 | _, .block id c, ex, out => liveIn rets id c ((id, out) :: ex) out
 | b, .loop c, ex, _ =>
  let x1 := (liveIn rets b c ex []).1
  let x2 := (liveIn rets b c ex x1).1
  let x3 := (liveIn rets b c ex x2).1
  let (x4, t) := liveIn rets b c ex x3
  (x4, (b, x4) :: t)
 | _, .exit id, ex, _ => (((ex.find? fun q => q.1 == id).map (·.2)).getD [], [])
 | _, .ret, _, _ => (rets, [])
 | _, _, _, out => (out, [])
def opsOf : Code → List Oper
 | .region _ ops _ => ops.toList
 | .seq x y | .cond _ x y => opsOf x ++ opsOf y
 | .block _ c | .loop c => opsOf c
 | _ => []
def srcs (P : Program) (c : Code) : List (Nat × Nat) :=
 (opsOf c).flatMap fun o => match o.dst with
  | some d =>
   let mem := match P.underlying o.type with | some (.slice _) | some (.pointer _) | none => true | _ => false
   let mem := mem || (match o.op with | .fieldAddr .. | .indexAddr .. | .nilCheck _ => true | _ => false)
   if mem then match o.op with
    | .move x | .assign x | .fieldAddr _ x _ | .indexAddr _ x _ | .slice _ x _ _ _ | .load _ x | .nilCheck x => (match x with | .tmp t => [(d, t)] | _ => [])
    | _ => []
   else []
  | none => []
def closeS (rel : List (Nat × Nat)) : Nat → List Nat → List Nat
 | 0, l => l
 | n + 1, l => closeS rel n (uni l (l.flatMap fun s => (rel.filter fun q => q.1 == s).map (·.2)))
def resTmps (l : List ResultVar) : List Nat := l.map fun | .tmp t => t | .cell t _ => t
def liveTab (P : Program) (fn : Func) : List (Nat × List Nat) :=
 match fn.body with
 | some c => ((liveIn (resTmps fn.results.toList) 0 c [] []).2.map fun q => (q.1, closeS (srcs P c) 6 q.2))
 | none => []
def look (l : List (Nat × List Nat)) (b : Nat) : List Nat := ((l.find? fun q => q.1 == b).map (·.2)).getD []
section
variable {P : Program} {Φ X : FuncId → List PV → Option (PV × List (List PV))}
theorem Meets.orElse {f : FuncId} {F G : List PV → Option (PV × List (List PV))} (hF : Meets P f F) (hG : Meets P f G) : Meets P f (fun avs => match F avs with | some r => some r | none => G avs) := by
 refine ⟨fun hw hw2 w Fz args avs bs r outs h0 h1 h2 h3 h4 h5 => ?_, fun hw w bs A n cap sz xs off len A' cap' args avs r new h1 h2 h3 h4 h5 h6 h7 h8 h9 h10 => ?_, fun hw hw2 w bs A n cap sz xs off len A' cap' m h1 h2 h3 h4 h5 h6 h7 h8 => ?_⟩
 ·simp only at h5
  split at h5
  ·rename_i q hq
   cases h5
   exact hF.1 hw hw2 w Fz args avs bs r outs h0 h1 h2 h3 h4 hq
  ·exact hG.1 hw hw2 w Fz args avs bs r outs h0 h1 h2 h3 h4 h5
 ·simp only at h10
  split at h10
  ·rename_i q hq
   cases h10
   exact hF.2.1 hw w bs A n cap sz xs off len A' cap' args avs r new h1 h2 h3 h4 h5 h6 h7 h8 h9 hq
  ·exact hG.2.1 hw w bs A n cap sz xs off len A' cap' args avs r new h1 h2 h3 h4 h5 h6 h7 h8 h9 h10
 ·simp only at h8
  split at h8
  ·rename_i q hq
   cases h8
   exact hF.2.2 hw hw2 w bs A n cap sz xs off len A' cap' m h1 h2 h3 h4 h5 h6 h7 hq
  ·exact hG.2.2 hw hw2 w bs A n cap sz xs off len A' cap' m h1 h2 h3 h4 h5 h6 h7 h8
def lvl (P : Program) (X : FuncId → List PV → Option (PV × List (List PV))) (keep : FuncId → List Nat) (lv : FuncId → Nat → List Nat) (n : Nat) : Nat → FuncId → List PV → Option (PV × List (List PV))
 | 0, f, avs => X f avs
 | k + 1, f, avs => match X f avs with
  | some r => some r
  | none => funcS P (lvl P X keep lv n k) keep lv n f avs
theorem lvl_meets (hm : P.follows .mixedOrders = true) (hX : ∀ f, Meets P f (X f)) (keep : FuncId → List Nat) (lv : FuncId → Nat → List Nat) (n : Nat) : ∀ k f, Meets P f (lvl P X keep lv n k f)
 | 0, f => hX f
 | k + 1, f => Meets.orElse (hX f) (funcS_meets hm (lvl_meets hm hX keep lv n k) keep lv n f)
end
end Go.PE
namespace Go.PE
open Go.RowKit
section
variable {P : Program}
theorem extern_meets {f : FuncId} (hwr : (wrB f || prB f) = false) {fn : Func} {e : Array Value → Sem Value} (hf : P.funcs[f]? = some fn) (hname : (fn.name == "runtime.NumGoroutine") = false)
  (hb : fn.body.isNone = true) (hn : Extern.findNext fn = none) (he : Extern.find fn = some e) {F : List PV → Option (PV × List (List PV))}
  (h : ∀ (w : World) (Fz : Nat → Prop) (args : Array Value) (avs : List PV) (bs : List Nat) (r : PV) (outs : List (List PV)), Reps w Fz args.toList avs bs → F avs = some (r, outs) →
   outs = [] ∧ boxVals args.toList avs = [] ∧ isRef r = false ∧ ∃ u, (e args).run P w = .ok u w ∧ Rep w Fz u r []) : Meets P f F := by
 rw [Bool.or_eq_false_iff] at hwr
 refine ⟨fun _ _ => ?_, fun h => (by rw [hwr.1] at h; cases h), fun _ h => (by rw [hwr.2] at h; cases h)⟩
 intro w Fz args avs bs r outs _ hfz hnd hbs hreps hF o a next Q hnext
 obtain ⟨rfl, hbx, hr, u, hrun, hrep⟩ := h w Fz args avs bs r outs hreps hF
 rw [run_callFunc_standIn hf hname hb hn he args w, hrun, Result.andThen_ok, Oper.upon_value]
 refine hnext u w ⟨rfl, rfl, rfl, Nat.le_refl _, fun _ _ _ => rfl, hr, Fz, [], [], fun _ h => h, fun _ h => .inl h, by simp, by simp, hrep, ?_⟩
 rw [hbx]
 exact .nil
def indexByteF (avs : List PV) : Option (PV × List (List PV)) :=
 match avs with
 | [.str s, .int .u8 c] => some (.int .i64 (Lib.indexByte s c.toNat.toUInt8), [])
 | _ => none
theorem indexByte_meets {f : FuncId} (hwr : (wrB f || prB f) = false) {fn : Func} (hf : P.funcs[f]? = some fn) (hname : (fn.name == "runtime.NumGoroutine") = false)
  (hb : fn.body.isNone = true) (hn : Extern.findNext fn = none) (he : Extern.find fn = some Extern.BytealgIndexByte.indexByte) : Meets P f indexByteF := by
 refine extern_meets hwr hf hname hb hn he fun w Fz args avs bs r outs hreps hF => ?_
 unfold indexByteF at hF
 split at hF
 ·rename_i s c
  simp only [Option.some.injEq, Prod.mk.injEq] at hF
  obtain ⟨rfl, rfl⟩ := hF
  obtain ⟨l, hl⟩ : ∃ l, args.toList = l := ⟨_, rfl⟩
  rw [hl] at hreps ⊢
  cases hreps with
  | cons h1 h2 =>
   cases h2 with
   | cons h3 h4 =>
    cases h4
    have i1 := h1.imm rfl
    have i3 := h3.imm rfl
    generalize hs : PV.str s = ps at i1
    cases i1 with
    | str s' =>
     cases hs
     cases i3
     refine ⟨rfl, rfl, rfl, _, ?_, .plain (.int .i64 _)⟩
     have ha : args = #[.string s', .int .u8 c] := by rw [← Array.toArray_toList (xs := args), hl]
     rw [ha, run_indexByte_string, Lib.firstIdx_eq]
    | _ => cases hs
 ·cases hF
end
end Go.PE
namespace Go.PE
open Go.RowKit
inductive UK where
 | none | bool | int (k : IntKind) | str | slice (e : TypeId) | ptr | iface | other
def ukOf : Option TypeDesc → UK
 | some .bool => .bool
 | some (.int k) => .int k
 | some .string => .str
 | some (.slice e) => .slice e
 | some (.pointer _) => .ptr
 | some (.interface _) => .iface
 | some _ => .other
 | .none => .none
structure TD where
 size : Option Nat
 agg : Option Bool
 row : Option (Nat × Nat)
 ez : Option (List PV)
 zero : Option (List PV)
 flds : List (Option (Nat × Nat × Bool × TypeId))
 arr : Option (Nat × Nat × Bool)
 plc : Option (List (Nat × Nat × TypeId))
 und : UK
def nfields (P : Program) (t : TypeId) : Nat := match P.underlying t with
 | some (.struct fs) => fs.size
 | _ => 0
def tdOf (P : Program) (t : TypeId) : TD :=
 ⟨sizeT P t, isAggT P t, rowT P t, (elemT P t).bind (zeroT P), zeroT P t, (List.range (nfields P t)).map (fieldT P t), arrT P t, placesT P t, ukOf (P.underlying t)⟩
section
variable {R : Sort _}
def onV0 (v : PV) (k : PV → R) : R :=
 match v with
 | .int a b => k (.int a b)
 | .bool a => k (.bool a)
 | .str a => k (.str a)
 | .imm a b => k (.imm a b)
 | .nils a => k (.nils a)
 | .iptr a b => k (.iptr a b)
 | .nilp => k .nilp
 | .func a b => k (.func a b)
 | .nilf => k .nilf
 | .nili => k .nili
 | .ifi a b c => k (.ifi a b c)
 | .erri => k .erri
 | .own a b c => k (.own a b c)
 | .agg a => k (.agg a)
 | .tup a => k (.tup a)
 | .box a b => k (.box a b)
 | .loc a b c => k (.loc a b c)
 | .eloc a b c d e => k (.eloc a b c d e)
 | .snap a b c d e => k (.snap a b c d e)
 | .dead => k .dead
 | .self t => k (.self t)
 | .bnil t => k (.bnil t)
theorem onV0_eq (v : PV) (k : PV → R) : onV0 v k = k v := by cases v <;> rfl
def onL : List PV → (List PV → R) → R
 | [], k => k []
 | v :: l, k => onV0 v fun v' => onL l fun l' => k (v' :: l')
theorem onL_eq : ∀ (l : List PV) (k : List PV → R), onL l k = k l
 | [], k => rfl
 | v :: l, k => by rw [onL, onV0_eq, onL_eq l]
def onLL : List (List PV) → (List (List PV) → R) → R
 | [], k => k []
 | x :: l, k => onL x fun x' => onLL l fun l' => k (x' :: l')
theorem onLL_eq : ∀ (l : List (List PV)) (k : List (List PV) → R), onLL l k = k l
 | [], k => rfl
 | x :: l, k => by rw [onLL, onL_eq, onLL_eq l]
def onV1 (v : PV) (k : PV → R) : R :=
 match v with
 | .agg a => onL a fun a' => k (.agg a')
 | .box a b => onL b fun b' => k (.box a b')
 | v => onV0 v k
theorem onV1_eq (v : PV) (k : PV → R) : onV1 v k = k v := by
 cases v <;> first | rfl | exact onL_eq _ _
def onL1 : List PV → (List PV → R) → R
 | [], k => k []
 | v :: l, k => onV1 v fun v' => onL1 l fun l' => k (v' :: l')
theorem onL1_eq : ∀ (l : List PV) (k : List PV → R), onL1 l k = k l
 | [], k => rfl
 | v :: l, k => by rw [onL1, onV1_eq, onL1_eq l]
def onV (v : PV) (k : PV → R) : R :=
 match v with
 | .tup a => onL1 a fun a' => k (.tup a')
 | v => onV1 v k
theorem onV_eq (v : PV) (k : PV → R) : onV v k = k v := by
 cases v <;> first | rfl | exact onL1_eq _ _ | exact onL_eq _ _
def onVR (v : PV × PV) (k : PV × PV → R) : R := onV v.1 fun a => onV v.2 fun b => k (a, b)
theorem onVR_eq (v : PV × PV) (k : PV × PV → R) : onVR v k = k v := by unfold onVR; rw [onV_eq, onV_eq]
def onUps : Ups → List (Nat × PV) → (List (Nat × PV) → R) → R
 | [], e, k => k e
 | (d, v) :: u, e, k => onV v fun v' => onUps u ((d, v') :: e) k
theorem onUps_eq : ∀ (u : Ups) (e : List (Nat × PV)) (k : List (Nat × PV) → R), onUps u e k = k (applyL u e)
 | [], e, k => rfl
 | (d, v) :: u, e, k => by rw [onUps, onV_eq, onUps_eq u]; rfl
end
section
variable (td : TypeId → TD)
def hintT (t : TypeId) (x : Operand) (vr : PV × PV) : PV × PV :=
 match x with
 | .const (.slice none 0 0) => match (td t).row with
  | some (n, _) => (.nils n, .dead)
  | none => vr
 | _ => vr
abbrev CU := Option (Prop × Ups)
def yes (u : Option Ups) : CU := match u with
 | some u => some (True, u)
 | none => none
def indexC (d sz : Nat) (x : Operand) (vr : PV × PV) (i : Int) : CU :=
 match vr.1 with
 | .own st sz' xs => match x with
  | .tmp t => if t ≠ d ∧ sz' = sz then some (0 ≤ i ∧ i < xs.length, [(d, .eloc t none st i.toNat 0)]) else none
  | _ => none
 | .snap r pl st off len => match rowIf vr.2 pl st with
  | some (sz', _) => if r ≠ d ∧ sz' = sz then some (0 ≤ i ∧ i < len, [(d, .eloc r pl st (off + i.toNat) 0)]) else none
  | none => none
 | _ => none
def sliceC (d : Nat) (n : Option Nat) (x : Operand) (vr : PV × PV) (lo hi : Option PV) : CU :=
 match lo, hi with
 | none, none => yes (sliceS d n x vr none none)
 | some (.int _ l), none => match vr.1 with
  | .str s => if n.isSome then none else some (0 ≤ l ∧ l ≤ s.length, [(d, .str (s.drop l.toNat))])
  | .imm sz xs => if n ≠ some sz then none else some (0 ≤ l ∧ l ≤ xs.length, [(d, .imm sz (xs.drop l.toNat))])
  | .own st sz xs => match x with
   | .tmp t => if n ≠ some sz then none else some (0 ≤ l ∧ l ≤ xs.length, [(d, .snap t none st l.toNat (xs.length - l.toNat))])
   | _ => none
  | .snap r pl st off len => match rowIf vr.2 pl st with
   | none => none
   | some (sz, _) => if n ≠ some sz then none else some (0 ≤ l ∧ l ≤ len, [(d, .snap r pl st (off + l.toNat) (len - l.toNat))])
  | _ => none
 | none, some (.int _ h) => match vr.1 with
  | .str s => if n.isSome then none else some (0 ≤ h ∧ h ≤ s.length, [(d, .str (s.take h.toNat))])
  | .imm sz xs => if n ≠ some sz then none else some (0 ≤ h ∧ h ≤ xs.length, [(d, .imm sz (xs.take h.toNat))])
  | .own st sz xs => match x with
   | .tmp t => if n ≠ some sz then none else some (0 ≤ h ∧ h ≤ xs.length, [(d, .snap t none st 0 h.toNat)])
   | _ => none
  | .snap r pl st off len => match rowIf vr.2 pl st with
   | none => none
   | some (sz, _) => if n ≠ some sz then none else some (0 ≤ h ∧ h ≤ len, [(d, .snap r pl st off h.toNat)])
  | _ => none
 | some (.int _ l), some (.int _ h) => match vr.1 with
  | .str s => if n.isSome then none else some (0 ≤ l ∧ l ≤ h ∧ h ≤ s.length, [(d, .str ((s.drop l.toNat).take (h.toNat - l.toNat)))])
  | .imm sz xs => if n ≠ some sz then none else some (0 ≤ l ∧ l ≤ h ∧ h ≤ xs.length, [(d, .imm sz ((xs.drop l.toNat).take (h.toNat - l.toNat)))])
  | .own st sz xs => match x with
   | .tmp t => if n ≠ some sz then none else some (0 ≤ l ∧ l ≤ h ∧ h ≤ xs.length, [(d, .snap t none st l.toNat (h.toNat - l.toNat))])
   | _ => none
  | .snap r pl st off len => match rowIf vr.2 pl st with
   | none => none
   | some (sz, _) => if n ≠ some sz then none else some (0 ≤ l ∧ l ≤ h ∧ h ≤ len, [(d, .snap r pl st (off + l.toNat) (h.toNat - l.toNat))])
  | _ => none
 | _, _ => none
def nilC (und : UK) (cs : Bool) (x y : PV) : Option Bool :=
 match und with
 | .iface => (match x, y with
  | .nili, .nili => if cs then some true else none
  | .ifi .., .nili | .nili, .ifi .. | .erri, .nili | .nili, .erri => some false
  | _, _ => none)
 | .ptr => (match x, y with
  | .nilp, .nilp => some true
  | .iptr .., .nilp | .nilp, .iptr .. => some false
  | _, _ => none)
 | _ => none
def binC (op : BinOp) (t : TypeId) (d : Nat) (cs : Bool) (x y : PV) : CU :=
 match x, y with
 | .int k a, .int k' b => match op with
  | .shl => if k.bits < 200 then some (0 ≤ b, [(d, .int k (k.wrap (a * 2 ^ (min b.toNat k.bits))))]) else none
  | .shr => some (0 ≤ b, [(d, .int k (a.fdiv (2 ^ (min b.toNat k.bits))))])
  | .quo => if k = k' then some (b ≠ 0, [(d, .int k (k.wrap (a.tdiv b)))]) else none
  | .rem => if k = k' then some (b ≠ 0, [(d, .int k (a.tmod b))]) else none
  | .add => if k = k' then some (True, [(d, .int k (k.wrap (a + b)))]) else none
  | .sub => if k = k' then some (True, [(d, .int k (k.wrap (a - b)))]) else none
  | .mul => if k = k' then some (True, [(d, .int k (k.wrap (a * b)))]) else none
  | .eql => if k = k' then some (True, [(d, .bool (decide (a = b)))]) else none
  | .neq => if k = k' then some (True, [(d, .bool (decide (a ≠ b)))]) else none
  | .lss => if k = k' then some (True, [(d, .bool (decide (a < b)))]) else none
  | .leq => if k = k' then some (True, [(d, .bool (decide (a ≤ b)))]) else none
  | .gtr => if k = k' then some (True, [(d, .bool (decide (b < a)))]) else none
  | .geq => if k = k' then some (True, [(d, .bool (decide (b ≤ a)))]) else none
  | _ => if k = k' then (match bitsI op k a b with | some n => some (True, [(d, .int k n)]) | none => none) else none
 | .str a, .str b => match op with
  | .add => some (a.length + b.length ≤ 9223372036854775807, [(d, .str (a ++ b))])
  | .eql => some (True, [(d, .bool (decide (a = b)))])
  | .neq => some (True, [(d, .bool (decide (a ≠ b)))])
  | .lss => some (True, [(d, .bool (Op.bytesLess a b))])
  | .leq => some (True, [(d, .bool (Op.bytesLess a b || decide (a = b)))])
  | .gtr => some (True, [(d, .bool (!(Op.bytesLess a b || decide (a = b))))])
  | .geq => some (True, [(d, .bool (!(Op.bytesLess a b)))])
  | _ => none
 | .bool a, .bool b => match (td t).und with
  | .bool => match op with
   | .eql => some (True, [(d, .bool (a == b))])
   | .neq => some (True, [(d, .bool (!(a == b)))])
   | _ => none
  | _ => none
 | x, y => match nilC (td t).und cs x y, op with
  | some b, .eql => some (True, [(d, .bool b)])
  | some b, .neq => some (True, [(d, .bool (!b))])
  | _, _ => none
def convC (src dst : TypeId) (d : Nat) (x : PV) : CU :=
 match x with
 | .int _ n => match (td src).und, (td dst).und with
  | .int _, .int k => some (True, [(d, .int k (k.wrap n))])
  | _, _ => none
 | .str s => match (td src).und, (td dst).und with
  | .str, .str => some (True, [(d, .str s)])
  | .str, .slice e => match (td e).und with
   | .int .u8 => some (s.length ≤ 9223372036854775807, [(d, .imm 1 (bytesPV s))])
   | _ => none
  | _, _ => none
 | _ => none
def lenC (v : PV) (t : UK) : Bool :=
 match t with
 | .str => (match v with | .str _ => true | _ => false)
 | .slice _ => (match v with | .str _ => false | _ => true)
 | _ => false
def appC : UK → Bool
 | .str | .slice _ => true
 | _ => false
def buildC (t : TypeId) (parts : List (Nat × Operand)) (rs : Operand → PV × PV) (zs : List PV) : Option (List PV × Ups) :=
 match (td t).arr with
 | some (len, n, _) => buildS (fun i => if i < len then some (i * n, n, t) else none) (fun _ x => rs x) parts zs
 | none => match (td t).plc with
  | some l => buildS (fun i => l[i]?) (fun t x => hintT td t x (rs x)) parts zs
  | none => none
def appendC (p : Stamp) (d : Nat) (t : Nat × Nat) (x : Operand) (vx : PV × PV) (vy : PV × PV) : CU :=
 match appendTo x vx with
 | none => none
 | some (sz, xs, u) => match appended vy with
  | none => none
  | some (sz', ys) =>
   if sz = t.1 ∧ sz' = t.1 ∧ 0 < t.1 then
    if nodupB ((u.map (·.1)) ++ [d]) then some ((xs.length + ys.length) * t.2 ≤ 140737488355328 ∧ xs.length + ys.length ≤ 140737488355328, u ++ [(d, .own p sz (xs ++ ys))]) else none
   else none
def builtinC (p : Stamp) (o : Oper) (c : Call) (rs : Operand → PV × PV) : CU :=
 match c.callee with
 | .builtin .len => match o.dst, c.args.toList, c.argTypes.toList with
  | some d, [x], [t] => onVR (hintT td t x (rs x)) fun vr => match lenV vr with
   | some n => if lenC vr.1 (td t).und then some (True, [(d, .int .i64 n)]) else none
   | none => none
  | _, _, _ => none
 | .builtin .append => match o.dst, c.args.toList, c.argTypes.toList with
  | some d, [x, y], [t1, t2] => onVR (hintT td t1 x (rs x)) fun vx => onVR (hintT td t2 y (rs y)) fun vy => match (td t1).row, (td t1).ez with
   | some t, some zs => if zs.length = t.1 ∧ appC (td t2).und = true then appendC p d t x vx vy else none
   | _, _ => none
  | _, _, _ => none
 | .builtin .max => match o.dst, c.args.toList, c.argTypes.toList with
  | some d, [x, y], [t1, t2] => onVR (hintT td t1 x (rs x)) fun vx => onVR (hintT td t2 y (rs y)) fun vy => match vx.1, vy.1 with
   | .int k a, .int _ b => some (True, [(d, .int k (max a b))])
   | _, _ => none
  | _, _, _ => none
 | .builtin .min => match o.dst, c.args.toList, c.argTypes.toList with
  | some d, [x, y], [t1, t2] => onVR (hintT td t1 x (rs x)) fun vx => onVR (hintT td t2 y (rs y)) fun vy => match vx.1, vy.1 with
   | .int k a, .int _ b => some (True, [(d, .int k (min a b))])
   | _, _ => none
  | _, _, _ => none
 | _ => none
def semC (keep : List Nat) (p : Stamp) (o : Oper) (rs : Operand → PV × PV) : CU :=
 match o.op, o.dst with
 | .call c, _ => builtinC td p o c rs
 | .store t x y, none => onVR (rs x) fun vx => onVR (hintT td t y (rs y)) fun vy => match (td t).size with
  | some n => yes (storeS (keep.contains 1000000) p n x vx y vy)
  | none => none
 | .move x, some d => onVR (hintT td o.type x (rs x)) fun v => match v.1 with
  | .bool b => (match b with
   | true => some (True, [(d, .bool true)])
   | false => some (True, [(d, .bool false)]))
  | _ => yes (moveS false keep p d x v)
 | .assign x, some d => onVR (hintT td o.type x (rs x)) fun v => yes (moveS (!keep.contains (2000000 + d)) keep p d x v)
 | .pick c a b, some d => match (rs c).1 with
  | .bool t => match (rs a).1, (rs b).1 with
   | .bool va, .bool vb => some (True, [(d, .bool (bif t then va else vb))])
   | .bool va, _ => some (t = true, [(d, .bool va)])
   | _, .bool vb => some (t = false, [(d, .bool vb)])
   | _, _ => none
  | _ => none
 | .alloc t, some d => match (td t).zero with
  | some cs => some (True, [(d, .box p (markT t cs))])
  | none => none
 | .box t x, some d => onVR (hintT td t x (rs x)) fun vx => match (td t).size, partS x vx with
  | some n, some (cs, u) => if cs.length = n ∧ nodupB ((u.map (·.1)) ++ [d]) then some (True, u ++ [(d, .box p cs)]) else none
  | _, _ => none
 | .build t parts, some d => match (td t).zero with
  | none => none
  | some zs =>
   match buildC td t parts.toList rs zs with
   | some (cs, u) => if nodupB ((u.map (·.1)) ++ [d]) then some (True, u ++ [(d, .agg cs)]) else none
   | none => none
 | .buildSlice t len parts, some d => match (td t).row, (td t).ez, (td t).und with
  | some (n, _), some zs, .slice el =>
   if len * n ≤ 16777216 ∧ 0 < n ∧ zs.length = n then
    match elemsS n (fun x => hintT td el x (rs x)) parts.toList (List.replicate len (zs.map frzC)) with
    | some (xs, u) => if nodupB ((u.map (·.1)) ++ [d]) then onLL xs fun xs => some (True, u ++ [(d, .own p n xs)]) else none
    | none => none
   else none
  | _, _, _ => none
 | .load t x, some d => onVR (rs x) fun vx => match (td t).size, (td t).agg with
  | some n, some a => if a = true ∨ n = 1 then yes (loadS (n, a) d x vx) else none
  | _, _ => none
 | .nilCheck x, some d => onVR (rs x) fun vx => yes (addrS d 0 x vx)
 | .fieldAddr t x f, some d => onVR (rs x) fun vx => match (td t).flds[f]? with
  | some (some (off, n, _, _)) => if n = 0 then none else yes (addrS d off x vx)
  | _ => none
 | .indexAddr t x i, some d => match (rs i).1 with
  | .int _ n => match (td t).arr with
   | some (len, s, _) => onVR (rs x) fun vx => match addrS d (n.toNat * s) x vx with
    | some u => some (0 ≤ n ∧ n < len, u)
    | none => none
   | none => match (td t).row with
    | some (s, _) => onVR (rs x) fun vx => indexC d s x vx n
    | none => none
  | _ => none
 | .index t x i, some d => match (rs i).1 with
  | .int _ n => match (rs x).1, (td t).und with
   | .str s, .str => some (0 ≤ n ∧ n < s.length, [(d, .int .u8 (s.getD n.toNat 0).toNat)])
   | _, _ => none
  | _ => none
 | .slice t x lo hi none, some d => match (td t).und with
  | .str => onVR (rs x) fun vx => sliceC d none x vx (lo.map fun y => (rs y).1) (hi.map fun y => (rs y).1)
  | .slice _ => match (td t).row with
   | some (n, _) => onVR (rs x) fun vx => sliceC d (some n) x vx (lo.map fun y => (rs y).1) (hi.map fun y => (rs y).1)
   | none => none
  | _ => none
 | .field t x f, some d => onVR (rs x) fun vx => match (td t).flds[f]? with
  | some (some (off, n, a, _)) => if a = true ∨ n = 1 then yes (fieldS d vx off n a) else none
  | _ => none
 | .extract x i, some d => onVR (rs x) fun vx => yes (extractS p d x vx i)
 | .binOp op t x y _, some d => onV (rs x).1 fun vx => onV (rs y).1 fun vy => binC td op t d (constO x || constO y) vx vy
 | .makeInterface t x, some d => onV (rs x).1 fun vx => match (td t).und with
  | .none | .iface => none
  | .int _ => match vx with
   | .int k n => some (True, [(d, .ifi t k n)])
   | _ => some (True, [(d, .erri)])
  | _ => some (True, [(d, .erri)])
 | .unOp op _ x, some d => onV (rs x).1 fun vx => match op, vx with
  | .neg, .int k n => some (True, [(d, .int k (k.wrap (0 - n)))])
  | .not, .bool b => some (True, [(d, .bool (!b))])
  | _, _ => none
 | .convert s t x, some d => onV (rs x).1 fun vx => convC td s t d vx
 | .makeSlice t l c, some d => match (td t).row, (td t).ez, (rs l).1, (rs c).1 with
  | some (n, b), some zs, .int _ l, .int _ c =>
   if 0 < n ∧ zs.length = n then some (0 ≤ l ∧ l ≤ c ∧ c * b ≤ 140737488355328 ∧ c ≤ 140737488355328, [(d, .own p n (List.replicate l.toNat (zs.map frzC)))]) else none
  | _, _, _, _ => none
 | .makeFunc (.func f) first caps, some d =>
  if first.isEmpty then
   match capS (caps.toList.map fun x => (x, rs x)) with
   | some (cs, u) => if nodupB ((u.map (·.1)) ++ [d]) then some (True, u ++ [(d, .func f cs)]) else none
   | none => none
  else none
 | _, _ => none
end
end Go.PE
namespace Go.PE
open Go.RowKit
section
variable {P : Program} {Φ : FuncId → List PV → Option (PV × List (List PV))} {keep : List Nat}
abbrev Lg := List (List Nat × List Nat)
structure WX (P : Program) (Φ : FuncId → List PV → Option (PV × List (List PV))) (keep : List Nat) (ops : Array Oper) (rid i : Nat) (l : List Oper) (e : List (Nat × PV)) (acc : Option Lg) (K : List (Nat × PV) → Prop) : Prop where
 out : match acc with
  | none => ∃ e', runOps P Φ keep ops rid i l e = some e' ∧ K e'
  | some lg => ∃ e' lg', runLog P Φ keep ops rid i l e = some (e', lg') ∧ apartB ops (lg ++ lg') = true ∧ K e'
variable {ops : Array Oper} {rid i : Nat} {o : Oper} {r : List Oper} {e : List (Nat × PV)} {acc : Option Lg} {K : List (Nat × PV) → Prop}
theorem WX.nil (k : K e) : WX P Φ keep ops rid i [] e none K := ⟨e, rfl, k⟩
theorem WX.nilD {lg : Lg} (h : apartB ops lg = true) (k : K e) : WX P Φ keep ops rid i [] e (some lg) K := ⟨e, [], rfl, by rw [List.append_nil]; exact h, k⟩
def nxt (acc : Option Lg) (f : List Nat) (u : Ups) : Option Lg :=
 match acc with
 | none => none
 | some lg => some (lg ++ [(f, u.map (·.1))])
theorem WX.raw0 {u : Ups} (h : stepO P Φ keep ops rid i o (lookup e) = some u) (k : WX P Φ keep ops rid (i + 1) r (applyL u e) (nxt acc (foot ops o (lookup e)) u) K) : WX P Φ keep ops rid i (o :: r) e acc K := by
 cases acc with
 | none =>
  obtain ⟨e', h1, h2⟩ := k.out
  exact ⟨e', by rw [runOps, h]; exact h1, h2⟩
 | some lg =>
  obtain ⟨e', lg', h1, h2, h3⟩ := k.out
  refine ⟨e', (foot ops o (lookup e), u.map (·.1)) :: lg', ?_, ?_, h3⟩
  ·rw [runLog, h]
   simp only [h1]
  ·rw [List.append_assoc] at h2
   exact h2
theorem WX.raw {u : Ups} (hg : guardOf ops o (lookup e) = some true) (h : sem P Φ keep (rid, i) o (res (lookup e)) = some u)
  (k : onUps u e fun e' => WX P Φ keep ops rid (i + 1) r e' (nxt acc (foot ops o (lookup e)) u) K) : WX P Φ keep ops rid i (o :: r) e acc K := by
 rw [onUps_eq] at k
 exact WX.raw0 (by rw [stepO, hg]; exact h) k
theorem WX.rawN {u : Ups} (hg : guardOf ops o (lookup e) = some true) (h : sem P Φ keep (rid, i) o (res (lookup e)) = some u)
  (k : onUps u e fun e' => WX P Φ keep ops rid (i + 1) r e' none K) : WX P Φ keep ops rid i (o :: r) e none K := WX.raw hg h k
theorem WX.skipD (hg : guardOf ops o (lookup e) = some false)
  (k : onUps (match o.dst with | some d => [(d, .tup [])] | none => []) e fun e' => WX P Φ keep ops rid (i + 1) r e' (nxt acc (foot ops o (lookup e)) (match o.dst with | some d => [(d, .tup [])] | none => [])) K) : WX P Φ keep ops rid i (o :: r) e acc K := by
 rw [onUps_eq] at k
 exact WX.raw0 (by rw [stepO, hg]; rfl) k
theorem WX.skip (hg : guardOf ops o (lookup e) = some false)
  (k : onUps (match o.dst with | some d => [(d, .tup [])] | none => []) e fun e' => WX P Φ keep ops rid (i + 1) r e' none K) : WX P Φ keep ops rid i (o :: r) e none K := WX.skipD hg k
structure W (P : Program) (Φ : FuncId → List PV → Option (PV × List (List PV))) (keep : List Nat) (lv : Nat → List Nat) (n b : Nat) (c : Code) (s : St) (Q : Ex → St → Prop) : Prop where
 out : ∃ ex s', exec P Φ keep lv n b c s = some (ex, s') ∧ Q ex s'
variable {lv : Nat → List Nat} {n b : Nat} {s : St} {Q : Ex → St → Prop}
theorem W.skip (k : Q .normal s) : W P Φ keep lv n b .skip s Q := ⟨.normal, s, by cases s; rfl, k⟩
theorem W.exit {id : Nat} (k : Q (.exit id) s) : W P Φ keep lv n b (.exit id) s Q := ⟨.exit id, s, by cases s; rfl, k⟩
theorem W.ret (k : Q .ret s) : W P Φ keep lv n b .ret s Q := ⟨.ret, s, by cases s; rfl, k⟩
theorem W.region {id : Nat} (k : WX P Φ keep ops (rid + 1) 0 ops.toList e none fun e' => Q .normal (rid + 1, e')) : W P Φ keep lv n b (.region id ops false) (rid, e) Q := by
 obtain ⟨e', h1, h2⟩ := k.out
 exact ⟨.normal, (rid + 1, e'), by simp [exec, h1], h2⟩
theorem W.regionD {id : Nat} (k : WX P Φ keep ops (rid + 1) 0 ops.toList e (some []) fun e' => Q .normal (rid + 1, e')) : W P Φ keep lv n b (.region id ops true) (rid, e) Q := by
 obtain ⟨e', lg', h1, h2, h3⟩ := k.out
 rw [List.nil_append] at h2
 exact ⟨.normal, (rid + 1, e'), by simp [exec, h1, h2], h3⟩
def thenW (F : St → Prop) (Q : Ex → St → Prop) : Ex → St → Prop
 | .normal, s => F s
 | ex, s => Q ex s
theorem W.seq {x y : Code} (k : W P Φ keep lv n b x s (thenW (fun s' => W P Φ keep lv n b y s' Q) Q)) : W P Φ keep lv n b (.seq x y) s Q := by
 obtain ⟨ex, s', h1, h2⟩ := k.out
 cases ex with
 | normal =>
  obtain ⟨ex2, s2, h3, h4⟩ := W.out h2
  exact ⟨ex2, s2, by rw [exec, h1]; exact h3, h4⟩
 | exit id => exact ⟨.exit id, s', by rw [exec, h1], h2⟩
 | ret => exact ⟨.ret, s', by rw [exec, h1], h2⟩
theorem W.cond {c : Operand} {x y : Code} {t : Bool} (h : opv (lookup s.2) c = .bool t) (k1 : t = true → W P Φ keep lv n b x s Q) (k2 : t = false → W P Φ keep lv n b y s Q) : W P Φ keep lv n b (.cond c x y) s Q := by
 cases t with
 | true =>
  obtain ⟨ex, s', h1, h2⟩ := (k1 rfl).out
  exact ⟨ex, s', by rw [exec, h]; exact h1, h2⟩
 | false =>
  obtain ⟨ex, s', h1, h2⟩ := (k2 rfl).out
  exact ⟨ex, s', by rw [exec, h]; exact h1, h2⟩
theorem W.condT {c : Operand} {x y : Code} (h : opv (lookup s.2) c = .bool true) (k : W P Φ keep lv n b x s Q) : W P Φ keep lv n b (.cond c x y) s Q := W.cond h (fun _ => k) (fun h => by cases h)
theorem W.condF {c : Operand} {x y : Code} (h : opv (lookup s.2) c = .bool false) (k : W P Φ keep lv n b y s Q) : W P Φ keep lv n b (.cond c x y) s Q := W.cond h (fun h => by cases h) (fun _ => k)
def outW (id : Nat) (Q : Ex → St → Prop) : Ex → St → Prop
 | .exit j, s => match Nat.beq j id with
  | true => Q .normal s
  | false => Q (.exit j) s
 | ex, s => Q ex s
theorem W.block {id : Nat} {c : Code} (k : W P Φ keep lv n id c s (outW id Q)) : W P Φ keep lv n b (.block id c) s Q := by
 obtain ⟨ex, s', h1, h2⟩ := k.out
 cases ex with
 | normal => exact ⟨.normal, s', by rw [exec, h1], h2⟩
 | ret => exact ⟨.ret, s', by rw [exec, h1], h2⟩
 | exit j =>
  by_cases hj : j = id
  ·subst hj
   have : Nat.beq j j = true := by simp
   simp only [outW, this] at h2
   exact ⟨.normal, s', by rw [exec, h1]; simp, h2⟩
  ·have : Nat.beq j id = false := by
    rw [← Bool.not_eq_true, Nat.beq_eq]; exact hj
   simp only [outW, this] at h2
   exact ⟨.exit j, s', by rw [exec, h1]; simp [hj], h2⟩
theorem loopN_inv {body : List (Nat × PV) → Option (Ex × St)} {live : List Nat} {I : List (Nat × PV) → Nat → Prop}
  (hs : ∀ e m, I e m → ∃ ex s', body e = some (ex, s') ∧ thenW (fun s' => ∃ m', m' < m ∧ I (canon live (lookup s'.2)) m') Q ex s') :
  ∀ (m n : Nat) (e : List (Nat × PV)), I e m → m < n → ∃ ex s', loopN body live n e = some (ex, s') ∧ Q ex s' := by
 intro m
 induction m using Nat.strongRecOn with
 | _ m ih =>
  intro n e hI hn
  obtain ⟨n, rfl⟩ : ∃ k, n = k + 1 := ⟨n - 1, by omega⟩
  obtain ⟨ex, s', h1, h2⟩ := hs e m hI
  cases ex with
  | normal =>
   obtain ⟨m', h3, h4⟩ := h2
   obtain ⟨ex2, s2, h5, h6⟩ := ih m' h3 n _ h4 (by omega)
   exact ⟨ex2, s2, by rw [loopN, h1]; exact h5, h6⟩
  | exit id => exact ⟨.exit id, s', by rw [loopN, h1], h2⟩
  | ret => exact ⟨.ret, s', by rw [loopN, h1], h2⟩
theorem W.loop {c : Code} (I : List (Nat × PV) → Nat → Prop) (m0 : Nat) (h0 : I (canon (lv b) (lookup s.2)) m0) (hm : m0 < n)
  (hs : ∀ e m, I e m → W P Φ keep lv n b c (0, e) (thenW (fun s' => ∃ m', m' < m ∧ I (canon (lv b) (lookup s'.2)) m') Q)) : W P Φ keep lv n b (.loop c) s Q := by
 obtain ⟨ex, s', h1, h2⟩ := loopN_inv (body := fun e => exec P Φ keep lv n b c (0, e)) (live := lv b) (I := I) (Q := Q) (fun e m h => (hs e m h).out) m0 n _ h0 hm
 exact ⟨ex, s', by rw [exec]; exact h1, h2⟩
theorem W.mono {c : Code} {Q' : Ex → St → Prop} (h : W P Φ keep lv n b c s Q') (hq : ∀ ex s', Q' ex s' → Q ex s') : W P Φ keep lv n b c s Q := by
 obtain ⟨ex, s', h1, h2⟩ := h.out
 exact ⟨ex, s', h1, hq _ _ h2⟩
end
section
variable (td : TypeId → TD)
def resValT (e : Env) : ResultVar → Option PV
 | .tmp t => if isRef (opv e (.tmp t)) then none else some (opv e (.tmp t))
 | .cell t ty => match opv e (.tmp t), (td ty).size, (td ty).agg with
  | .iptr cs 0, some n, some ag => if (ag = true ∨ n = 1) ∧ cs.length = n then (if ag then some (.agg cs) else cs.head?) else none
  | _, _, _ => none
def resValsT (e : Env) : List ResultVar → Option (List PV)
 | [] => some []
 | r :: l => match resValT td e r, resValsT e l with
  | some v, some vs => some (v :: vs)
  | _, _ => none
def finishT (rs : List ResultVar) (bp : List Nat) (e : Env) : Option (PV × List (List PV)) :=
 match resFrz e rs with
 | none => none
 | some u => match resValsT td (apply u e) rs, outsOf (apply u e) bp with
  | some vs, some outs => if nodupB (u.map (·.1)) && nodupB (resSlots rs ++ bp) then some (frzT (stmo (0, 0) (one vs)), outs) else none
  | _, _ => none
theorem finish_eq (P : Program) (rs : List ResultVar) (bp : List Nat) (e : Env) : finishT (tdOf P) rs bp e = finish P rs bp e := by
 have h1 : ∀ e r, resValT (tdOf P) e r = resVal P e r := by intro e r; cases r <;> rfl
 have h2 : ∀ e l, resValsT (tdOf P) e l = resVals P e l := by
  intro e l
  induction l with
  | nil => rfl
  | cons r l ih => rw [resValsT, resVals, h1, ih]; rfl
 unfold finishT finish
 simp only [h2]
 rfl
end
def endW (F : Env → Option (PV × List (List PV))) (r : PV × List (List PV)) : Ex → St → Prop
 | .exit _, _ => False
 | _, s => F (lookup s.2) = some r
theorem funcS_enter {P : Program} {Φ : FuncId → List PV → Option (PV × List (List PV))} {td : TypeId → TD} (htd : td = tdOf P) {keep : FuncId → List Nat} {lv : FuncId → Nat → List Nat} {n : Nat} {f : FuncId} {avs : List PV} {r : PV × List (List PV)} {fn : Func} {c : Code}
  (hf : P.funcs[f]? = some fn) (hc : fn.body = some c) (hn : ¬ (fn.name = "runtime.NumGoroutine" ∨ (wrB f || prB f) = true)) (hok : codeOK fn.ntmps (boxPos avs) c = true) (hl : avs.length ≤ fn.ntmps) (hv : fn.ntmps ≤ VS) (hst : avs.all stamp0 = true)
  (h : W P Φ (keep f) (lv f) n 0 c (0, avs.zipIdx.map fun q => (q.2, q.1)) (endW (finishT td fn.results.toList (boxPos avs)) r)) : funcS P Φ keep lv n f avs = some r := by
 obtain ⟨ex, s', h1, h2⟩ := h.out
 subst htd
 unfold funcS
 rw [hf]
 simp only [hc, if_neg hn]
 unfold funcBody
 rw [if_pos ⟨hl, hv, hok, hst⟩, h1]
 obtain ⟨rid, e⟩ := s'
 cases ex with
 | exit id => exact h2.elim
 | normal => exact (finish_eq P _ _ _).symm.trans h2
 | ret => exact (finish_eq P _ _ _).symm.trans h2
end Go.PE
