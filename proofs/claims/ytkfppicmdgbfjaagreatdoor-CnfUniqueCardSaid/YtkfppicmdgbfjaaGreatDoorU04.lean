/-
  A part of the proof that the law's function returns true and leaves its arguments as they were, for every input (no condition): own lemmas of the proof, in the order of their use.
-/
import Derived.Test.YtkfppicmdgbfjaaGreatDoorU03
set_option linter.all false
namespace Go.PE
open Go.RowKit
section
variable {P : Program} {B : Base} {Fz : Nat → Prop} {e : Env} {a : Act} {tm : Tm} {w : World} {ob : Nat → List Nat} {S : Stamp → Prop} {p : Stamp}
theorem RootStep.box {w' : World} {st : Stamp} {cs cs' : List PV} {u : Value} {g : Nat} (hu : u = .pointer (some ⟨g, 0, none⟩))
    (h : ∀ (c : Nat) st' sz xs', cs'[c]? = some (.own st' sz xs') → S st' → ∃ xs, cs[c]? = some (.own st' sz xs) ∧ xs.length = xs'.length ∧ ∀ x, w.cell? ⟨g, c, none⟩ = some x → w'.cell? ⟨g, c, none⟩ = some x)
    (hm : ∀ (c : Nat) st' ks' vs', cs'[c]? = some (.omap st' ks' vs') → S st' → ∃ ks vs, cs[c]? = some (.omap st' ks vs) ∧ ∀ x, w.cell? ⟨g, c, none⟩ = some x → w'.cell? ⟨g, c, none⟩ = some x) :
    RootStep S w w' (.box st cs) (.box st cs') u u := by
  refine ⟨fun st' cs'' hv hs => ⟨cs, by cases hv; rfl, rfl⟩, fun pl st' sz xs' hr hs => ?_, fun pl st' ks' vs' hr hs => ?_⟩
  rotate_left
  · have hr := mapIf_stamp hr
    unfold mapAt? at hr
    cases pl with
    | none => simp at hr
    | some c =>
      simp only at hr
      split at hr
      · rename_i st2 ks2 vs2 hc
        simp only [Option.some.injEq, Prod.mk.injEq] at hr
        obtain ⟨rfl, rfl, rfl⟩ := hr
        obtain ⟨ks, vs, h1, h3⟩ := hm c _ _ _ hc hs
        refine ⟨ks, vs, mapIf_of (by simp [mapAt?, h1]), fun x hx => ?_⟩
        obtain ⟨g', hg', hx⟩ := hx
        rw [hu] at hg'
        cases hg'
        exact ⟨g, hu, h3 x hx⟩
      · cases hr
  have hr := rowIf_stamp hr
  unfold rowAt? at hr
  cases pl with
  | none => simp at hr
  | some c =>
    simp only at hr
    split at hr
    · rename_i st2 sz2 xs2 hc
      simp only [Option.some.injEq, Prod.mk.injEq] at hr
      obtain ⟨rfl, rfl, rfl⟩ := hr
      obtain ⟨xs, h1, h2, h3⟩ := h c _ _ _ hc hs
      refine ⟨xs, rowIf_of (by simp [rowAt?, h1]), h2, fun x hx => ?_⟩
      obtain ⟨g', hg', hx⟩ := hx
      rw [hu] at hg'
      cases hg'
      exact ⟨g, hu, h3 x hx⟩
    · cases hr
theorem Rep.map_imm {w : World} {Fz : Nat → Prop} {v : Value} {st : Stamp} {ks : MKeys} {vs : List (List PV)} {bs : List Nat} (h : Rep w Fz v (.omap st ks vs) bs) : Imm w (fun b => Fz b ∨ b ∈ bs) v (.imap ks vs) := by
  cases h with
  | plain h => exact absurd h.okC (by simp [okC])
  | omap g clock es _ _ _ c hg hm hr => exact .imap g clock es ks vs c (.inr (by simp)) hg hm fun i j q hq => (hr i j q hq).mono (fun _ h => .inl h) fun _ _ => rfl
theorem Rep.frzO {w : World} {Fz : Nat → Prop} {v : Value} {q : PV} {bs : List Nat} (h : Rep w Fz v q bs) (hc : okC (frzO q) = true) : Imm w (fun b => Fz b ∨ b ∈ bs) v (frzO q) := by
  by_cases hok : okC q = true
  · have hi := (h.imm hok).mono (Fz' := fun b => Fz b ∨ b ∈ bs) (fun _ h => .inl h) (fun _ _ => rfl)
    cases q <;> simp_all [okC, PE.frzO]
  · cases q <;> simp_all [okC, PE.frzO]
    · exact h.row_imm
    · exact h.map_imm
theorem Reps.frzO {w : World} {Fz : Nat → Prop} : ∀ {vs : List Value} {ps : List PV} {bs : List Nat}, Reps w Fz vs ps bs → (ps.map frzO).all okC = true →
    ImmL w (fun b => Fz b ∨ b ∈ bs) vs (ps.map frzO)
  | _, _, _, .nil, _ => ⟨rfl, fun i v p h => by simp at h⟩
  | _, _, _, .cons h hs, hp => by
    simp only [List.map_cons, List.all_cons, Bool.and_eq_true] at hp
    have ih := hs.frzO hp.2
    refine ⟨by simp [ih.1], fun i v p hv hq => ?_⟩
    cases i with
    | zero =>
      simp at hv hq; subst hv hq
      exact (h.frzO hp.1).mono (fun b hb => hb.imp id fun hb => by simp [hb]) (fun _ _ => rfl)
    | succ i => exact (ih.2 i v p (by simpa using hv) (by simpa using hq)).mono (fun b hb => hb.imp id fun hb => by simp [hb]) (fun _ _ => rfl)
theorem cellC_of_ok {q : PV} (h : okC q = true) : cellC q = true := by cases q <;> simp_all [cellC, okC]
theorem all_cellC_of_ok {l : List PV} (h : l.all okC = true) : l.all cellC = true := by
  rw [List.all_eq_true] at h ⊢
  intro x hx
  have := h x hx
  cases x <;> simp_all [okC, cellC]
theorem splice_getElem? (cs new : List PV) (o c : Nat) (h : o + new.length ≤ cs.length) :
    (splice cs new o)[c]? = if c < o then cs[c]? else if c < o + new.length then new[c - o]? else cs[c]? := by
  unfold splice
  rw [List.append_assoc, List.getElem?_append, List.length_take, Nat.min_eq_left (by omega)]
  split
  · rw [List.getElem?_take, if_pos ‹_›]
  · rw [List.getElem?_append]
    split
    · rw [if_pos (by omega)]
    · rw [if_neg (by omega), List.getElem?_drop]
      congr 1
      omega
theorem splice_length (cs new : List PV) (o : Nat) (h : o + new.length ≤ cs.length) : (splice cs new o).length = cs.length := by
  unfold splice; simp; omega
theorem nodup3 {α : Type} {x : α} {a b c : List α} (h : (x :: (a ++ (b ++ c))).Nodup) : (x :: (a ++ c)).Nodup ∧ (∀ y ∈ b, y ∉ (x :: (a ++ c))) ∧ b.Nodup := by
  simp only [List.nodup_cons, List.nodup_append, List.mem_append, List.mem_cons] at h ⊢
  grind
/-- Some cells of a variable are written by nobody any more. -/
theorem Inv.freezeRange (I : Inv B Fz e tm w ob S) {r : Nat} {st : Stamp} {all : List PV} (he : e r = .box st all) (o n : Nat) (hl : o + n ≤ all.length) (hall2 : (((all.drop o).take n).map frzO).all okC = true) :
    ∃ (bs : List Nat) (ob' : Nat → List Nat), Inv B (fun b => Fz b ∨ b ∈ bs) (upd e r (.box st (splice all (((all.drop o).take n).map frzO) o))) tm w ob' S ∧
      ∃ g vs, tm r = .pointer (some ⟨g, 0, none⟩) ∧ vs.length = n ∧ (∀ (j : Nat) v, vs[j]? = some v → w.cell? ⟨g, o + j, none⟩ = some v) ∧
        ImmL w (fun b => Fz b ∨ b ∈ bs) vs (((all.drop o).take n).map frzO) := by
  obtain ⟨g, arr, ty, bs0, htm, hg, hreps, hob, hcc⟩ := I.boxAt he
  obtain ⟨b1, b23, hb0, hr1, hr23⟩ := hreps.split o
  obtain ⟨b2, b3, hb23, hr2, hr3⟩ := hr23.split n
  subst hb23 hb0
  have hlen := hreps.length
  have hfr := hr2.frzO hall2
  have hnd := I.nodup r
  rw [hob] at hnd
  obtain ⟨hnd1, hnd2, _⟩ := nodup3 hnd
  have hsub : ∀ x ∈ g :: (b1 ++ b3), x ∈ ob r := by rw [hob]; intro x hx; simp at hx ⊢; grind
  refine ⟨b2, upd ob r (g :: (b1 ++ b3)), ?_, g, (arr.toList.drop o).take n, htm, by simp at hlen ⊢; omega, fun j v hv => ?_, hfr⟩
  · refine I.step (fun s => s = r) (fun _ h => h) rfl rfl rfl (Nat.le_refl _) (fun _ _ _ => rfl) (fun s hs => ⟨upd_other hs, rfl, upd_other hs⟩)
      (fun b hb => .inl hb) (fun x hx => ?_) ?_ ?_ ?_ ?_ ?_ ?_
    · rcases hx with hx | hx
      · exact .inl hx
      · exact .inr (.inl ⟨r, rfl, by rw [hob]; simp [hx]⟩)
    · rintro s rfl x hx
      rw [upd_same] at hx
      exact ⟨.inl ⟨s, rfl, hsub x hx⟩, fun hf => hf.elim (I.notFz s x (hsub x hx)) fun hb => hnd2 x hb hx⟩
    · rintro s rfl; rw [upd_same]; exact hnd1
    · rintro s t rfl rfl hne; exact absurd rfl hne
    · rintro s rfl st' hs
      rw [upd_same] at hs
      refine I.stamps s st' ?_
      rw [he]
      simp only [stampsOf, stamps1, List.mem_cons, List.mem_flatMap] at hs ⊢
      rcases hs with hs | ⟨q, hq, hs⟩
      · exact .inl hs
      · unfold splice at hq
        simp only [List.mem_append, List.mem_map] at hq
        rcases hq with (hq | ⟨q', hq, rfl⟩) | hq
        · exact .inr ⟨q, List.mem_of_mem_take hq, hs⟩
        · have hk := List.all_eq_true.1 hall2 _ (List.mem_map.2 ⟨q', hq, rfl⟩)
          cases q' <;> simp_all [frzO, stampsC, okC]
        · exact .inr ⟨q, List.mem_of_mem_drop hq, hs⟩
    · rintro s rfl
      rw [upd_same, he]
      refine RootStep.box htm (fun c st' sz xs' hc _ => ⟨xs', ?_, rfl, fun x hx => hx⟩) fun c st' ks' vs' hc _ => ⟨ks', vs', ?_, fun x hx => hx⟩
      rotate_left
      · rw [splice_getElem? _ _ _ _ (by simp; omega)] at hc
        split at hc
        · exact hc
        · split at hc
          · have hk := List.all_eq_true.1 hall2 _ (List.mem_of_getElem? hc)
            simp [okC] at hk
          · exact hc
      rw [splice_getElem? _ _ _ _ (by simp; omega)] at hc
      split at hc
      · exact hc
      · split at hc
        · simp only [List.getElem?_map] at hc
          obtain ⟨q, hq, hq'⟩ := Option.map_eq_some_iff.1 hc
          cases q <;> simp_all [frzO]
        · exact hc
    · rintro _ s rfl
      unfold SlotRep
      rw [upd_same, upd_same, if_neg (by simp [isRef]), htm]
      have hM : ∀ b, Fz b → (fun b => Fz b ∨ b ∈ b2) b := fun _ h => .inl h
      have h1 := hr1.mono hM (fun _ _ => rfl) (fun _ _ => rfl)
      have h3 := hr3.mono hM (fun _ _ => rfl) (fun _ _ => rfl)
      have h2 := Reps.ofImmL hfr
      have hAll := (h1.append h2).append h3
      rw [List.append_nil] at hAll
      have ev : arr.toList.take o ++ (arr.toList.drop o).take n ++ (arr.toList.drop o).drop n = arr.toList := by
        rw [List.append_assoc, List.take_append_drop, List.take_append_drop]
      rw [ev] at hAll
      refine .box g arr ty st _ _ hg ?_ ?_
      · unfold splice
        rw [List.length_map, List.length_take, List.length_drop, Nat.min_eq_left (by omega), ← List.drop_drop]
        exact hAll
      · have hn1 : ((arr.toList.drop o).take n).length = n := by rw [List.length_take, List.length_drop]; omega
        have hn2 : (((all.drop o).take n).map frzO).length = n := by rw [List.length_map, List.length_take, List.length_drop]; omega
        have hsp := SelfOK.splice (o := o) (nv := (arr.toList.drop o).take n) (new := ((all.drop o).take n).map frzO) hcc hlen (by rw [hn1, hn2]) (by rw [hn2]; omega)
          (by
            rw [List.all_eq_true]
            intro x hx
            exact cellC_of_ok (List.all_eq_true.1 hall2 x hx))
          (fun q hq => by
            have := List.all_eq_true.1 hall2 q hq
            cases q <;> simp_all [okC, isSelf])
        rw [hn1, ← List.drop_drop] at hsp
        rwa [ev] at hsp
  · rw [List.getElem?_take] at hv
    split at hv
    · rw [List.getElem?_drop] at hv
      simp only [World.cell?, hg, Option.isSome_none, Bool.false_eq_true, if_false]
      simpa using hv
    · cases hv
theorem ref_tmp {e : Env} {x : Operand} {v : PV} (h : (res e x).1 = v) (hr : isRef v = true) (hd : v ≠ .dead) : ∃ s, x = .tmp s ∧ s ≠ VS ∧ e s = v ∧ ∀ r, rootOf v = some r → (res e x).2 = e r := by
  cases x with
  | tmp s =>
    obtain ⟨hvs, he⟩ := tmp_val h hd
    refine ⟨s, rfl, hvs, he, fun r hr' => ?_⟩
    subst he
    simp [res, opv, hvs, hr']
  | const c =>
    have h : constPV c = v := h
    rcases const_cases c with h' | h'
    · rw [h] at h'
      rw [ok_not_ref h'] at hr
      cases hr
    · exact absurd (h.symm.trans h') hd
  | global g =>
    have h : globPV g = v := h
    rcases globPV_cases g with h' | ⟨_, _, h'⟩
    · exact absurd (h.symm.trans h') hd
    · rw [← h, h'] at hr; cases hr
  | func f =>
    have h : PV.func f [] = v := h
    rw [← h] at hr; cases hr
theorem out_loadP (I : Inv B Fz e (tmOf B a) w ob S) {o : Oper} {d : Nat} {t : TypeId} {x : Operand} (ho : o.op = .load t x) {n : Nat} {ag : Bool} (hs : sizeT P t = some n)
    (ha : isAggT P t = some ag) {ups : Ups} (h : loadP (n, ag) d (res e x) = some ups) : Out P B e a w S p o d ups := by
  unfold loadP at h
  split at h
  · rename_i r st hv
    split at h
    · rename_i st' cs hv2
      split at h
      · rename_i hc
        obtain ⟨rfl, hrd, hty⟩ := hc
        cases hty
        cases h
        obtain ⟨s, rfl, hvs, he, h2⟩ := ref_tmp hv rfl (by simp)
        have hbox : e r = .box st' cs := (h2 r rfl).symm.trans hv2
        have href := I.ref s (by rw [he]; rfl)
        rw [he] at href
        obtain ⟨g, ty, h3, h4, h5⟩ := href cs hbox
        have hR := I.slot r (by rw [hbox]; rfl)
        rw [hbox] at hR
        obtain ⟨g2, hg2⟩ : ∃ g2, tmOf B a r = .pointer (some ⟨g2, 0, none⟩) := by
          generalize tmOf B a r = u at hR
          generalize ob r = bs at hR
          cases hR with
          | plain h => exact absurd h.okC (by simp [okC])
          | box g2 => exact ⟨g2, rfl⟩
        have hrun := run_loadAt (P := P) (w := w) hs ha (.inr rfl) (ad := ⟨g, 0, none⟩) (vs := [tmOf B a r]) rfl fun j v hj => by
          cases j with
          | zero =>
            cases hj
            simp [World.cell?, Addr.add, h5]
          | succ j => simp at hj
        refine ⟨tmOf B a r, w, Fz, _, ?_, I.putRef d _ (.loc r st' 0) rfl (fun cs' _ => ⟨g2, hg2, hg2⟩) fun st hst => I.stamps s st (by rw [he]; exact hst)⟩
        have hev : a.eval (.tmp s) = .pointer (some ⟨g, 0, none⟩) := (tmOf_ne B a hvs).symm.trans h3
        simp only [execOp, ho, Sem.run_bind, hev, hrun, Result.andThen_ok, Sem.run_pure]
        rfl
      · cases h
    · cases h
  · cases h
theorem out_load (I : Inv B Fz e (tmOf B a) w ob S) {o : Oper} {d : Nat} {t : TypeId} {x : Operand} (ho : o.op = .load t x) {n : Nat} {ag : Bool} (hs : sizeT P t = some n)
    (ha : isAggT P t = some ag) (h1 : ag = true ∨ n = 1) {ups : Ups} (h : loadS (n, ag) d x (res e x) = some ups) : Out P B e a w S p o d ups := by
  unfold loadS at h
  simp only at h
  split at h
  · exact out_loadP I ho hs ha h
  · rename_i pl hpl
    split at h
    · cases h
    · rename_i cs hcs
      obtain ⟨ad, vs, h2, h3, h4, h5, h6⟩ := I.cells hpl hcs
      have hrun : (execOp a.eval o).run P w = .ok (.value (if ag then .agg vs.toArray else vs.headD undef)) w := by
        simp only [execOp, ho, Sem.run_bind, h2, run_loadAt hs ha h1 h3 h5, Result.andThen_ok, Sem.run_pure]
      split at h
      · rename_i hag
        subst hag
        split at h
        · rename_i hok
          cases h
          exact out_plain I hrun (.inr ⟨_, _, rfl, rfl, by simpa using h6 hok⟩)
        · have hpl' := I.place hpl
          split at h
          · rename_i r st all off
            split at h
            · cases h
            · rename_i hrd
              rw [not_or, Decidable.not_not] at hrd
              cases h
              obtain ⟨he, g, arr, ty, bs, k1, k2, k3, k4, k5, k6⟩ := hpl'
              simp only [Place.cells] at hcs
              split at hcs
              · rename_i hl
                cases hcs
                obtain ⟨bs', ob', I', g', vs', j1, j2, j3, j4⟩ := I.freezeRange he off n hl hrd.2
                rw [k2] at j1
                cases j1
                rw [h2] at k1
                cases k1
                have hvs : vs' = vs := by
                  apply List.ext_getElem (by omega)
                  intro i hi hi'
                  have e1 := j3 i _ (List.getElem?_eq_getElem hi)
                  have e2 := h5 i _ (List.getElem?_eq_getElem hi')
                  rw [add_lit] at e2
                  rw [e1] at e2
                  exact Option.some.inj e2
                subst hvs
                exact ⟨_, w, _, _, hrun, I'.putPlain d _ _ (.inr ⟨_, _, rfl, rfl, by simpa using j4⟩)⟩
              · cases hcs
          · cases h
      · rename_i hag
        rw [Bool.not_eq_true] at hag
        subst hag
        obtain rfl : n = 1 := by simpa using h1
        match vs, h3 with
        | [v], _ =>
        simp only [List.headD_cons, Bool.false_eq_true, if_false] at hrun
        split at h
        · rename_i st sz0 xs
          split at h
          · rename_i r st0 all off
            cases h
            obtain ⟨he, g, arr, ty, bs, k1, k2, k3, k4, k5, k6⟩ := I.place hpl
            have hcell : all[off]? = some (.own st sz0 xs) := by
              simp only [Place.cells] at hcs
              split at hcs
              · rename_i hl
                simp only [Option.some.injEq] at hcs
                rw [List.drop_eq_getElem_cons (by omega)] at hcs
                simp only [List.take_succ_cons, List.take_zero, List.cons.injEq, and_true] at hcs
                rw [List.getElem?_eq_getElem (by omega), hcs]
              · cases hcs
            refine ⟨_, w, Fz, _, hrun, I.putRef d _ (.snap r (some off) st 0 xs.length) rfl ?_ ?_⟩
            · intro sz' xs' hr
              have hr := rowIf_stamp hr
              rw [he] at hr
              simp only [rowAt?, hcell, Option.some.injEq, Prod.mk.injEq] at hr
              obtain ⟨_, rfl, rfl⟩ := hr
              obtain ⟨v', b, q1, q2, _⟩ := k4.get hcell
              have hv' : w.cell? ⟨g, off, none⟩ = some v' := by
                simp only [World.cell?, k3, Option.isSome_none, Bool.false_eq_true, if_false]
                simpa using q1
              have hv : w.cell? ⟨g, off, none⟩ = some v := by
                have := h5 0 v rfl
                rw [h2] at k1
                cases k1
                rwa [add_lit] at this
              obtain rfl : v' = v := Option.some.inj (hv'.symm.trans hv)
              refine ⟨by omega, ?_⟩
              cases q2 with
              | plain h => exact absurd h.okC (by simp [okC])
              | ownNil => exact ⟨none, 0, 0, none, 0, ⟨g, k2, hv'⟩, by simp, by simp, fun _ => ⟨rfl, rfl⟩, fun ad h => by cases h⟩
              | own g' n' cap cur e' st' sz' xs' c hg hn hc hm hs' hu hcell' hr' =>
                subst hn
                refine ⟨_, _, cap, _, cap, ⟨g, k2, hv'⟩, rfl, hc, fun _ => ⟨rfl, rfl⟩, fun ad h _ => ?_⟩
                cases h
                simp [Addr.add]
            · intro s hs'
              simp only [stampsOf, List.mem_singleton] at hs'
              subst hs'
              refine I.stamps r s ?_
              rw [he]
              simp only [stampsOf, stamps1, List.mem_cons, List.mem_flatMap]
              exact .inr ⟨_, List.mem_of_getElem? hcell, by simp [stampsC]⟩
          · cases h
        · rename_i st ks0 vs0
          split at h
          · rename_i r st0 all off
            cases h
            obtain ⟨he, g, arr, ty, bs, k1, k2, k3, k4, k5, k6⟩ := I.place hpl
            have hcell : all[off]? = some (.omap st ks0 vs0) := by
              simp only [Place.cells] at hcs
              split at hcs
              · rename_i hl
                simp only [Option.some.injEq] at hcs
                rw [List.drop_eq_getElem_cons (by omega)] at hcs
                simp only [List.take_succ_cons, List.take_zero, List.cons.injEq, and_true] at hcs
                rw [List.getElem?_eq_getElem (by omega), hcs]
              · cases hcs
            refine ⟨_, w, Fz, _, hrun, I.putRef d _ (.mref r (some off) st) rfl (fun ks' vs' _ => ⟨g, k2, ?_⟩) ?_⟩
            · have := h5 0 v rfl
              rw [h2] at k1
              cases k1
              rwa [add_lit] at this
            · intro s hs'
              simp only [stampsOf, List.mem_singleton] at hs'
              subst hs'
              refine I.stamps r s ?_
              rw [he]
              simp only [stampsOf, stamps1, List.mem_cons, List.mem_flatMap]
              exact .inr ⟨_, List.mem_of_getElem? hcell, by simp [stampsC]⟩
          · cases h
        · rename_i c _ _
          split at h
          · rename_i hok
            cases h
            exact out_plain I hrun (.inl ((h6 (by simp [hok])).2 0 v c rfl rfl))
          · cases h
        · cases h
end
end Go.PE
namespace Go.PE
open Go.RowKit
section
variable {P : Program} {B : Base} {Fz : Nat → Prop} {e : Env} {a : Act} {tm : Tm} {w : World} {ob : Nat → List Nat} {S : Stamp → Prop} {p : Stamp}
/-- A value that lasts: its source is written by nobody any more. -/
theorem Inv.frozen (I : Inv B Fz e (tmOf B a) w ob S) {t : TypeId} {x : Operand} {v : PV} {u : Ups} (hv : PE.view (hint P t x (res e x)) = some v) (hu : freezeUps x (hint P t x (res e x)) = some u) :
    ∃ Fz' ob', Inv B Fz' (apply u e) (tmOf B a) w ob' S ∧ (∀ b, Fz b → Fz' b) ∧ Plain w Fz' (a.eval x) v ∧ (∀ s, (∀ q ∈ u, q.1 ≠ s) → ob' s = ob s ∧ apply u e s = e s) ∧
      (u = [] ∨ ∃ r c, u = [(r, c)] ∧ srcOf x (hint P t x (res e x)) r ∧ ∃ pl st sz xs, rowIf (e r) pl st = some (sz, xs) ∧ c = putAt (e r) pl (.imm sz xs)) := by
  obtain ⟨bs, hp, hbs⟩ := I.view P t x hv
  unfold freezeUps at hu
  have plain : (∀ s, ¬ srcOf x (hint P t x (res e x)) s) → Plain w Fz (a.eval x) v := fun hn => by
    refine hp.mono (fun b hb => hb.elim id fun hb => ?_) fun _ _ => rfl
    obtain ⟨s, hs, _⟩ := hbs b hb
    exact absurd hs (hn s)
  split at hu
  · -- an owned row in a slot
    rename_i st sz xs hx
    have hne := hint_ne P t x (res e x) (by rw [hx]; rfl)
    rw [hne] at hx hv hbs ⊢
    split at hu
    · rename_i s
      cases hu
      obtain ⟨hvs, he⟩ := tmp_val hx (by simp)
      have hr : rowIf (e s) none st = some (sz, xs) := rowIf_of (by simp [rowAt?, he])
      obtain ⟨bs', ob', I', h1, h2, h3, u', h4, h5⟩ := I.freezeRow hr
      have hvv : v = .imm sz xs := by
        unfold PE.view at hv; rw [hx] at hv; simpa using hv.symm
      subst hvv
      refine ⟨_, ob', I', fun b hb => .inl hb, .inl ?_, fun s' hs' => ?_, .inr ⟨s, _, rfl, .inl ⟨rfl, st, sz, xs, hx⟩, none, st, sz, xs, hr, rfl⟩⟩
      · have : a.eval (.tmp s) = u' := (tmOf_ne B a hvs).symm.trans h4
        rw [this]; exact h5
      · have := hs' _ (List.mem_singleton.2 rfl)
        exact ⟨h1 s' (Ne.symm this), upd_other (Ne.symm this)⟩
    · cases hu
  · -- a part of a row
    rename_i r pl st off len hx
    have hne := hint_ne P t x (res e x) (by rw [hx]; rfl)
    rw [hne] at hx hv hbs hu ⊢
    obtain ⟨s, rfl, he, hR, hvs⟩ := I.slotRef hx rfl (by simp)
    have h2 : (res e (.tmp s)).2 = e r := by simp [res, opv, hvs, he, rootOf]
    rw [h2] at hu
    split at hu
    · rename_i sz xs hr
      cases hu
      obtain ⟨bs', ob', I', h1, _, h3, u', h4, h5⟩ := I.freezeRow hr
      obtain ⟨k4, A, n, cap, A', cap', k5, k6, k7, _, k8⟩ := hR sz xs hr
      have hvv : v = .imm sz ((xs.drop off).take len) := by
        unfold PE.view at hv; rw [hx, h2] at hv; simp only [hr] at hv; simpa using hv.symm
      subst hvv
      obtain rfl := h4.unique k5
      refine ⟨_, ob', I', fun b hb => .inl hb, .inl ?_, fun s' hs' => ?_, .inr ⟨r, _, rfl, .inr (by rw [hx]; rfl), pl, st, sz, xs, hr, rfl⟩⟩
      · rw [k6]; exact h5.part k4 k7 k8
      · have := hs' _ (List.mem_singleton.2 rfl)
        exact ⟨h1 s' (Ne.symm this), upd_other (Ne.symm this)⟩
    · cases hu
  · -- a struct
    rename_i cs hx
    cases hu
    refine ⟨Fz, ob, I, fun _ h => h, plain fun s hs => ?_, fun _ _ => ⟨rfl, rfl⟩, .inl rfl⟩
    unfold srcOf at hs
    rw [hx] at hs
    rcases hs with ⟨_, _, _, _, h⟩ | h <;> cases h
  · split at hu
    · rename_i hok
      cases hu
      refine ⟨Fz, ob, I, fun _ h => h, plain fun s hs => ?_, fun _ _ => ⟨rfl, rfl⟩, .inl rfl⟩
      unfold srcOf at hs
      generalize (hint P t x (res e x)).1 = q at *
      rcases hs with ⟨_, _, _, _, h⟩ | h
      · subst h; simp [okC] at hok
      · cases q <;> simp_all [rootOf, okC]
    · cases hu
theorem Plain.cellsL {w : World} {Fz : Nat → Prop} {u : Value} {v : PV} (h : Plain w Fz u v) : ImmL w Fz u.cells.toList (cellsOf v) := by
  rcases h with h | ⟨arr, ps, rfl, rfl, h⟩
  · rw [h.cells]
    have : cellsOf v = [v] := by have := h.okC; cases v <;> simp_all [cellsOf, okC]
    rw [this]
    refine ⟨rfl, fun i x q hx hq => ?_⟩
    cases i with
    | zero => simp at hx hq; subst hx hq; exact h
    | succ i => simp at hx
  · exact h
theorem ImmL.ok {w : World} {Fz : Nat → Prop} {vs : List Value} {ps : List PV} (h : ImmL w Fz vs ps) : ps.all okC = true := by
  rw [List.all_eq_true]
  intro x hx
  obtain ⟨i, hi, rfl⟩ := List.getElem_of_mem hx
  exact (h.2 i _ _ (List.getElem?_eq_getElem (by have := h.1; omega)) (List.getElem?_eq_getElem hi)).okC
theorem ImmL.one {w : World} {Fz : Nat → Prop} {vs : List Value} {ps : List PV} (h : ImmL w Fz vs ps) : ∀ v ∈ vs, v.oneCell' = true := by
  intro x hx
  obtain ⟨i, hi, rfl⟩ := List.getElem_of_mem hx
  exact (h.2 i _ _ (List.getElem?_eq_getElem hi) (List.getElem?_eq_getElem (by have := h.1; omega))).one
theorem Inv.cellsFrozen (I : Inv B Fz e (tmOf B a) w ob S) {t : TypeId} {x : Operand} {new : List PV} {u : Ups} (h : PE.cellsFrozen x (hint P t x (res e x)) = some (new, u)) :
    ∃ Fz' ob', Inv B Fz' (apply u e) (tmOf B a) w ob' S ∧ (∀ b, Fz b → Fz' b) ∧ ImmL w Fz' (a.eval x).cells.toList new ∧ (∀ s, (∀ q ∈ u, q.1 ≠ s) → ob' s = ob s ∧ apply u e s = e s) := by
  unfold PE.cellsFrozen at h
  split at h
  · rename_i v u' hv hu
    cases h
    obtain ⟨Fz', ob', I', h1, h2, h3, _⟩ := I.frozen hv hu
    exact ⟨Fz', ob', I', h1, h2.cellsL, h3⟩
  · cases h
/-- The cells of a value that goes into a variable: plain ones, or an owned row that is handed over. -/
theorem Inv.valCells (I : Inv B Fz e (tmOf B a) w ob S) {t : TypeId} {x : Operand} {new : List PV} {u : Ups} (h : cellsOfVal p x (hint P t x (res e x)) = some (new, u)) :
    (∃ Fz' ob', Inv B Fz' (apply u e) (tmOf B a) w ob' S ∧ (∀ b, Fz b → Fz' b) ∧ ImmL w Fz' (a.eval x).cells.toList new ∧ (∀ s, (∀ q ∈ u, q.1 ≠ s) → ob' s = ob s ∧ apply u e s = e s)) ∨
    (∃ s st sz xs, (x = .tmp s ∧ s ≠ VS) ∧ e s = .own st sz xs ∧ new = [.own p sz xs] ∧ u = [(s, .dead)]) := by
  unfold cellsOfVal at h
  split at h
  · rename_i st sz xs hx
    have hne := hint_ne P t x (res e x) (by rw [hx]; rfl)
    rw [hne] at hx
    split at h
    · rename_i s
      cases h
      obtain ⟨hvs, he⟩ := tmp_val hx (by simp)
      exact .inr ⟨s, st, sz, xs, ⟨rfl, hvs⟩, he, rfl, rfl⟩
    · cases h
  · rename_i sz hx
    cases h
    have hi := I.immH P t x (by rw [hx]; rfl)
    rw [hx] at hi
    exact .inl ⟨Fz, ob, I, fun _ h => h, (Plain.cellsL (.inl hi)), fun _ _ => ⟨rfl, rfl⟩⟩
  · rename_i cs hx
    cases h
    have hne := hint_ne P t x (res e x) (by rw [hx]; rfl)
    rw [hne] at hx
    obtain ⟨arr, h1, h2⟩ := I.agg hx
    refine .inl ⟨Fz, ob, I, fun _ h => h, ?_, fun _ _ => ⟨rfl, rfl⟩⟩
    rw [h1]; exact h2
  · exact .inl (I.cellsFrozen h)
theorem nodupB_iff : ∀ {l : List Nat}, nodupB l = true ↔ l.Nodup
  | [] => by simp [nodupB]
  | x :: l => by simp [nodupB, nodupB_iff (l := l)]
end
end Go.PE
namespace Go.PE
open Go.RowKit
section
variable {P : Program} {B : Base} {Fz : Nat → Prop} {e : Env} {a : Act} {tm : Tm} {w : World} {ob : Nat → List Nat} {S : Stamp → Prop} {p : Stamp}
def updO {α : Type} (t : Option Nat) (e : Nat → α) (v : α) : Nat → α :=
  match t with
  | some s => upd e s v
  | none => e
theorem updO_some {α : Type} (s : Nat) (e : Nat → α) (v : α) : updO (some s) e v = upd e s v := rfl
theorem setRow_size (w : World) (g : Nat) (cs : Array Value) : (w.setRow g cs).heap.size = w.heap.size := by simp [World.setRow]
/-- Cells are stored into a variable; t: the slot whose row is handed over, if one is. -/
theorem Inv.storeVar (I : Inv B Fz e tm w ob S) (hp : ¬ S p) {r : Nat} {st : Stamp} {cs : List PV} (he : e r = .box st cs) {g : Nat} {arr : Array Value} {ty : TypeId} {bs : List Nat}
    (htm : tm r = .pointer (some ⟨g, 0, none⟩)) (hg : w.heap[g]? = some (.cells arr ty (0, 0))) (hreps : Reps w Fz arr.toList cs bs) (hob : ob r = g :: bs) (hcc : SelfOK g ty arr.toList cs)
    {o : Nat} {new : List PV} {vs : List Value} {bsV : List Nat} (hl : o + new.length ≤ cs.length) (hnew : Reps w Fz vs new bsV) (hnc : new.all cellC = true) (hns : ∀ q ∈ new, isSelf q = false)
    (hst : ∀ c ∈ new, ∀ s ∈ stampsC c, s = p) (t : Option Nat) (ht : ∀ s, t = some s → s ≠ r ∧ bsV = ob s) (htn : t = none → bsV = []) :
    ∃ ob', Inv B Fz (upd (updO t e .dead) r (.box st (splice cs new o))) tm
      (w.setRow g (arr.toList.take o ++ vs ++ arr.toList.drop (o + vs.length)).toArray) ob' (fun s => S s ∨ s = p) := by
  obtain ⟨b1, b23, hb0, hr1, hr23⟩ := hreps.split o
  obtain ⟨b2, b3, hb23, hr2, hr3⟩ := hr23.split new.length
  subst hb23 hb0
  have hlen := hreps.length
  have hlv := hnew.length
  have hgob : g ∈ ob r := by rw [hob]; simp
  have hFg : ∀ b, Fz b → b ≠ g := fun b hb h => I.notFz r g hgob (h ▸ hb)
  have hnd := I.nodup r
  rw [hob] at hnd
  have hsub : ∀ x ∈ g :: (b1 ++ b3), x ∈ ob r := by rw [hob]; intro x hx; simp at hx ⊢; grind
  have hVown : ∀ x ∈ bsV, ∃ s, t = some s ∧ s ≠ r ∧ x ∈ ob s := fun x hx => by
    cases t with
    | none => rw [htn rfl] at hx; cases hx
    | some s => obtain ⟨h1, h2⟩ := ht s rfl; exact ⟨s, rfl, h1, h2 ▸ hx⟩
  have hVr : ∀ x ∈ bsV, x ∉ ob r := fun x hx => by
    obtain ⟨s, _, h1, h2⟩ := hVown x hx
    exact I.disj s r h1 x h2
  have hVnd : bsV.Nodup := by
    cases t with
    | none => rw [htn rfl]; exact List.nodup_nil
    | some s => obtain ⟨h1, h2⟩ := ht s rfl; rw [h2]; exact I.nodup s
  have hnd' : (g :: (b1 ++ (bsV ++ b3))).Nodup := by
    have h1 := (nodup3 hnd).1
    have h2 : ∀ x ∈ bsV, x ∉ g :: (b1 ++ b3) := fun x hx h => hVr x hx (hsub x h)
    simp only [List.nodup_cons, List.nodup_append, List.mem_append, List.mem_cons] at h1 h2 ⊢
    grind
  have hw : ∀ b, b ≠ g → (w.setRow g (arr.toList.take o ++ vs ++ arr.toList.drop (o + vs.length)).toArray).heap[b]? = w.heap[b]? := fun b hb => setRow_other w g b _ hb
  have hg' := setRow_heap w g arr (arr.toList.take o ++ vs ++ arr.toList.drop (o + vs.length)).toArray ty (0, 0) hg
  refine ⟨upd (updO t ob []) r (g :: (b1 ++ (bsV ++ b3))), ?_⟩
  refine I.step (fun s => s = r ∨ t = some s) (fun _ h => .inl h) rfl rfl rfl (by rw [setRow_size]; exact Nat.le_refl _) (fun b _ hb => hw b fun h => hb r (.inl rfl) (h ▸ hgob))
    (fun s hs => ?_) (fun _ h => h) (fun _ h => .inl h) ?_ ?_ ?_ ?_ ?_ ?_
  · rw [not_or] at hs
    refine ⟨?_, rfl, ?_⟩
    · rw [upd_other hs.1]
      cases t with
      | none => rfl
      | some t => exact upd_other fun h => hs.2 (by rw [h])
    · rw [upd_other hs.1]
      cases t with
      | none => rfl
      | some t => exact upd_other fun h => hs.2 (by rw [h])
  · rintro s hs x hx
    by_cases hsr : s = r
    · subst hsr
      rw [upd_same] at hx
      simp only [List.mem_cons, List.mem_append] at hx
      by_cases hxV : x ∈ bsV
      · obtain ⟨s', h1, _, h3⟩ := hVown x hxV
        exact ⟨.inl ⟨s', .inr h1, h3⟩, I.notFz s' x h3⟩
      · have : x ∈ ob s := hsub x (by simp; grind)
        exact ⟨.inl ⟨s, .inl rfl, this⟩, I.notFz s x this⟩
    · rcases hs with hs | hs
      · exact absurd hs hsr
      · subst hs
        rw [upd_other hsr, updO_some, upd_same] at hx
        cases hx
  · rintro s hs
    by_cases hsr : s = r
    · subst hsr; rw [upd_same]; exact hnd'
    · rcases hs with hs | hs
      · exact absurd hs hsr
      · subst hs; rw [upd_other hsr, updO_some, upd_same]; exact List.nodup_nil
  · rintro s s' hs hs' hne x hx hx'
    by_cases hsr : s = r
    · subst hsr
      rcases hs' with hs' | hs'
      · exact hne hs'.symm
      · subst hs'; rw [upd_other (Ne.symm hne), updO_some, upd_same] at hx'; cases hx'
    · rcases hs with hs | hs
      · exact hsr hs
      · subst hs; rw [upd_other hsr, updO_some, upd_same] at hx; cases hx
  · rintro s hs st' hst'
    by_cases hsr : s = r
    · subst hsr
      rw [upd_same] at hst'
      simp only [stampsOf, stamps1, List.mem_cons, List.mem_flatMap] at hst'
      have hold : ∀ q ∈ cs, st' ∈ stampsC q → S st' := fun q hq hs' => I.stamps s st' (by rw [he]; simp only [stampsOf, stamps1, List.mem_cons, List.mem_flatMap]; exact .inr ⟨q, hq, hs'⟩)
      rcases hst' with rfl | ⟨q, hq, hs'⟩
      · exact .inl (I.stamps s st' (by rw [he]; simp [stampsOf, stamps1]))
      · unfold splice at hq
        simp only [List.mem_append] at hq
        rcases hq with (hq | hq) | hq
        · exact .inl (hold q (List.mem_of_mem_take hq) hs')
        · exact .inr (hst q hq st' hs')
        · exact .inl (hold q (List.mem_of_mem_drop hq) hs')
    · rcases hs with hs | hs
      · exact absurd hs hsr
      · subst hs; rw [upd_other hsr, updO_some, upd_same] at hst'; simp [stampsOf, stamps1] at hst'
  · rintro s hs
    by_cases hsr : s = r
    · subst hsr
      rw [upd_same, he]
      have hcell : ∀ c, (c < o ∨ o + new.length ≤ c) → ∀ x, w.cell? ⟨g, c, none⟩ = some x → (w.setRow g (arr.toList.take o ++ vs ++ arr.toList.drop (o + vs.length)).toArray).cell? ⟨g, c, none⟩ = some x := by
        intro c hcr x hx
        simp only [World.cell?, hg, Option.isSome_none, Bool.false_eq_true, if_false] at hx
        simp only [World.cell?, hg', Option.isSome_none, Bool.false_eq_true, if_false]
        have hx' : arr.toList[c]? = some x := by simpa using hx
        have h0 : o ≤ arr.toList.length := by omega
        rw [List.getElem?_toArray, List.append_assoc, List.getElem?_append, List.length_take, Nat.min_eq_left h0]
        rcases hcr with hcr | hcr
        · rw [if_pos hcr, List.getElem?_take, if_pos hcr]; exact hx'
        · rw [if_neg (by omega), List.getElem?_append, if_neg (by omega), List.getElem?_drop, show o + vs.length + (c - o - vs.length) = c from by omega]; exact hx'
      refine RootStep.box htm (fun c st' sz xs' hc hS => ?_) fun c st' ks' vs' hc hS => ?_
      · rw [splice_getElem? _ _ _ _ hl] at hc
        split at hc
        · exact ⟨xs', hc, rfl, hcell c (.inl ‹_›)⟩
        · split at hc
          · have := hst _ (List.mem_of_getElem? hc) st' (by simp [stampsC])
            exact absurd (this ▸ hS) hp
          · exact ⟨xs', hc, rfl, hcell c (.inr (by omega))⟩
      · rw [splice_getElem? _ _ _ _ hl] at hc
        split at hc
        · exact ⟨ks', vs', hc, hcell c (.inl ‹_›)⟩
        · split at hc
          · have := hst _ (List.mem_of_getElem? hc) st' (by simp [stampsC])
            exact absurd (this ▸ hS) hp
          · exact ⟨ks', vs', hc, hcell c (.inr (by omega))⟩
    · rcases hs with hs | hs
      · exact absurd hs hsr
      · subst hs
        refine RootStep.fresh ?_
        rw [upd_other hsr, updO_some, upd_same]; simp [stamps1]
  · rintro _ s hs
    by_cases hsr : s = r
    · subst hsr
      unfold SlotRep
      rw [upd_same, upd_same, if_neg (by simp [isRef]), htm]
      have hnot : ∀ x ∈ g :: (b1 ++ (bsV ++ b3)), x = g ∨ x ≠ g := fun x _ => Classical.em _
      rw [List.nodup_cons] at hnd'
      have hw1 : ∀ x ∈ b1, x ≠ g := fun x hx h => hnd'.1 (by subst h; simp [hx])
      have hwV : ∀ x ∈ bsV, x ≠ g := fun x hx h => hnd'.1 (by subst h; simp [hx])
      have hw3 : ∀ x ∈ b3, x ≠ g := fun x hx h => hnd'.1 (by subst h; simp [hx])
      have h1 := hr1.mono (fun _ h => h) (fun b hb => hw b (hFg b hb)) (fun b hb => hw b (hw1 b hb))
      have h2 := hnew.mono (fun _ h => h) (fun b hb => hw b (hFg b hb)) (fun b hb => hw b (hwV b hb))
      have h3 := hr3.mono (fun _ h => h) (fun b hb => hw b (hFg b hb)) (fun b hb => hw b (hw3 b hb))
      have hAll := h1.append (h2.append h3)
      refine .box g _ ty st _ _ hg' ?_ ?_
      · unfold splice
        rw [List.drop_drop, List.drop_drop, ← List.append_assoc, ← List.append_assoc, ← hlv] at hAll
        rw [← hlv]
        exact hAll
      · exact SelfOK.splice hcc hlen hlv (by omega) hnc hns
    · rcases hs with hs | hs
      · exact absurd hs hsr
      · subst hs
        unfold SlotRep
        rw [upd_other hsr, upd_other hsr, updO_some, updO_some, upd_same, upd_same]
        simp [isRef, RefV]
end
end Go.PE
namespace Go.PE
open Go.RowKit
theorem arith_cells {i i' j sz k m : Nat} (hk : k + m ≤ sz) (hj : j < sz) :
    (i * sz + k ≤ i' * sz + j ∧ i' * sz + j < i * sz + k + m) ↔ (i' = i ∧ k ≤ j ∧ j < k + m) := by
  constructor
  · rintro ⟨h1, h2⟩
    have h : i' = i := by
      rcases Nat.lt_trichotomy i' i with h | h | h
      · have := Nat.mul_le_mul_right sz (show i' + 1 ≤ i from h)
        rw [Nat.add_mul] at this
        omega
      · exact h
      · have := Nat.mul_le_mul_right sz (show i + 1 ≤ i' from h)
        rw [Nat.add_mul] at this
        omega
    subst h
    omega
  · rintro ⟨rfl, h1, h2⟩
    omega
section
variable {P : Program} {B : Base} {Fz : Nat → Prop} {e : Env} {a : Act} {tm : Tm} {w : World} {ob : Nat → List Nat} {S : Stamp → Prop} {p : Stamp}
theorem cell2_set {xs : List (List PV)} {i : Nat} {c : List PV} (hi : i < xs.length) {i' j : Nat} {q : PV} :
    cell2 (xs.set i c) i' j = some q ↔ if i' = i then c[j]? = some q else cell2 xs i' j = some q := by
  unfold cell2
  rw [List.getElem?_set]
  by_cases h : i = i'
  · subst h; simp [hi]
  · rw [if_neg h, if_neg (Ne.symm h)]
/-- Cells of an element of an owned row are written. -/
theorem Rep.storeRow {ad : Addr} {n cap : Nat} {st : Stamp} {sz : Nat} {xs : List (List PV)} {bs : List Nat} (h : Rep w Fz (.slice (some ad) n cap) (.own st sz xs) bs)
    {i k : Nat} {c : List PV} (hc : xs[i]? = some c) {new : List PV} {vs : List Value} (hl : k + new.length ≤ c.length) (hnew : ImmL w Fz vs new) (hF : ∀ b ∈ bs, ¬ Fz b) :
    ∃ gb cur ty, ad = ⟨gb, 0, none⟩ ∧ bs = [gb] ∧ w.heap[gb]? = some (.cells cur ty (0, 0)) ∧ i * sz + k + vs.length ≤ cur.size ∧
      Rep (w.setRow gb (cur.toList.take (i * sz + k) ++ vs ++ cur.toList.drop (i * sz + k + vs.length)).toArray) Fz (.slice (some ad) n cap) (.own st sz (xs.set i (splice c new k))) bs := by
  cases h with
  | plain h => exact absurd h.okC (by simp [okC])
  | own gb _ _ cur ty _ _ _ cf hg hn hcp hm hs hu hcell hr =>
    have hlv := hnew.1
    obtain ⟨hi, hci⟩ := List.getElem?_eq_some_iff.1 hc
    have hcs : c.length = sz := hu c (List.mem_of_getElem? hc)
    have hfit : i * sz + k + vs.length ≤ cur.size := by
      rw [hs, hlv]
      have := Nat.mul_le_mul_right sz (show i + 1 ≤ cap by omega)
      rw [Nat.add_mul] at this
      omega
    have hFg : ¬ Fz gb := hF gb (by simp)
    have hw : ∀ b, b ≠ gb → (w.setRow gb (cur.toList.take (i * sz + k) ++ vs ++ cur.toList.drop (i * sz + k + vs.length)).toArray).heap[b]? = w.heap[b]? := fun b hb => setRow_other w gb b _ hb
    have hwF : ∀ b, Fz b → (w.setRow gb (cur.toList.take (i * sz + k) ++ vs ++ cur.toList.drop (i * sz + k + vs.length)).toArray).heap[b]? = w.heap[b]? := fun b hb => hw b fun h => hFg (h ▸ hb)
    refine ⟨gb, cur, ty, rfl, rfl, hg, hfit, ?_⟩
    refine .own gb n cap _ ty st sz _ (fun i' j => if i' = i ∧ k ≤ j ∧ j < k + new.length then vs.getD (j - k) undef else cf i' j) (setRow_heap w gb cur _ ty _ hg) (by simp [hn]) hcp hm ?_ ?_ ?_ ?_
    · simp only [List.size_toArray, List.length_append, List.length_take, List.length_drop, Array.length_toList]; omega
    · intro x hx
      rcases List.mem_or_eq_of_mem_set hx with hx | rfl
      · exact hu x hx
      · rw [splice_length _ _ _ hl]; exact hcs
    · intro i' j q hq
      rw [cell2_set hi] at hq
      have hj : j < sz := by
        split at hq
        · have := (List.getElem?_eq_some_iff.1 hq).1
          rw [splice_length _ _ _ hl] at this; omega
        · unfold cell2 at hq
          obtain ⟨x, hx, hq⟩ := Option.bind_eq_some_iff.1 hq
          have := (List.getElem?_eq_some_iff.1 hq).1
          rw [hu x (List.mem_of_getElem? hx)] at this
          exact this
      have hA := arith_cells (i := i) (i' := i') (j := j) (sz := sz) (k := k) (m := new.length) (by omega) hj
      rw [List.getElem?_toArray, List.append_assoc, List.getElem?_append, List.length_take, Nat.min_eq_left (by simp; omega)]
      by_cases hin : i' = i ∧ k ≤ j ∧ j < k + new.length
      · rw [if_pos hin]
        have hA' := hA.2 hin
        obtain ⟨rfl, h1, h2⟩ := hin
        rw [if_neg (by omega), List.getElem?_append, if_pos (by omega)]
        rw [show i' * sz + j - (i' * sz + k) = j - k from by omega]
        rw [List.getElem?_eq_getElem (by omega)]
        simp [List.getD, List.getElem?_eq_getElem (show j - k < vs.length by omega)]
      · rw [if_neg hin]
        have hA' : ¬ (i * sz + k ≤ i' * sz + j ∧ i' * sz + j < i * sz + k + new.length) := fun h => hin (hA.1 h)
        have hold : cell2 xs i' j = some q := by
          split at hq
          · rename_i h; subst h
            rw [splice_getElem? _ _ _ _ hl] at hq
            simp only [cell2, hc, Option.bind_some]
            split at hq
            · exact hq
            · rw [if_neg (by omega)] at hq; exact hq
          · exact hq
        have := hcell i' j q hold
        have hx : cur.toList[i' * sz + j]? = some (cf i' j) := by simpa using this
        by_cases hlt : i' * sz + j < i * sz + k
        · rw [if_pos hlt, List.getElem?_take, if_pos hlt]; exact hx
        · rw [if_neg hlt, List.getElem?_append, if_neg (by omega), List.getElem?_drop, show i * sz + k + vs.length + (i' * sz + j - (i * sz + k) - vs.length) = i' * sz + j from by omega]; exact hx
    · intro i' j q hq
      rw [cell2_set hi] at hq
      by_cases hin : i' = i ∧ k ≤ j ∧ j < k + new.length
      · rw [if_pos hin]
        obtain ⟨rfl, h1, h2⟩ := hin
        rw [if_pos rfl, splice_getElem? _ _ _ _ hl, if_neg (by omega), if_pos h2] at hq
        have : vs[j - k]? = some (vs.getD (j - k) undef) := by simp [List.getD, List.getElem?_eq_getElem (show j - k < vs.length by omega)]
        exact (hnew.2 _ _ _ this hq).mono (fun _ h => h) hwF
      · rw [if_neg hin]
        have hold : cell2 xs i' j = some q := by
          split at hq
          · rename_i h; subst h
            rw [splice_getElem? _ _ _ _ hl] at hq
            simp only [cell2, hc, Option.bind_some]
            split at hq
            · exact hq
            · rw [if_neg (by omega)] at hq; exact hq
          · exact hq
        exact (hr i' j q hold).mono (fun _ h => h) hwF
/-- Cells of an element of a slot's row are written. -/
def placeC? (root : PV) (pl : Option Nat) : Option PV :=
  match pl, root with
  | none, v => some v
  | some c, .box _ cs => cs[c]?
  | _, _ => none
theorem rowAt_place {v : PV} {pl : Option Nat} {st : Stamp} {sz : Nat} {xs : List (List PV)} (h : rowAt? v pl = some (st, sz, xs)) : placeC? v pl = some (.own st sz xs) := by
  unfold rowAt? at h
  split at h
  · cases h; rfl
  · split at h
    · rename_i hc; cases h; exact hc
    · cases h
  · cases h
theorem mapAt_place {v : PV} {pl : Option Nat} {st : Stamp} {ks : MKeys} {vs : List (List PV)} (h : mapAt? v pl = some (st, ks, vs)) : placeC? v pl = some (.omap st ks vs) := by
  unfold mapAt? at h
  split at h
  · cases h; rfl
  · split at h
    · rename_i hc; cases h; exact hc
    · cases h
  · cases h
/-- What may take the place of what: the same row, the same map, with other contents. -/
def SameKind (q q' : PV) : Prop := (∃ st sz xs xs', q = .own st sz xs ∧ q' = .own st sz xs' ∧ xs.length = xs'.length) ∨ ∃ st ks vs ks' vs', q = .omap st ks vs ∧ q' = .omap st ks' vs'
theorem Rep.blocks_eq {u : Value} {q : PV} {b1 b2 : List Nat} (h1 : Rep w Fz u q b1) (h2 : Rep w Fz u q b2) (hk : okC q = false) (hq : (∃ st sz xs, q = .own st sz xs) ∨ ∃ st ks vs, q = .omap st ks vs) : b1 = b2 := by
  rcases hq with ⟨st, sz, xs, rfl⟩ | ⟨st, ks, vs, rfl⟩
  · cases h1 with
    | plain h => exact absurd h.okC (by simp [okC])
    | ownNil =>
      cases h2 with
      | plain h => exact absurd h.okC (by simp [okC])
      | ownNil => rfl
    | own =>
      cases h2 with
      | plain h => exact absurd h.okC (by simp [okC])
      | own => rfl
  · cases h1 with
    | plain h => exact absurd h.okC (by simp [okC])
    | omap =>
      cases h2 with
      | plain h => exact absurd h.okC (by simp [okC])
      | omap => rfl
/-- One block is written: the contents of a row or of a map, in a slot or in a variable's cell. -/
theorem Inv.putCell (I : Inv B Fz e tm w ob S) {r : Nat} {pl : Option Nat} {q q' : PV} (hq : placeC? (e r) pl = some q) (hk : SameKind q q') {u : Value} (hpv : PlaceVal w (tm r) pl u)
    {gb : Nat} (hgob : gb ∈ ob r) (hrep0 : Rep w Fz u q [gb]) {w' : World} (hos : w'.os = w.os) (htape : w'.tape = w.tape) (hout : w'.output = w.output) (hsize : w'.heap.size = w.heap.size)
    (hw : ∀ b, b ≠ gb → w'.heap[b]? = w.heap[b]?) (hrep : Rep w' Fz u q' [gb]) : Inv B Fz (upd e r (putAt (e r) pl q')) tm w' ob S := by
  have hFg : ∀ b, Fz b → b ≠ gb := fun b hb h => I.notFz r gb hgob (h ▸ hb)
  have hst : stampsOf q' = stampsOf q ∧ stampsC q' = stampsC q := by rcases hk with ⟨_, _, _, _, rfl, rfl, _⟩ | ⟨_, _, _, _, _, rfl, rfl⟩ <;> exact ⟨rfl, rfl⟩
  have hcc' : cellC q' = true ∧ isSelf q' = false ∧ isRef q' = false := by rcases hk with ⟨_, _, _, _, rfl, rfl, _⟩ | ⟨_, _, _, _, _, rfl, rfl⟩ <;> exact ⟨rfl, rfl, rfl⟩
  have hokq : okC q = false ∧ isRef q = false ∧ ((∃ st sz xs, q = .own st sz xs) ∨ ∃ st ks vs, q = .omap st ks vs) := by
    rcases hk with ⟨_, _, _, _, rfl, rfl, _⟩ | ⟨_, _, _, _, _, rfl, rfl⟩
    · exact ⟨rfl, rfl, .inl ⟨_, _, _, rfl⟩⟩
    · exact ⟨rfl, rfl, .inr ⟨_, _, _, rfl⟩⟩
  refine I.step (fun s => s = r) (fun _ h => h) hos htape hout (Nat.le_of_eq hsize.symm) (fun b _ hb => hw b fun h => hb r rfl (h ▸ hgob))
    (fun s hs => ⟨upd_other hs, rfl, rfl⟩) (fun _ h => h) (fun _ h => .inl h) ?_ ?_ ?_ ?_ ?_ ?_
  · rintro s rfl x hx; exact ⟨.inl ⟨s, rfl, hx⟩, I.notFz s x hx⟩
  · rintro s rfl; exact I.nodup s
  · rintro s s' rfl rfl hne; exact absurd rfl hne
  · rintro s rfl st' hs
    rw [upd_same] at hs
    refine I.stamps s st' ?_
    unfold placeC? at hq
    split at hq
    · cases hq
      simpa [putAt, hst.1] using hs
    · rename_i c' st2 cs he
      rw [he] at hs ⊢
      simp only [putAt, stampsOf, stamps1, List.mem_cons, List.mem_flatMap] at hs ⊢
      rcases hs with hs | ⟨x, hx, hs⟩
      · exact .inl hs
      · rcases List.mem_or_eq_of_mem_set hx with hx | rfl
        · exact .inr ⟨x, hx, hs⟩
        · rw [hst.2] at hs
          exact .inr ⟨_, List.mem_of_getElem? hq, hs⟩
    · cases hq
  · rintro s rfl
    rw [upd_same]
    unfold placeC? at hq
    split at hq
    · rename_i hv
      cases hq
      simp only [putAt]
      rcases hk with ⟨st, sz, xs, xs', h1, rfl, hl⟩ | ⟨st, ks, vs, ks', vs', h1, rfl⟩
      · rw [h1]
        refine ⟨fun st' cs' h => (by cases h), fun pl' st' sz' xs'' h _ => ?_, fun pl' st' ks' vs' h _ => (by have h := mapIf_stamp h; cases pl' <;> simp [mapAt?] at h)⟩
        have h := rowIf_stamp h
        cases pl' with
        | none =>
          simp only [rowAt?, Option.some.injEq, Prod.mk.injEq] at h
          obtain ⟨rfl, rfl, rfl⟩ := h
          exact ⟨_, rowIf_of rfl, hl, fun x hx => hx⟩
        | some c' => simp [rowAt?] at h
      · rw [h1]
        refine ⟨fun st' cs' h => (by cases h), fun pl' st' sz' xs'' h _ => (by have h := rowIf_stamp h; cases pl' <;> simp [rowAt?] at h), fun pl' st' ks2 vs2 h _ => ?_⟩
        have h := mapIf_stamp h
        cases pl' with
        | none =>
          simp only [mapAt?, Option.some.injEq, Prod.mk.injEq] at h
          obtain ⟨rfl, rfl, rfl⟩ := h
          exact ⟨_, _, mapIf_of rfl, fun x hx => hx⟩
        | some c' => simp [mapAt?] at h
    · rename_i c' st2 cs he
      rw [he]
      obtain ⟨g, arr, ty', bs0, htm, hgg, hreps, hob, hcc⟩ := I.boxAt he
      obtain ⟨v, b, q1, q2, q3⟩ := hreps.get hq
      have hv : v = u := by
        obtain ⟨g', h1, h2⟩ := hpv
        rw [htm] at h1
        cases h1
        simp only [World.cell?, hgg, Option.isSome_none, Bool.false_eq_true, if_false] at h2
        have : arr.toList[c']? = some u := by simpa using h2
        rw [q1] at this
        exact Option.some.inj this
      subst hv
      have hb := q2.blocks_eq hrep0 hokq.1 hokq.2.2
      subst hb
      have hgne : g ≠ gb := by
        intro h
        subst h
        have hnd := I.nodup s
        rw [hob] at hnd
        exact (List.nodup_cons.1 hnd).1 (q3 g (by simp))
      have hkeep : ∀ c2 x, w.cell? ⟨g, c2, none⟩ = some x → w'.cell? ⟨g, c2, none⟩ = some x := fun c2 x hx => by
        rw [World.cell?_of_block (w := w) (a := ⟨g, c2, none⟩) (hw g hgne)]; exact hx
      refine RootStep.box htm (fun c2 st' sz' xs' hc2 _ => ?_) fun c2 st' ks' vs' hc2 _ => ?_
      · rw [List.getElem?_set] at hc2
        split at hc2
        · rename_i h; subst h
          split at hc2
          · rcases hk with ⟨st, sz, xs, xs2, rfl, rfl, hl⟩ | ⟨st, ks, vs, ks2, vs2, rfl, rfl⟩
            · simp only [Option.some.injEq, PV.own.injEq] at hc2
              obtain ⟨rfl, rfl, rfl⟩ := hc2
              exact ⟨_, hq, hl, hkeep _⟩
            · cases hc2
          · cases hc2
        · exact ⟨xs', hc2, rfl, hkeep _⟩
      · rw [List.getElem?_set] at hc2
        split at hc2
        · rename_i h; subst h
          split at hc2
          · rcases hk with ⟨st, sz, xs, xs2, rfl, rfl, hl⟩ | ⟨st, ks, vs, ks2, vs2, rfl, rfl⟩
            · cases hc2
            · simp only [Option.some.injEq, PV.omap.injEq] at hc2
              obtain ⟨rfl, rfl, rfl⟩ := hc2
              exact ⟨_, _, hq, hkeep _⟩
          · cases hc2
        · exact ⟨ks', vs', hc2, hkeep _⟩
    · cases hq
  · rintro hR0 s rfl
    clear hR0
    unfold SlotRep
    rw [upd_same]
    unfold placeC? at hq
    split at hq
    · cases hq
      show if isRef q' = true then _ else Rep w' Fz (tm s) q' (ob s)
      rw [if_neg (by rw [hcc'.2.2]; simp)]
      have h0 := I.slot s hokq.2.1
      rw [show tm s = _ from hpv] at h0 ⊢
      rw [h0.blocks_eq hrep0 hokq.1 hokq.2.2]
      exact hrep
    · rename_i c' st2 cs he
      rw [he]
      simp only [putAt, isRef, Bool.false_eq_true, if_false]
      obtain ⟨g, arr, ty', bs0, htm, hgg, hreps, hob, hcc⟩ := I.boxAt he
      obtain ⟨v, b1, b, b3, q1, q4, q2, hset⟩ := hreps.cell hq
      have hv : v = u := by
        obtain ⟨g', h1, h2⟩ := hpv
        rw [htm] at h1
        cases h1
        simp only [World.cell?, hgg, Option.isSome_none, Bool.false_eq_true, if_false] at h2
        have : arr.toList[c']? = some u := by simpa using h2
        rw [q1] at this
        exact Option.some.inj this
      subst hv
      have hb := q2.blocks_eq hrep0 hokq.1 hokq.2.2
      subst hb q4
      have hnd := I.nodup s
      rw [hob] at hnd
      have hnd' := nodup3 hnd
      have hgne : g ≠ gb := fun h => by subst h; exact (List.nodup_cons.1 hnd).1 (by simp)
      have hother : ∀ x ∈ b1 ++ b3, x ≠ gb := fun x hx h => hnd'.2.1 gb (by simp) (by subst h; exact List.mem_cons_of_mem _ hx)
      have hA := hset _ Fz _ _ _ hrep (fun _ h => h) (fun x hx => hw x (hFg x hx)) (fun x hx => hw x (hother x hx))
      have harr : arr.toList.set c' v = arr.toList := by
        obtain ⟨h1, h2⟩ := List.getElem?_eq_some_iff.1 q1
        rw [← h2]
        exact List.set_getElem_self h1
      rw [harr] at hA
      rw [hob, htm]
      refine .box g arr ty' st2 _ _ ((hw g hgne).trans hgg) hA ?_
      have key := fun q h1 h2 => SelfOK.set hcc (q := q) h1 h2 c' v
      simp only [harr] at key
      exact key _ hcc'.1 hcc'.2.1
    · cases hq
theorem Inv.storeElem (I : Inv B Fz e tm w ob S) {r : Nat} {pl : Option Nat} {st : Stamp} {sz : Nat} {xs : List (List PV)} (hr : rowIf (e r) pl st = some (sz, xs))
    {ad : Addr} {n cap : Nat} (hpv : PlaceVal w (tm r) pl (.slice (some ad) n cap)) {i k : Nat} {c : List PV} (hc : xs[i]? = some c) {new : List PV} {vs : List Value}
    (hl : k + new.length ≤ c.length) (hnew : ImmL w Fz vs new) :
    ∃ gb cur ty, ad = ⟨gb, 0, none⟩ ∧ w.heap[gb]? = some (.cells cur ty (0, 0)) ∧ i * sz + k + vs.length ≤ cur.size ∧
      Inv B Fz (upd e r (putAt (e r) pl (.own st sz (xs.set i (splice c new k))))) tm (w.setRow gb (cur.toList.take (i * sz + k) ++ vs ++ cur.toList.drop (i * sz + k + vs.length)).toArray) ob S := by
  have hrs := rowIf_stamp hr
  obtain ⟨u, bs, g1, g2, g3⟩ := I.row hr
  obtain rfl := g1.unique hpv
  obtain ⟨gb, cur, ty, rfl, rfl, hg, hfit, hrep⟩ := g2.storeRow hc hl hnew (fun b hb => I.notFz r b (g3 b hb))
  exact ⟨gb, cur, ty, rfl, hg, hfit, I.putCell (rowAt_place hrs) (.inl ⟨st, sz, xs, _, rfl, rfl, by simp⟩) hpv (g3 gb (by simp)) g2 rfl rfl rfl (setRow_size ..) (fun b hb => setRow_other w gb b _ hb) hrep⟩
end
end Go.PE
namespace Go.PE
open Go.RowKit
theorem upd_comm {α : Type} (e : Nat → α) {r s : Nat} (h : r ≠ s) (v u : α) : upd (upd e r v) s u = upd (upd e s u) r v := by
  funext t
  unfold upd
  by_cases h1 : t = s
  · subst h1; simp [Ne.symm h]
  · by_cases h2 : t = r
    · subst h2; simp [h]
    · simp [h1, h2]
theorem apply_upd : ∀ (u : Ups) (e : Env) (r : Nat) (v : PV), (∀ q ∈ u, q.1 ≠ r) → apply u (upd e r v) = upd (apply u e) r v
  | [], e, r, v, _ => rfl
  | q :: u, e, r, v, h => by
    rw [apply_cons, apply_cons, upd_comm e (Ne.symm (h q (by simp))), apply_upd u _ r v fun q' hq => h q' (by simp [hq])]
theorem apply_other : ∀ (u : Ups) (e : Env) (s : Nat), (∀ q ∈ u, q.1 ≠ s) → apply u e s = e s
  | [], e, s, _ => rfl
  | q :: u, e, s, h => by
    rw [apply_cons, apply_other u _ s fun q' hq => h q' (by simp [hq]), upd_other (Ne.symm (h q (by simp)))]
section
variable {P : Program} {B : Base} {Fz : Nat → Prop} {e : Env} {a : Act} {tm : Tm} {w : World} {ob : Nat → List Nat} {S S' : Stamp → Prop} {p : Stamp}
theorem Inv.weaken (I : Inv B Fz e tm w ob S) (h : ∀ s, S s → S' s) : Inv B Fz e tm w ob S' :=
  { I with stamps := fun s st hs => h st (I.stamps s st hs) }
def OutS (P : Program) (B : Base) (e : Env) (a : Act) (w : World) (S : Stamp → Prop) (p : Stamp) (o : Oper) (ups : Ups) : Prop :=
  ∃ w' Fz' ob', (execOp a.eval o).run P w = .ok .skip w' ∧ Inv B Fz' (apply ups e) (tmOf B a) w' ob' (fun st => S st ∨ st = p)
theorem run_storeAt {t : TypeId} {n : Nat} (hs : sizeT P t = some n) {v : Value} {g o : Nat} {cur : Array Value} {ty : TypeId} (hg : w.heap[g]? = some (.cells cur ty (0, 0)))
    (hv : v.cells.toList.length = n) (hfit : o + v.cells.toList.length ≤ cur.size) (h1 : ∀ x ∈ v.cells.toList, x.oneCell' = true) :
    (Instr.storeAt t (.pointer (some ⟨g, o, none⟩)) v).run P w =
      .ok () (w.setRow g (cur.toList.take o ++ v.cells.toList ++ cur.toList.drop (o + v.cells.toList.length)).toArray) := by
  have hst := run_storeCells_at P g o ty v.cells.toList 0 cur w hg (by simpa using hfit) h1
  rw [Nat.add_zero] at hst
  have hsz : v.cells.size = n := by rw [← hv]; simp
  simp only [Instr.storeAt, Instr.sureAddr, Sem.run_bind, Sem.run_pure, Result.andThen_ok, storeVar, run_sizeOf hs]
  simp only [hsz, ne_eq, not_true_eq_false, if_false]
  exact hst
theorem Rep.cells_own {u : Value} {st : Stamp} {sz : Nat} {xs : List (List PV)} {bs : List Nat} (h : Rep w Fz u (.own st sz xs) bs) : u.cells = #[u] ∧ u.oneCell' = true := by
  cases h with
  | plain h => exact absurd h.okC (by simp [okC])
  | ownNil => exact ⟨rfl, rfl⟩
  | own => exact ⟨rfl, rfl⟩
theorem PlaceOK.mono {Fz' : Nat → Prop} {ob' : Nat → List Nat} {e' : Env} {u : Value} {r : Nat} {st : Stamp} {cs : List PV} {o : Nat} (h : PlaceOK w Fz e tm ob u (.var r st cs o))
    (hF : ∀ b, Fz b → Fz' b) (he : e' r = e r) (ho : ob' r = ob r) : PlaceOK w Fz' e' tm ob' u (.var r st cs o) := by
  obtain ⟨h1, g, arr, ty, bs, h2, h3, h4, h5, h6, h7⟩ := h
  exact ⟨he.trans h1, g, arr, ty, bs, h2, h3, h4, h5.mono hF (fun _ _ => rfl) (fun _ _ => rfl), ho.trans h6, h7⟩
theorem Inv.valCellsV (I : Inv B Fz e (tmOf B a) w ob S) {t : TypeId} {y : Operand} {frz : Bool} {new : List PV} {u : Ups} (h : cellsV frz p y (hint P t y (res e y)) = some (new, u)) :
    (∃ Fz' ob', Inv B Fz' (apply u e) (tmOf B a) w ob' S ∧ (∀ b, Fz b → Fz' b) ∧ ImmL w Fz' (a.eval y).cells.toList new ∧ ∀ r, (∀ q ∈ u, q.1 ≠ r) → ob' r = ob r ∧ apply u e r = e r) ∨
    ∃ s st0 sz xs, (y = .tmp s ∧ s ≠ VS) ∧ e s = .own st0 sz xs ∧ new = [.own p sz xs] ∧ u = [(s, .dead)] := by
  cases frz with
  | false => exact I.valCells h
  | true => exact .inl (I.cellsFrozen h)
theorem out_store (I : Inv B Fz e (tmOf B a) w ob S) (hp : ¬ S p) {o : Oper} {t : TypeId} {x y : Operand} (ho : o.op = .store t x y) {n : Nat} (hs : sizeT P t = some n)
    {ups : Ups} {frz : Bool} (h : storeS frz p n x (res e x) y (hint P t y (res e y)) = some ups) : OutS P B e a w S p o ups := by
  unfold storeS at h
  split at h
  · rename_i r st cs off hpl
    split at h
    · rename_i new u hnew
      split at h
      · rename_i hc
        obtain ⟨rfl, hl, hnd⟩ := hc
        cases h
        rw [nodupB_iff, List.nodup_cons] at hnd
        have hur : ∀ q ∈ u, q.1 ≠ r := fun q hq h => hnd.1 (List.mem_map.2 ⟨q, hq, h⟩)
        have hpk := I.place hpl
        rw [OutS, apply_cons, apply_upd u e r _ hur]
        rcases I.valCellsV hnew with ⟨Fz', ob', I', hF, hi, hk⟩ | ⟨s, st0, sz, xs, ⟨rfl, hvs⟩, hes, rfl, rfl⟩
        · obtain ⟨k1, k2⟩ := hk r hur
          have hpk' := hpk.mono (tm := tmOf B a) (e' := apply u e) hF k2 k1
          obtain ⟨h1, g, arr, ty, bs, h2, h3, h4, h5, h6, h7⟩ := hpk'
          have hlen := h5.length
          have hnl := hi.1
          obtain ⟨ob'', I''⟩ := I'.storeVar hp h1 h3 h4 h5 h6 h7 (o := off) (new := new) (vs := (a.eval y).cells.toList) (bsV := []) hl (Reps.ofImmL hi) (all_cellC_of_ok hi.ok)
            (fun q hq => by have := List.all_eq_true.1 hi.ok q hq; cases q <;> simp_all [okC, isSelf])
            (fun c hc s hs' => by have := List.all_eq_true.1 hi.ok c hc; cases c <;> simp_all [okC, stampsC]) none (by simp) (by simp)
          refine ⟨_, Fz', ob'', ?_, I''⟩
          have hrun := run_storeAt (P := P) (o := off) hs h4 hnl (by rw [Array.length_toList] at hlen; omega) hi.one
          simp only [execOp, ho, Sem.run_bind, h2, hrun, Result.andThen_ok, Sem.run_pure]
        · obtain ⟨h1, g, arr, ty, bs, h2, h3, h4, h5, h6, h7⟩ := hpk
          have hR := I.slot s (by rw [hes]; rfl)
          rw [hes] at hR
          have hev : a.eval (.tmp s) = tmOf B a s := (tmOf_ne B a hvs).symm
          obtain ⟨c1, c2⟩ := hR.cells_own
          have hlen := h5.length
          have hsr : s ≠ r := hur _ (List.mem_singleton.2 rfl)
          obtain ⟨ob'', I''⟩ := I.storeVar hp h1 h3 h4 h5 h6 h7 (o := off) (new := [.own p sz xs]) (vs := [tmOf B a s]) (bsV := ob s) hl (Reps.one (hR.stC p)) rfl (by simp [isSelf])
            (fun c hc s hs' => by simp at hc; subst hc; simpa [stampsC] using hs') (some s) (fun s' h => by cases h; exact ⟨hsr, rfl⟩) (by simp)
          refine ⟨_, Fz, ob'', ?_, I''⟩
          have hcl : (tmOf B a s).cells.toList = [tmOf B a s] := by rw [c1]
          have hrun := run_storeAt (P := P) (o := off) (v := tmOf B a s) hs h4 (by rw [hcl]; rfl) (by rw [hcl]; simp at hl; rw [Array.length_toList] at hlen; simp; omega) (by rw [hcl]; simpa using c2)
          rw [hcl] at hrun
          simp only [execOp, ho, Sem.run_bind, h2, hev, hrun, Result.andThen_ok, Sem.run_pure]
      · cases h
    · cases h
  · rename_i r pl root st sz xs i k hpl
    split at h
    · rename_i new u hnew
      split at h
      · rename_i c hc
        split at h
        · rename_i hcond
          obtain ⟨rfl, hl, hnd⟩ := hcond
          cases h
          rw [nodupB_iff, List.nodup_cons] at hnd
          have hur : ∀ q ∈ u, q.1 ≠ r := fun q hq h => hnd.1 (List.mem_map.2 ⟨q, hq, h⟩)
          obtain ⟨rfl, hr, ad, n', cap, hpv, hi', hev⟩ := I.place hpl
          rw [OutS, apply_cons, apply_upd u e r _ hur]
          obtain ⟨Fz', ob', I', hF, hi, hk⟩ := I.cellsFrozen hnew
          obtain ⟨k1, k2⟩ := hk r hur
          have hnl := hi.1
          obtain ⟨gb, cur, ty, rfl, hg, hfit, I''⟩ := I'.storeElem (k2.symm ▸ hr) hpv hc hl hi
          rw [k2] at I''
          refine ⟨_, Fz', ob', ?_, I''.weaken fun _ h => .inl h⟩
          have hrun := run_storeAt (P := P) (o := i * sz + k) hs hg hnl hfit hi.one
          simp only [execOp, ho, Sem.run_bind, hev, add_lit, Nat.zero_add, hrun, Result.andThen_ok, Sem.run_pure]
        · cases h
      · cases h
    · cases h
  · cases h
end
end Go.PE
