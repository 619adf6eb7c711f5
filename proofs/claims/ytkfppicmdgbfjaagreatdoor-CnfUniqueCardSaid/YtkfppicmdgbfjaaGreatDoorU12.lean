/-
  A part of the proof that the law's function returns true and leaves its arguments as they were, for every input (no condition): own lemmas of the proof, in the order of their use.
-/
import Derived.Test.YtkfppicmdgbfjaaGreatDoorU11
set_option linter.all false
namespace Go.PE
open Go.RowKit
section
variable {P : Program} {C : Ctx} {B : Base} {Fz : Nat → Prop} {e : Env} {tm : Tm} {ob : Nat → List Nat} {a : Act} {w : World} {S S' : Stamp → Prop}
variable {Φ : FuncId → List PV → Option (PV × List (List PV))} {keep : List Nat}
/-- What an iterator reads of its box. -/
theorem Inv.backBox (I : Inv B Fz e tm w ob S) {t : Nat} {g : FuncId} {r : Nat} {pl : Option Nat} {st : Stamp} {off len : Nat} (he : e t = .back g r pl st off len) {q : Nat × List (List PV)} (hr : rowIf (e r) pl st = some q) :
    ∃ A cap bx ty, tm t = .func (.func g) #[] #[.pointer (some ⟨bx, 0, none⟩)] ∧ Fz bx ∧ w.heap[bx]? = some (.cells #[.slice A len cap] ty (0, 0)) ∧ len ≤ maxLen := by
  have href := I.ref t (by rw [he]; rfl)
  rw [he] at href
  obtain ⟨sz, xs⟩ := q
  obtain ⟨_, hl, A, n, cap, A', cap', bx, ty, h1, h2, h3, h4, _⟩ := href sz xs hr
  obtain ⟨u, bs, g1, g2, _⟩ := I.row hr
  obtain ⟨_, n', _, _, hn, _, hm⟩ := g2.own_len
  exact ⟨A', cap', bx, ty, h2, h3, h4, by omega⟩
theorem Inv.backElem (I : Inv B Fz e tm w ob S) {t : Nat} {g : FuncId} {r : Nat} {pl : Option Nat} {st : Stamp} {off len : Nat} (he : e t = .back g r pl st off len) {sz : Nat} {xs : List (List PV)}
    (hr : rowIf (e r) pl st = some (sz, xs)) {j : Nat} (hj : j < len) {z : Int} (hz : xs[off + j]? = some [.int .i64 z]) :
    ∃ b o cap bx ty, tm t = .func (.func g) #[] #[.pointer (some ⟨bx, 0, none⟩)] ∧ w.heap[bx]? = some (.cells #[.slice (some ⟨b, o, none⟩) len cap] ty (0, 0)) ∧ w.cell? ⟨b, o + j, none⟩ = some (.int .i64 z) := by
  have href := I.ref t (by rw [he]; rfl)
  rw [he] at href
  obtain ⟨rfl, hl, A, n, cap, A', cap', bx, ty, h1, h2, h3, h4, h5⟩ := href sz xs hr
  obtain ⟨u, bs, g1, g2, _⟩ := I.row hr
  obtain rfl := g1.unique h1
  cases g2 with
  | plain h => exact absurd h.okC (by simp [okC])
  | ownNil => simp at hz
  | own gb _ _ cur ty' _ _ _ cf hg hn hcp hm hs hu hcell hrr =>
    have hA := h5 _ rfl (by omega)
    rw [add_lit] at hA
    subst hA
    have hc2 : cell2 xs (off + j) 0 = some (.int .i64 z) := by simp [cell2, hz]
    have hv := hrr _ _ _ hc2
    have hcf : cf (off + j) 0 = .int .i64 z := by
      generalize cf (off + j) 0 = u at hv
      cases hv
      rfl
    have hcl := hcell _ _ _ hc2
    rw [hcf] at hcl
    refine ⟨gb, 0 + off * 1, cap', bx, ty, h2, h4, ?_⟩
    simp only [World.cell?, hg, Option.isSome_none, Bool.false_eq_true, if_false]
    rw [← hcl]
    congr 1
    omega
theorem lookup_two (p0 p1 : Nat) (v0 v1 : PV) (l : List (Nat × PV)) : lookup ((p1, v1) :: (p0, v0) :: l) = upd (upd (lookup l) p0 v0) p1 v1 := by
  funext s
  simp only [lookup, upd]
theorem canon_dead {live : List Nat} {s : Nat} (h : lookup (PE.canon live e) s ≠ .dead) : s ∈ live := by
  rw [lookup_canon] at h
  split at h
  · rename_i hs; simpa using hs
  · exact absurd rfl h
theorem dsOf_lt (I : Inv (B.wd (dsOf a.defers)) Fz e tm w ob S) : ∀ D ∈ dsOf a.defers, D < w.heap.size := fun D hD => (Array.getElem?_eq_some_iff.1 (I.dfr D hD).1).1
theorem fold_two (t : Array Value) (p0 p1 : Tmp) (v0 v1 : Value) : (#[p0, p1].zip #[v0, v1]).foldl (fun t (p, v) => t.setIfInBounds p v) t = (t.setIfInBounds p0 v0).setIfInBounds p1 v1 := by
  rw [← Array.foldl_toList, Array.toList_zip]
  rfl
set_option maxHeartbeats 1000000 in
theorem range_sound (hM : ∀ g, Meets P g (Φ g)) {lv : Nat → List Nat} {n : Nat} {t p0 p1 : Nat} {assign body : Code} (IHa : CodeS P Φ keep lv n assign) (IHb : CodeS P Φ keep lv n body) :
    CodeS P Φ keep lv n (.rangeFunc (.tmp t) #[p0, p1] assign body) := by
  intro C ks hK m b Q rid rid' e e' ex a w hl hc h H hQ
  have hl : C.l = none := hl.resolve_right (by simp [noRF])
  rw [hl]
  simp only [codeOK, List.all_cons, List.all_nil, Bool.and_true, Bool.and_eq_true, decide_eq_true_eq, Bool.not_eq_true'] at hc
  obtain ⟨⟨⟨⟨hp0, hk0⟩, hp1, hk1⟩, hca⟩, hcb⟩ := hc
  simp only [exec, rangeA] at h
  split at h
  rotate_left
  · cases h
  rename_i hsafe
  simp only [Bool.and_eq_true, Bool.not_eq_true'] at hsafe
  obtain ⟨⟨⟨hwa, hwb⟩, hl0⟩, hl1⟩ := hsafe
  have hk0 : p0 ∉ ks := by simpa using hk0
  have hk1 : p1 ∉ ks := by simpa using hk1
  have hl0 : p0 ∉ lv b := by simpa using hl0
  have hl1 : p1 ∉ lv b := by simpa using hl1
  split at h
  rotate_left
  · cases h
  rename_i len hlen
  split at h
  rotate_left
  · cases h
  rename_i ef hef
  simp only [Option.some.injEq, Prod.mk.injEq] at h
  obtain ⟨rfl, rfl, rfl⟩ := h
  obtain ⟨g, r, pl, st, off, q, het, hg, htv, hrow⟩ := backLen_spec hlen
  obtain ⟨hent, hiter⟩ := iter_of hM hg
  have H0 := H.canon (lv b)
  obtain ⟨⟨Fz0, ob0, I0⟩, hsz, hlt, ⟨hdf, hdn, _⟩, hkept⟩ := H0
  obtain ⟨A, cap, bx, ty, htm, hFbx, hbx, hmax⟩ := I0.backBox het hrow
  obtain ⟨rec, hrec⟩ : ∃ rec : FuncId → LoopState → Loop, rec = fun fn st => { state := st, pending := none, fn, tmps := a.tmps, params := #[p0, p1], assign, body, defers := w.heap.size } := ⟨_, rfl⟩
  refine wpIn_rangeFunc ?_
  intro fn _
  obtain ⟨W1, hW1⟩ : ∃ W1, (w.alloc (.deferred (some []))).alloc (.loop (rec fn .ready)) = W1 := ⟨_, rfl⟩
  have hsize1 : W1.heap.size = w.heap.size + 2 := by rw [← hW1]; show ((w.heap.push _).push _).size = _; simp
  have hlow : ∀ k, k < w.heap.size → W1.heap[k]? = w.heap[k]? := fun k hk => by
    rw [← hW1]
    show ((w.heap.push _).push _)[k]? = _
    rw [Array.getElem?_push_lt (by simp; omega), Array.getElem_push_lt hk, Array.getElem?_eq_getElem hk]
  have hL1 : W1.heap[w.heap.size + 1]? = some (.loop (rec fn .ready)) := by
    rw [← hW1]
    have := World.alloc_heap_new (w.alloc (.deferred (some []))) (.loop (rec fn .ready))
    rwa [World.size_alloc] at this
  have hD1 : W1.heap[w.heap.size]? = some (.deferred (some [])) := by
    rw [← hW1]
    show ((w.heap.push _).push _)[w.heap.size]? = _
    rw [Array.getElem?_push_lt (by simp)]
    simp
  have I1 : Inv (C.B.wd (dsOf a.defers)) Fz0 (lookup (PE.canon (lv b) (lookup e))) (tmOf C.B a) W1 ob0 (fun s => s.1 ≤ 0) :=
    I0.grow (by rw [← hW1]; rfl) (by rw [← hW1]; rfl) (by rw [← hW1]; rfl) (by omega) hlow
  have hBsz : C.B.w0.heap.size ≤ w.heap.size := I0.size
  have hawD : Away w.heap.size (.deferred (some [])) (C.B.wd (w.heap.size :: dsOf a.defers)) W1 Fz0 ob0 :=
    ⟨hD1, fun hf => absurd (I0.fzlt _ hf) (Nat.lt_irrefl _), fun s hs => absurd (I0.lt s _ hs) (Nat.lt_irrefl _), hBsz⟩
  have hawL : Away (w.heap.size + 1) (.loop (rec fn .ready)) (C.B.wd (w.heap.size :: dsOf a.defers)) W1 Fz0 ob0 :=
    ⟨hL1, fun hf => absurd (I0.fzlt _ hf) (by omega), fun s hs => absurd (I0.lt s _ hs) (by omega), Nat.le_succ_of_le hBsz⟩
  have I2 : Inv (C.B.wd (w.heap.size :: dsOf a.defers)) Fz0 (lookup (PE.canon (lv b) (lookup e))) (tmOf C.B a) W1 ob0 (fun s => s.1 ≤ 0) :=
    { I1 with dfr := fun D hD => (List.mem_cons.1 hD).elim (fun h => by rw [h]; exact hawD) (I1.dfr D) }
  have hLD : (w.heap.size + 1) ∉ (C.B.wd (w.heap.size :: dsOf a.defers)).D0 := fun h => by
    rcases List.mem_cons.1 h with h | h
    · omega
    · have := dsOf_lt I0 _ h; omega
  obtain ⟨J, hJ⟩ : ∃ J : Nat → World → Prop, J = fun j W => ∃ ej Fz ob, rangeN (fun j e => match backCell (lookup e) t j with
          | some c => match exec P Φ keep lv n b assign (0, (p1, c) :: (p0, .int .i64 j) :: e) with
            | some (.normal, s) => exec P Φ keep lv n b body s
            | _ => none
          | none => none) (lv b) j ej = some ef ∧
        Inv (C.B.wd (w.heap.size :: dsOf a.defers)) Fz (lookup ej) (tmOf C.B a) W ob (fun s => s.1 ≤ 0) ∧ (∀ s, lookup ej s ≠ .dead → s ∈ lv b) ∧
        Away (w.heap.size + 1) (.loop (rec fn .ready)) (C.B.wd (w.heap.size :: dsOf a.defers)) W Fz ob ∧ Fz bx ∧ W.heap[bx]? = some (.cells #[.slice A len cap] ty (0, 0)) := ⟨_, rfl⟩
  refine ⟨w.heap.size + 1, [{ target := .collected w.heap.size, args := #[] }], W1, { target := .fn (.func g) #[.pointer (some ⟨bx, 0, none⟩)], args := #[.func (.yield (w.heap.size + 1)) #[] #[]] }, W1, g,
    #[.func (.yield (w.heap.size + 1)) #[] #[]] ++ #[.pointer (some ⟨bx, 0, none⟩)], W1, ?_, ?_, fun _ _ => trivial, ?_, fun h => (by simp [FW, Fence.wide] at h), ?_⟩
  · rw [← hW1, hrec]; exact run_enterLoop_outer _ _ _ _ _
  · have hev : a.eval (.tmp t) = .func (.func g) #[] #[.pointer (some ⟨bx, 0, none⟩)] := (tmOf_ne C.B a htv).symm.trans htm
    simp only [resolve, hev]
    simp [go_sem]
  · simp [invoke, go_sem, hent]
  refine callsIn_wide.2 (callsIn_wide.1 (CallsIn.mono (hiter 0 (w.heap.size + 1) bx len cap A J W1 hmax ?_ ?_ ?_) ?_))
  · -- the box
    rw [hJ]
    rintro j W ⟨ej, Fz, ob, _, _, _, _, _, hb⟩
    simp only [World.cell?, hb, Option.isSome_none, Bool.false_eq_true, if_false]
    rfl
  · -- one round
    rw [hJ]
    rintro j W hj ⟨ej, Fz, ob, hrn, I, hlive, hL, hFb, hb⟩
    simp only [rangeN] at hrn
    split at hrn
    rotate_left
    · cases hrn
    rename_i rid2 e1 hbody
    split at hbody
    rotate_left
    · cases hbody
    rename_i c hcell
    split at hbody
    rotate_left
    · cases hbody
    rename_i s2 hassign
    obtain ⟨rid1, e2⟩ := s2
    obtain ⟨g', r', pl', st', off', len', sz, xs, z, het', hrow', hz, rfl⟩ := backCell_spec hcell
    obtain ⟨A2, cap2, bx2, ty2, k1, k2, k3, _⟩ := I.backBox het' hrow'
    have hbx2 : bx2 = bx ∧ g' = g := by
      rw [htm] at k1
      simp only [Value.func.injEq, Fn.func.injEq, Array.mk.injEq, List.cons.injEq, Value.pointer.injEq, Option.some.injEq, Addr.mk.injEq, and_true, true_and] at k1
      exact ⟨k1.2.symm, k1.1.symm⟩
    obtain ⟨rfl, rfl⟩ := hbx2
    have hlen' : len' = len := by
      rw [hb] at k3
      simp at k3
      exact k3.1.2.1.symm
    subst hlen'
    obtain ⟨bb, o, cap3, bx3, ty3, j1, j2, j3⟩ := I.backElem het' hrow' hj hz
    have hbx3 : bx3 = bx2 := by
      rw [htm] at j1
      simp only [Value.func.injEq, Array.mk.injEq, List.cons.injEq, Value.pointer.injEq, Option.some.injEq, Addr.mk.injEq, and_true, true_and] at j1
      exact j1.symm
    subst hbx3
    have hA : A = some ⟨bb, o, none⟩ := by
      rw [hb] at j2
      simp at j2
      exact j2.1.1
    refine ⟨bb, o, z, hA, j3, fn, _, assign, body, by
      have := run_yield (P := P) (args := #[.int .i64 j, .int .i64 z]) hL.1 (by rw [hrec]; rfl)
      rw [hrec] at this
      exact this, ?_⟩
    refine roundIn_of_wpIn trivial ?_
    obtain ⟨a1, ha1⟩ : ∃ a1 : Act, a1 = { tmps := (a.tmps.setIfInBounds p0 (.int .i64 j)).setIfInBounds p1 (.int .i64 z), defers := [] } := ⟨_, rfl⟩
    have hmk : ({ tmps := (#[p0, p1].zip #[Value.int .i64 j, Value.int .i64 z]).foldl (fun tmps (t, a) => tmps.setIfInBounds t a) a.tmps, defers := [] } : Act) = a1 := by rw [ha1, fold_two]
    rw [hmk]
    have hp0V : p0 ≠ VS := Nat.ne_of_lt (Nat.lt_of_lt_of_le hp0 hlt)
    have hp1V : p1 ≠ VS := Nat.ne_of_lt (Nat.lt_of_lt_of_le hp1 hlt)
    have htm1 : tmOf C.B a1 = upd (upd (tmOf C.B a) p0 (.int .i64 j)) p1 (.int .i64 z) := by
      have h1 := tmOf_put (B := C.B) (a := { a with defers := [] }) (d := p0) (u := .int .i64 j) (by show p0 < a.tmps.size; rw [hsz]; exact hp0) hp0V
      have h2 := tmOf_put (B := C.B) (a := Act.put { a with defers := [] } (some p0) (.int .i64 j)) (d := p1) (u := .int .i64 z) (by simp only [Act.put, Array.size_setIfInBounds]; rw [hsz]; exact hp1) hp1V
      rw [h1] at h2
      rw [ha1]
      exact h2
    have hsz1 : a1.tmps.size = C.nt := by rw [ha1]; simpa using hsz
    have hsame : ∀ s, s ∈ lv b → tmOf C.B a1 s = tmOf C.B a s := fun s hs => by
      rw [htm1, upd_other (fun h : s = p1 => hl1 (h ▸ hs)), upd_other (fun h : s = p0 => hl0 (h ▸ hs))]
    have hd1 : a1.defers = [] := by rw [ha1]
    have hI1 := (((I.rebase).putPlain (p := (0, 0)) p0 (.int .i64 j) (.int .i64 j) (.inl (.int _ _))).putPlain (p := (0, 0)) p1 (.int .i64 z) (.int .i64 z) (.inl (.int _ _))).weaken
      (S' := fun s => s.1 ≤ 0) (by rintro s ((h | rfl) | rfl) <;> first | exact h | exact Nat.le_refl _)
    rw [← htm1, ← lookup_two] at hI1
    refine IHa { B := (C.B.wd (w.heap.size :: dsOf a.defers)).at W ob Fz, nt := C.nt, K := fun t => t ∈ ks ++ lv b, T := tmOf C.B a1, l := some (w.heap.size + 1) } (ks ++ lv b) rfl 0 b _ 0 rid1 _ e2 .normal a1 W
      (.inr (noW_noRF hwa)) (codeOK_noW hca hwa) hassign ⟨⟨Fz, _, by rw [hd1]; exact hI1⟩, hsz1, hlt, ⟨by rw [hd1]; simp, by rw [hd1]; simp [dsOf], fun _ => hd1⟩, fun _ _ => rfl⟩ fun a2 W2 H2 => ?_
    obtain ⟨⟨Fz2, ob2, I3⟩, hsz2, _, ⟨_, _, hd2⟩, hk2⟩ := H2
    have hd2 := hd2 (by simp)
    rw [hd2] at I3
    obtain ⟨I3, hA3, hF3⟩ := I.unbase I3
    have hL3 := hA3 _ _ hL
    refine ⟨_, run_beginRound hL3.1 (by rw [hrec]), ?_⟩
    have hbusy : ({ rec fn .ready with state := .busy } : Loop) = rec fn .busy := by rw [hrec]
    rw [hbusy]
    have I4 := I3.putOther (.loop (rec fn .busy)) hL3 hLD
    have hL4 := hL3.put (.loop (rec fn .busy))
    refine IHb { B := (C.B.wd (w.heap.size :: dsOf a.defers)).at (W2.putObj (w.heap.size + 1) (.loop (rec fn .busy))) ob2 Fz2, nt := C.nt, K := fun t => t ∈ ks ++ lv b, T := tmOf C.B a2, l := some (w.heap.size + 1) } (ks ++ lv b) rfl 0 b _ rid1 rid2 e2 e1 .normal a2 _
      (.inr (noW_noRF hwb)) (codeOK_noW hcb hwb) hbody ⟨⟨Fz2, ob2, by rw [hd2]; exact I4.rebase⟩, hsz2, hlt, ⟨by rw [hd2]; simp, by rw [hd2]; simp [dsOf], fun _ => hd2⟩, fun _ _ => rfl⟩ fun a3 W4 H3 => ?_
    obtain ⟨⟨Fz4, ob4, I5⟩, _, _, ⟨_, _, hd3⟩, hk3⟩ := H3
    have hd3 := hd3 (by simp)
    rw [hd3] at I5
    obtain ⟨I6, hA6, hF6⟩ := I4.unbase I5
    have hL6 := hA6 _ _ hL4
    obtain ⟨ob5, I7, hsub⟩ := I6.canon (lv b)
    have I8 := I7.congrTm (tm2 := tmOf C.B a) fun s hs => by
      have hs := canon_dead hs
      have k2 : tmOf C.B a2 s = tmOf C.B a1 s := hk2 s (List.mem_append.2 (.inr hs))
      have k3 : tmOf C.B a3 s = tmOf C.B a2 s := hk3 s (List.mem_append.2 (.inr hs))
      exact ((k3.trans k2).trans (hsame s hs)).symm
    have hL7 : Away (w.heap.size + 1) (.loop (rec fn .busy)) (C.B.wd (w.heap.size :: dsOf a.defers)) W4 Fz4 ob5 := ⟨hL6.1, hL6.2.1, fun s h => hL6.2.2.1 s (hsub s _ h), hL6.2.2.2⟩
    have I9 := I8.putOther (.loop (rec fn .ready)) hL7 hLD
    refine ⟨_, _, run_endRound none hL7.1, rfl, ?_⟩
    have hready : ({ rec fn .busy with state := if (none : Option Code).isNone then .ready else .done, pending := none } : Loop) = rec fn .ready := by rw [hrec]; rfl
    rw [hready]
    have hF4 : Fz4 bx3 := (hF6 bx3 (hF3 bx3 hFb).1).1
    refine ⟨_, Fz4, ob5, hrn, I9, fun s hs => canon_dead hs, hL7.put _, hF4, ?_⟩
    have hF2 := (hF3 bx3 hFb).1
    exact (World.putObj_heap_other (fun h : bx3 = w.heap.size + 1 => hL7.2.1 (by rw [← h]; exact hF4))).trans ((hF6 bx3 hF2).2.trans
      ((World.putObj_heap_other (fun h : bx3 = w.heap.size + 1 => hL3.2.1 (by rw [← h]; exact hF2))).trans ((hF3 bx3 hFb).2.trans hb)))
  · rw [hJ]
    exact ⟨_, Fz0, ob0, hef, I2, fun s hs => canon_dead hs, hawL, hFbx, (hlow bx (I0.fzlt bx hFbx)).trans hbx⟩
  · rw [hJ]
    rintro e2 W' ⟨⟨v, rfl⟩, ej, Fz, ob, hrn, I, hlive, hL, _, _⟩
    simp only [rangeN, Option.some.injEq] at hrn
    subst hrn
    refine ⟨none, _, by have := run_endLoop (P := P) hL.1 (by rw [hrec]; simp); rw [hrec] at this; exact this, ?_⟩
    refine hQ _ _ ⟨⟨Fz, ob, I.putOther _ hL hLD⟩, hsz, hlt, ⟨fun d hd => ?_, ?_, fun h => absurd hl h⟩, hkept⟩
    · rcases List.mem_append.1 hd with hd | hd
      · exact ⟨_, List.mem_singleton.1 hd⟩
      · exact hdf d hd
    · show (w.heap.size :: dsOf a.defers).Nodup
      rw [List.nodup_cons]
      exact ⟨fun h => absurd (dsOf_lt I0 _ h) (Nat.lt_irrefl _), hdn⟩
end
end Go.PE
namespace Go.PE
open Go.RowKit
section
variable {P : Program} {B : Base} {Fz : Nat → Prop} {e : Env} {tm : Tm} {ob : Nat → List Nat} {a : Act} {w : World} {S S' : Stamp → Prop}
variable {Φ : FuncId → List PV → Option (PV × List (List PV))} {keep : List Nat}
theorem least {p : Nat → Prop} (h : ∃ n, p n) : ∃ n, p n ∧ ∀ m, p m → n ≤ m := by
  obtain ⟨n, hn⟩ := h
  induction n using Nat.strongRecOn with
  | _ n ih =>
    by_cases h : ∃ m, m < n ∧ p m
    · obtain ⟨m, hm, hp⟩ := h
      exact ih m hm hp
    · exact ⟨n, hn, fun m hm => by
        rcases Nat.lt_or_ge m n with hlt | hge
        · exact absurd ⟨m, hlt, hm⟩ h
        · exact hge⟩
open Classical in
noncomputable def leastOf (p : Nat → Prop) : Nat := if h : ∃ n, p n then (least h).choose else 0
theorem leastOf_spec {p : Nat → Prop} (h : ∃ n, p n) : p (leastOf p) ∧ ∀ m, p m → leastOf p ≤ m := by
  unfold leastOf
  rw [dif_pos h]
  exact (least h).choose_spec
theorem noRF_1 {l : Option Nat} {x y : Bool} (h : l = none ∨ (x && y) = true) : l = none ∨ x = true := h.imp id fun h => (Bool.and_eq_true _ _ ▸ h).1
theorem noRF_2 {l : Option Nat} {x y : Bool} (h : l = none ∨ (x && y) = true) : l = none ∨ y = true := h.imp id fun h => (Bool.and_eq_true _ _ ▸ h).2
theorem code_sound (hm : P.follows .mixedOrders = true) (hM : ∀ g, Meets P g (Φ g)) (lv : Nat → List Nat) (n : Nat) : ∀ c : Code, CodeS P Φ keep lv n c := by
  intro c
  induction c with
  | skip =>
    intro C ks hK m b Q rid rid' e e' ex a w hl hc h H hQ
    simp only [exec, Option.some.injEq, Prod.mk.injEq] at h
    obtain ⟨rfl, rfl, rfl⟩ := h
    exact wpIn_skip (hQ a w H)
  | region id ops draw =>
    intro C ks hK m b Q rid rid' e e' ex a w hl hc h H hQ
    simp only [codeOK, Bool.and_eq_true] at hc
    have hd : ∀ o ∈ ops.toList, ∀ d, o.dst = some d → d < C.nt ∧ ¬ C.K d := fun o ho d hd => by rw [hK]; exact dstsOk_spec hc.1 o ho d hd
    cases draw with
    | true =>
      simp only [exec, if_true] at h
      split at h
      · rename_i e1 l hl
        split at h
        · rename_i hap
          simp only [Option.some.injEq, Prod.mk.injEq] at h
          obtain ⟨rfl, rfl, rfl⟩ := h
          exact wp_region_drawn hm hM hd (by simpa using hc.2) hl hap H hQ
        · cases h
      · cases h
    | false =>
      simp only [exec, Bool.false_eq_true, if_false] at h
      split at h
      · rename_i e1 hl
        simp only [Option.some.injEq, Prod.mk.injEq] at h
        obtain ⟨rfl, rfl, rfl⟩ := h
        exact wp_region_text hM hd hl H hQ
      · cases h
  | seq x y ihx ihy =>
    intro C ks hK m b Q rid rid' e e' ex a w hl hc h H hQ
    simp only [codeOK, Bool.and_eq_true] at hc
    simp only [exec] at h
    refine wpIn_seq ?_
    split at h
    · rename_i s' hx
      obtain ⟨rid1, e1⟩ := s'
      exact ihx C ks hK m b _ rid rid1 e e1 .normal a w (noRF_1 hl) hc.1 hx H fun a1 w1 H1 => ihy C ks hK m b Q rid1 rid' e1 e' ex a1 w1 (noRF_2 hl) hc.2 h H1 hQ
    · rename_i hne
      refine ihx C ks hK m b _ rid rid' e e' ex a w (noRF_1 hl) hc.1 h H fun a1 w1 H1 => ?_
      cases ex with
      | normal => exact absurd h (hne _)
      | exit id => exact hQ a1 w1 H1
      | ret => exact hQ a1 w1 H1
  | cond c x y ihx ihy =>
    intro C ks hK m b Q rid rid' e e' ex a w hl hc h H hQ
    simp only [codeOK, Bool.and_eq_true] at hc
    simp only [exec] at h
    split at h
    · rename_i t ht
      obtain ⟨Fz, ob, I⟩ := H.inv
      have hv := I.bool (x := c) (b := t) ht
      refine wpIn_cond hv ?_
      cases t with
      | true => exact ihx C ks hK m b Q rid rid' e e' ex a w (noRF_1 hl) hc.1 (by simpa using h) H hQ
      | false => exact ihy C ks hK m b Q rid rid' e e' ex a w (noRF_2 hl) hc.2 (by simpa using h) H hQ
    · cases h
  | block id c ih =>
    intro C ks hK m b Q rid rid' e e' ex a w hl hc h H hQ
    simp only [codeOK] at hc
    simp only [exec] at h
    refine wpIn_block ?_
    split at h
    · rename_i id' s' hx
      obtain ⟨rid1, e1⟩ := s'
      split at h
      · rename_i hid
        subst hid
        simp only [Option.some.injEq, Prod.mk.injEq] at h
        obtain ⟨rfl, rfl, rfl⟩ := h
        refine ih C ks hK m id' _ rid rid1 e e1 (.exit id') a w hl hc hx H fun a1 w1 H1 => ?_
        simpa [exitOf, Exit.inBlock] using hQ a1 w1 H1
      · rename_i hid
        simp only [Option.some.injEq, Prod.mk.injEq] at h
        obtain ⟨rfl, rfl, rfl⟩ := h
        refine ih C ks hK m id _ rid rid1 e e1 (.exit id') a w hl hc hx H fun a1 w1 H1 => ?_
        simpa [exitOf, Exit.inBlock, hid] using hQ a1 w1 H1
    · rename_i hne
      refine ih C ks hK m id _ rid rid' e e' ex a w hl hc h H fun a1 w1 H1 => ?_
      cases ex with
      | normal => simpa [exitOf, Exit.inBlock] using hQ a1 w1 H1
      | exit id' => exact absurd h (hne _ _)
      | ret => simpa [exitOf, Exit.inBlock] using hQ a1 w1 H1
  | loop c ih =>
    intro C ks hK m b Q rid rid' e e' ex a w hl hc h H hQ
    simp only [codeOK] at hc
    simp only [exec] at h
    let J : Nat → Act → World → Prop := fun m a w => ∃ e0, loopN (fun e => exec P Φ keep lv n b c (0, e)) (lv b) m e0 = some (ex, rid', e') ∧ Sat C (fun s => s.1 ≤ 0) (lookup e0) a w
    refine wpIn_loop (fun a w => ∃ m, J m a w) (fun a w => leastOf fun m => J m a w) ⟨n, _, h, H.canon (lv b)⟩ fun a1 w1 H1 => ?_
    obtain ⟨⟨e0, h0, H0⟩, hleast⟩ := leastOf_spec H1
    generalize hm0 : (leastOf fun m => J m a1 w1) = m0 at h0 hleast
    cases m0 with
    | zero => simp [loopN] at h0
    | succ m =>
      simp only [loopN] at h0
      split at h0
      · rename_i rid2 e2 hb
        refine ih C ks hK _ b _ 0 rid2 e0 e2 .normal a1 w1 hl hc hb H0 fun a2 w2 H2 => ?_
        have hJ : J m a2 w2 := ⟨_, h0, H2.canon (lv b)⟩
        have hle := (leastOf_spec (p := fun m => J m a2 w2) ⟨m, hJ⟩).2 m hJ
        exact ⟨⟨m, hJ⟩, by show leastOf (fun m => J m a2 w2) < _; omega⟩
      · rename_i hne
        refine ih C ks hK _ b _ 0 rid' e0 e' ex a1 w1 hl hc h0 H0 fun a2 w2 H2 => ?_
        cases ex with
        | normal => exact absurd h0 (hne _ _)
        | exit id => exact hQ a2 w2 H2
        | ret => exact hQ a2 w2 H2
  | exit id =>
    intro C ks hK m b Q rid rid' e e' ex a w hl hc h H hQ
    simp only [exec, Option.some.injEq, Prod.mk.injEq] at h
    obtain ⟨rfl, rfl, rfl⟩ := h
    exact wpIn_exit (hQ a w H)
  | ret =>
    intro C ks hK m b Q rid rid' e e' ex a w hl hc h H hQ
    simp only [exec, Option.some.injEq, Prod.mk.injEq] at h
    obtain ⟨rfl, rfl, rfl⟩ := h
    exact wpIn_ret (hQ a w H)
  | rangeFunc g ps assign body iha ihb =>
    by_cases hr : ∃ t p0 p1, g = .tmp t ∧ ps = #[p0, p1]
    · obtain ⟨t, p0, p1, rfl, rfl⟩ := hr
      exact range_sound hM iha ihb
    · intro C ks hK m b Q rid rid' e e' ex a w hl hc h H hQ
      simp only [exec] at h
      split at h
      · cases h
      · rename_i t p0 p1 ha
        refine absurd ?_ hr
        unfold rangeA at ha
        split at ha
        · rename_i t' p0' p1' hps
          cases ha
          exact ⟨t, p0, p1, rfl, by rw [← hps]⟩
        · cases ha
  | _ =>
    intro C ks hK m b Q rid rid' e e' ex a w hl hc h H hQ
    simp [exec] at h
end
end Go.PE
namespace Go.PE
open Go.RowKit
/-! ### Functions -/
def resFrz (e : Env) : List ResultVar → Option Ups
  | [] => some []
  | .tmp _ :: l => resFrz e l
  | .cell t _ :: l => match e t, resFrz e l with
    | .box _ cells, some u => if (cells.map frzO).all okC then some ((t, .iptr (cells.map frzO) 0) :: u) else none
    | _, _ => none
def resVal (P : Program) (e : Env) : ResultVar → Option PV
  | .tmp t => if isRef (opv e (.tmp t)) then none else some (opv e (.tmp t))
  | .cell t ty => match opv e (.tmp t), sizeT P ty, isAggT P ty with
    | .iptr cs 0, some n, some ag => if (ag = true ∨ n = 1) ∧ cs.length = n then (if ag then some (.agg cs) else cs.head?) else none
    | _, _, _ => none
def resSlots : List ResultVar → List Nat
  | [] => []
  | .tmp t :: l => t :: resSlots l
  | .cell .. :: l => resSlots l
def resVals (P : Program) (e : Env) : List ResultVar → Option (List PV)
  | [] => some []
  | r :: l => match resVal P e r, resVals P e l with
    | some v, some vs => some (v :: vs)
    | _, _ => none
def one (rs : List PV) : PV := match rs with | [r] => r | rs => .tup rs
def boxPosFrom : Nat → List PV → List Nat
  | _, [] => []
  | i, .box .. :: l => i :: boxPosFrom (i + 1) l
  | i, _ :: l => boxPosFrom (i + 1) l
def boxPos (avs : List PV) : List Nat := boxPosFrom 0 avs
def outsOf (e : Env) : List Nat → Option (List (List PV))
  | [] => some []
  | i :: l => match e i, outsOf e l with
    | .box _ cs, some os => some (cs :: os)
    | _, _ => none
/-- The parts of a tuple that comes back are written by nobody. -/
def frzT : PV → PV
  | .tup vs => .tup (vs.map frzC)
  | v => v
def finish (P : Program) (rs : List ResultVar) (bp : List Nat) (e : Env) : Option (PV × List (List PV)) :=
  match resFrz e rs with
  | none => none
  | some u => match resVals P (apply u e) rs, outsOf (apply u e) bp with
    | some vs, some outs => if nodupB (u.map (·.1)) && nodupB (resSlots rs ++ bp) then some (frzT (stmo (0, 0) (one vs)), outs) else none
    | _, _ => none
def stamp0 (v : PV) : Bool := (stampsOf v).all fun s => s.1 == 0
def funcBody (P : Program) (Φ : FuncId → List PV → Option (PV × List (List PV))) (keep : List Nat) (lv : Nat → List Nat) (n nt : Nat) (c : Code) (rs : List ResultVar) (avs : List PV) : Option (PV × List (List PV)) :=
  if avs.length ≤ nt ∧ nt ≤ VS ∧ codeOK nt (boxPos avs) c = true ∧ avs.all stamp0 = true then
    match exec P Φ keep lv n 0 c (0, avs.zipIdx.map fun q => (q.2, q.1)) with
    | some (.exit _, _) => none
    | some (_, _, e) => finish P rs (boxPos avs) (lookup e)
    | none => none
  else none
def funcS (P : Program) (Φ : FuncId → List PV → Option (PV × List (List PV))) (keep : FuncId → List Nat) (lv : FuncId → Nat → List Nat) (n : Nat) (f : FuncId) (avs : List PV) : Option (PV × List (List PV)) :=
  match P.funcs[f]? with
  | none => none
  | some fn => match fn.body with
    | none => none
    | some c => if fn.name = "runtime.NumGoroutine" ∨ (wrB f || prB f) = true then none else funcBody P Φ (keep f) (lv f) n fn.ntmps c fn.results.toList avs
section
variable {P : Program} {C : Ctx} {B : Base} {Fz : Nat → Prop} {e : Env} {tm : Tm} {ob : Nat → List Nat} {a : Act} {w : World} {S S' : Stamp → Prop}
variable {Φ : FuncId → List PV → Option (PV × List (List PV))}
theorem Reps.blocks : ∀ {vs : List Value} {ps : List PV} {bs : List Nat}, Reps w Fz vs ps bs → bs.Nodup →
    ∃ g : Nat → List Nat, (∀ i v p, vs[i]? = some v → ps[i]? = some p → Rep w Fz v p (g i)) ∧ (∀ i, vs.length ≤ i → g i = []) ∧ (∀ i, (g i).Nodup) ∧ (∀ i j, i ≠ j → ∀ b ∈ g i, b ∉ g j) ∧ (∀ i, ∀ b ∈ g i, b ∈ bs)
  | _, _, _, .nil, _ => ⟨fun _ => [], fun i v p h => by simp at h, fun _ _ => rfl, fun _ => List.nodup_nil, fun _ _ _ b hb => (by cases hb), fun _ b hb => (by cases hb)⟩
  | _, _, _, .cons (b := b0) (bs := bs0) h hs, hnd => by
    rw [List.nodup_append] at hnd
    obtain ⟨g, h1, h2, h3, h4, h5⟩ := Reps.blocks hs hnd.2.1
    refine ⟨fun i => match i with | 0 => b0 | i + 1 => g i, fun i v p hv hp => ?_, fun i hi => ?_, fun i => ?_, fun i j hij x hx hy => ?_, fun i x hx => ?_⟩
    · cases i with
      | zero =>
        simp only [List.getElem?_cons_zero, Option.some.injEq] at hv hp
        subst hv hp
        exact h
      | succ i => exact h1 i v p (by simpa using hv) (by simpa using hp)
    · cases i with
      | zero => simp at hi
      | succ i => exact h2 i (by simpa using hi)
    · cases i with
      | zero => exact hnd.1
      | succ i => exact h3 i
    · cases i with
      | zero =>
        cases j with
        | zero => exact hij rfl
        | succ j => exact hnd.2.2 x hx x (h5 j x hy) rfl
      | succ i =>
        cases j with
        | zero => exact hnd.2.2 x hy x (h5 i x hx) rfl
        | succ j => exact h4 i j (fun h => hij (by rw [h])) x hx hy
    · cases i with
      | zero => exact List.mem_append.2 (.inl hx)
      | succ i => exact List.mem_append.2 (.inr (h5 i x hx))
theorem lookup_args (avs : List PV) (s : Nat) : lookup (avs.zipIdx.map fun q => (q.2, q.1)) s = (avs[s]?).getD .dead := by
  have : ∀ (l : List PV) (k s : Nat), lookup ((l.zipIdx k).map fun q => (q.2, q.1)) s = if k ≤ s then (l[s - k]?).getD .dead else .dead := by
    intro l
    induction l with
    | nil => intro k s; simp [lookup]
    | cons v l ih =>
      intro k s
      rw [List.zipIdx_cons, List.map_cons, lookup, ih]
      by_cases h : s = k
      · subst h; simp
      · rw [if_neg h]
        by_cases hk : k ≤ s
        · rw [if_pos (by omega), if_pos hk, show s - k = (s - (k + 1)) + 1 by omega, List.getElem?_cons_succ]
        · rw [if_neg (by omega), if_neg hk]
  simpa using this avs 0 s
theorem Inv.resFrz {e0 : Env} : ∀ (l : List ResultVar) (u1 : Ups) (Fz : Nat → Prop) (ob : Nat → List Nat) (us : Ups),
    Inv B Fz (apply u1 e0) tm w ob S → FrzB e0 u1 → PE.resFrz e0 l = some us → ((u1 ++ us).map (·.1)).Nodup → ∃ Fz' ob', Inv B Fz' (apply (u1 ++ us) e0) tm w ob' S
  | [], u1, Fz, ob, us, I, hF, h, hnd => by
    simp only [PE.resFrz, Option.some.injEq] at h
    subst h
    rw [List.append_nil]
    exact ⟨Fz, ob, I⟩
  | .tmp _ :: l, u1, Fz, ob, us, I, hF, h, hnd => Inv.resFrz l u1 Fz ob us I hF h hnd
  | .cell t ty :: l, u1, Fz, ob, us, I, hF, h, hnd => by
    simp only [PE.resFrz] at h
    split at h
    · rename_i st cells u het hl
      split at h
      · rename_i hok
        cases h
        have hr : apply u1 e0 t = e0 t := apply_other u1 e0 t fun q hq hqr => by
          rw [List.map_append, List.nodup_append] at hnd
          exact hnd.2.2 q.1 (List.mem_map.2 ⟨q, hq, rfl⟩) t (by simp) hqr
        obtain ⟨I1, _⟩ := I.freezeBox (r := t) (hr.trans het) hok
        have hap : apply (u1 ++ [(t, .iptr (cells.map frzO) 0)]) e0 = upd (apply u1 e0) t (.iptr (cells.map frzO) 0) := by rw [apply_append]; rfl
        rw [← hap] at I1
        have := Inv.resFrz l (u1 ++ [(t, .iptr (cells.map frzO) 0)]) _ _ u I1 (fun q hq => by
          rcases List.mem_append.1 hq with hq | hq
          · exact hF q hq
          · simp only [List.mem_singleton] at hq
            subst hq
            exact ⟨st, cells, het⟩) hl (by simpa using hnd)
        simpa using this
      · cases h
    · cases h
theorem Imm.ptr {v : Value} {cs : List PV} (h : Imm w Fz v (.iptr cs 0)) : ∃ ad vs, v = .pointer (some ad) ∧ vs.length = cs.length ∧ (∀ (j : Nat) u, vs[j]? = some u → w.cell? (ad.add j) = some u) ∧ ImmL w Fz vs cs := by
  cases h with
  | iptr ad _ _ c hcell hr =>
    have hz : ad.add 0 = ad := by unfold Addr.add; split <;> simp_all
    refine ⟨ad, (List.range cs.length).map c, by rw [hz], by simp, fun j u hu => ?_, by simp, fun j u q hu hq => ?_⟩
    · rw [List.getElem?_map] at hu
      obtain ⟨k, hk, rfl⟩ := Option.map_eq_some_iff.1 hu
      by_cases hj : j < cs.length
      · rw [List.getElem?_range hj, Option.some.injEq] at hk
        subst hk
        exact (hcell j _ (List.getElem?_eq_getElem hj)).2
      · rw [List.getElem?_eq_none (by simpa using hj)] at hk
        cases hk
    · have hj : j < cs.length := (List.getElem?_eq_some_iff.1 hq).1
      rw [List.getElem?_map, List.getElem?_range hj, Option.map_some, Option.some.injEq] at hu
      subst hu
      exact hr j q hq
end
end Go.PE
namespace Go.PE
open Go.RowKit
section
variable {P : Program} {C : Ctx} {B : Base} {Fz : Nat → Prop} {e : Env} {tm : Tm} {ob : Nat → List Nat} {a : Act} {w : World} {S S' : Stamp → Prop}
variable {Φ : FuncId → List PV → Option (PV × List (List PV))}
def resOne (tmps : Array Value) : ResultVar → Sem Value
  | .tmp t => pure (tmps.getD t undef)
  | .cell a t => do loadVar t (← asAddr (tmps.getD a undef))
theorem results_eq (fn : Func) (tmps : Array Value) : results fn tmps = (do
    let vs ← fn.results.mapM (resOne tmps)
    pure (if h : vs.size = 1 then vs[0] else .tuple vs)) := by
  have : (fun (r : ResultVar) => (match r with
    | .tmp t => pure (tmps.getD t undef)
    | .cell a t => do loadVar t (← asAddr (tmps.getD a undef)) : Sem Value)) = resOne tmps := by
    funext r
    cases r <;> rfl
  unfold results
  rw [← this]
  rfl
theorem run_resOne (I : Inv B Fz e (tmOf B a) w ob S) {r : ResultVar} {v : PV} (h : resVal P e r = some v) :
    ∃ u, (resOne a.tmps r).run P w = .ok u w ∧ Rep w Fz u v ((resSlots [r]).flatMap ob) ∧ isRef v = false := by
  cases r with
  | tmp t =>
    simp only [resVal] at h
    split at h
    · cases h
    · rename_i hr
      cases h
      have hr' : isRef (opv e (.tmp t)) = false := by simpa using hr
      obtain ⟨ho, hv⟩ : opv e (.tmp t) = e t ∧ t ≠ VS := by
        rcases opv_tmp e t with ⟨h1, _⟩ | h1
        · rw [h1] at hr'; cases hr'
        · exact h1
      rw [ho] at hr' ⊢
      exact ⟨tmOf B a t, by rw [tmOf_ne B a hv]; rfl, by simpa [resSlots] using I.slot t hr', hr'⟩
  | cell t ty =>
    simp only [resVal] at h
    split at h
    · rename_i cs n ag het hs ha
      split at h
      · rename_i hc
        obtain ⟨hc1, rfl⟩ := hc
        obtain ⟨ho, hvs⟩ : opv e (.tmp t) = e t ∧ t ≠ VS := by
          rcases opv_tmp e t with ⟨h1, _⟩ | h1
          · rw [h1] at het; cases het
          · exact h1
        rw [ho] at het
        have hR := I.slot t (by rw [het]; rfl)
        rw [het] at hR
        have hi := hR.imm rfl
        obtain ⟨ad, vs, hv, hlen, hcell, hL⟩ := hi.ptr
        have hrun := run_loadAt (P := P) (w := w) hs ha hc1 (ad := ad) (vs := vs) hlen hcell
        simp only [Instr.loadAt, Instr.sureAddr, Sem.run_bind, Sem.run_pure, Result.andThen_ok] at hrun
        have hrun2 : (resOne a.tmps (.cell t ty)).run P w = .ok (if ag then .agg vs.toArray else vs.headD undef) w := by
          have hv' : a.tmps.getD t undef = .pointer (some ad) := (tmOf_ne B a hvs).symm.trans hv
          simp only [resOne, hv', asAddr, Sem.run_bind, Sem.run_pure, Result.andThen_ok]
          exact hrun
        refine ⟨_, hrun2, ?_⟩
        cases ag with
        | true =>
          simp only [if_true, Option.some.injEq] at h
          subst h
          exact ⟨.agg vs.toArray cs (by simpa using hL), rfl⟩
        | false =>
          simp only [Bool.false_eq_true, if_false] at h
          cases cs with
          | nil => simp at h
          | cons c cs =>
            simp only [List.head?_cons, Option.some.injEq] at h
            subst h
            match vs, hlen with
            | x :: vs, _ =>
            have := hL.2 0 x c rfl rfl
            exact ⟨.plain this, ok_not_ref this.okC⟩
      · cases h
    · cases h
theorem resSlots_cons (r : ResultVar) (l : List ResultVar) : resSlots (r :: l) = resSlots [r] ++ resSlots l := by cases r <;> rfl
theorem run_resVals (I : Inv B Fz e (tmOf B a) w ob S) : ∀ {rs : List ResultVar} {vs : List PV}, resVals P e rs = some vs →
    ∃ us, (rs.mapM (resOne a.tmps)).run P w = .ok us w ∧ Reps w Fz us vs ((resSlots rs).flatMap ob) ∧ (∀ v ∈ vs, isRef v = false)
  | [], vs, h => by
    simp only [resVals, Option.some.injEq] at h
    subst h
    exact ⟨[], by simp, .nil, by simp⟩
  | r :: rs, vs, h => by
    simp only [resVals] at h
    split at h
    · rename_i v vs' h1 h2
      cases h
      obtain ⟨u, k1, k2, k3⟩ := run_resOne I h1
      obtain ⟨us, j1, j2, j3⟩ := run_resVals I h2
      refine ⟨u :: us, by simp [k1, j1], ?_, fun x hx => ?_⟩
      · rw [resSlots_cons, List.flatMap_append]
        exact .cons k2 j2
      · rcases List.mem_cons.1 hx with rfl | hx
        · exact k3
        · exact j3 x hx
    · cases h
theorem run_results (I : Inv B Fz e (tmOf B a) w ob S) {fn : Func} {vs : List PV} (h : resVals P e fn.results.toList = some vs) :
    ∃ u, (results fn a.tmps).run P w = .ok u w ∧ Rep w Fz u (one vs) ((resSlots fn.results.toList).flatMap ob) ∧ isRef (one vs) = false := by
  obtain ⟨us, h1, h2, h3⟩ := run_resVals I h
  have hm : (fn.results.mapM (resOne a.tmps)).run P w = .ok us.toArray w := by
    rw [Array.mapM_eq_mapM_toList]
    simp [h1]
  refine ⟨_, by rw [results_eq, Sem.run_bind, hm, Result.andThen_ok, Sem.run_pure], ?_, ?_⟩
  · generalize (resSlots fn.results.toList).flatMap ob = bb at h2 ⊢
    cases vs with
    | nil =>
      cases h2
      exact .tup #[] [] [] .nil
    | cons v vs =>
      cases vs with
      | nil =>
        match us, h2.length with
        | [u], _ =>
        simp only [List.size_toArray, List.length_cons, List.length_nil, Nat.zero_add, dite_true]
        cases h2 with
        | cons h hs =>
          cases hs
          rw [List.append_nil]
          exact h
      | cons v' vs =>
        have hl := h2.length
        rw [dif_neg (by simp at hl ⊢; omega)]
        exact .tup us.toArray _ _ (by simpa using h2)
  · cases vs with
    | nil => rfl
    | cons v vs =>
      cases vs with
      | nil => exact h3 v (by simp)
      | cons v' vs => rfl
theorem Reps.frz {w : World} {Fz : Nat → Prop} : ∀ {us : List Value} {vs : List PV} {bs : List Nat}, Reps w Fz us vs bs → bs.Nodup →
    ∃ fz bs1 : List Nat, Reps w (fun b => Fz b ∨ b ∈ fz) us (vs.map frzC) bs1 ∧ (∀ b ∈ fz, b ∈ bs) ∧ (∀ b ∈ bs1, b ∈ bs ∧ b ∉ fz) ∧ bs1.Nodup
  | _, _, _, .nil, _ => ⟨[], [], .nil, by simp, by simp, List.nodup_nil⟩
  | _, _, _, .cons (v := v) (p := p) (b := b0) (bs := bs0) h hs, hnd => by
    rw [List.nodup_append] at hnd
    obtain ⟨fz, bs1, k1, k2, k3, k4⟩ := Reps.frz hs hnd.2.1
    have keep : frzC p = p → ∃ fz bs1 : List Nat, Reps w (fun b => Fz b ∨ b ∈ fz) (v :: _) ((p :: _).map frzC) bs1 ∧ (∀ b ∈ fz, b ∈ b0 ++ bs0) ∧ (∀ b ∈ bs1, b ∈ b0 ++ bs0 ∧ b ∉ fz) ∧ bs1.Nodup := fun hp => by
      refine ⟨fz, b0 ++ bs1, ?_, fun b hb => List.mem_append.2 (.inr (k2 b hb)), fun b hb => ?_, ?_⟩
      · rw [List.map_cons, hp]
        exact .cons (h.mono (fun _ h => .inl h) (fun _ _ => rfl) fun _ _ => rfl) k1
      · rcases List.mem_append.1 hb with hb | hb
        · exact ⟨List.mem_append.2 (.inl hb), fun hf => hnd.2.2 b hb b (k2 b hf) rfl⟩
        · exact ⟨List.mem_append.2 (.inr (k3 b hb).1), (k3 b hb).2⟩
      · rw [List.nodup_append]
        exact ⟨hnd.1, k4, fun x hx y hy hxy => hnd.2.2 x hx y (k3 y hy).1 hxy⟩
    cases p with
    | own st sz xs =>
      refine ⟨b0 ++ fz, bs1, ?_, fun b hb => ?_, fun b hb => ⟨List.mem_append.2 (.inr (k3 b hb).1), fun hf => ?_⟩, k4⟩
      · rw [List.map_cons]
        have hi : Imm w (fun b => Fz b ∨ b ∈ b0 ++ fz) v (.imm sz xs) := by
          cases h with
          | plain h => exact absurd h.okC (by simp [okC])
          | ownNil => exact .imm none 0 0 sz [] (fun _ _ => undef) rfl (Nat.le_refl _) (by simp) (fun i j q hq => by simp [cell2] at hq) (fun i j q hq => by simp [cell2] at hq)
          | own g n cap cur ty _ _ _ c hg hn hc hm hs hu hcell hr =>
            refine .imm _ n cap sz xs c hn hc hu (fun i j q hq => ⟨_, rfl, .inr (by simp), ?_⟩) (fun i j q hq => (hr i j q hq).mono (fun _ h => .inl h) fun _ _ => rfl)
            rw [add_lit]
            simp only [World.cell?, hg, Option.isSome_none, Bool.false_eq_true, if_false, Nat.zero_add]
            exact hcell i j q hq
        have := Reps.cons (Rep.plain hi) (k1.mono (Fz' := fun b => Fz b ∨ b ∈ b0 ++ fz) (fun b hb => hb.imp_right fun hb => List.mem_append.2 (.inr hb)) (fun _ _ => rfl) fun _ _ => rfl)
        exact this
      · rcases List.mem_append.1 hb with hb | hb
        · exact List.mem_append.2 (.inl hb)
        · exact List.mem_append.2 (.inr (k2 b hb))
      · rcases List.mem_append.1 hf with hf | hf
        · exact hnd.2.2 b hf b (k3 b hb).1 rfl
        · exact (k3 b hb).2 hf
    | omap st ks vs =>
      refine ⟨b0 ++ fz, bs1, ?_, fun b hb => ?_, fun b hb => ⟨List.mem_append.2 (.inr (k3 b hb).1), fun hf => ?_⟩, k4⟩
      · rw [List.map_cons]
        exact Reps.cons (Rep.plain (h.map_imm.mono (Fz' := fun b => Fz b ∨ b ∈ b0 ++ fz) (fun b hb => hb.imp_right fun hb => List.mem_append.2 (.inl hb)) fun _ _ => rfl))
          (k1.mono (fun b hb => hb.imp_right fun hb => List.mem_append.2 (.inr hb)) (fun _ _ => rfl) fun _ _ => rfl)
      · rcases List.mem_append.1 hb with hb | hb
        · exact List.mem_append.2 (.inl hb)
        · exact List.mem_append.2 (.inr (k2 b hb))
      · rcases List.mem_append.1 hf with hf | hf
        · exact hnd.2.2 b hf b (k3 b hb).1 rfl
        · exact (k3 b hb).2 hf
    | nils sz =>
      refine ⟨fz, bs1, ?_, fun b hb => List.mem_append.2 (.inr (k2 b hb)), fun b hb => ⟨List.mem_append.2 (.inr (k3 b hb).1), (k3 b hb).2⟩, k4⟩
      rw [List.map_cons]
      have hi : Imm w (fun b => Fz b ∨ b ∈ fz) v (.imm sz []) := by
        have := h.imm rfl
        exact (this.mono (fun _ h => .inl h) fun _ _ => rfl).frzC
      exact .cons (.plain hi) k1
    | _ => exact keep rfl
theorem Post.frz {w w' : World} {Fz : Nat → Prop} {bs : List Nat} {boxes : List Value} {r : PV} {outs : List (List PV)} {u : Value} (h : Post w Fz bs boxes r outs u w') : Post w Fz bs boxes (frzT r) outs u w' := by
  cases r with
  | tup vs =>
    obtain ⟨h1, h2, h3, h4, h5, _, Fz', bsr, bss, k1, k2, k3, k4, k5, k6⟩ := h
    rw [List.nodup_append] at k4
    obtain ⟨arr, hu, hreps⟩ : ∃ arr, u = .tuple arr ∧ Reps w' Fz' arr.toList vs bsr := by
      cases k5 with
      | plain h => exact absurd h.okC (by simp [okC])
      | tup arr _ _ h => exact ⟨arr, rfl, h⟩
    obtain ⟨fz, bs1, j1, j2, j3, j4⟩ := hreps.frz k4.1
    refine ⟨h1, h2, h3, h4, h5, rfl, fun b => Fz' b ∨ b ∈ fz, bs1, bss, fun b hb => .inl (k1 b hb), fun b hb => ?_, fun b hb => ?_, ?_, ?_, ?_⟩
    · rcases hb with hb | hb
      · exact k2 b hb
      · exact .inr (k3 b (List.mem_append.2 (.inl (j2 b hb)))).1
    · rcases List.mem_append.1 hb with hb | hb
      · have := k3 b (List.mem_append.2 (.inl (j3 b hb).1))
        exact ⟨this.1, fun h => h.elim this.2 (j3 b hb).2⟩
      · have := k3 b (List.mem_append.2 (.inr hb))
        exact ⟨this.1, fun h => h.elim this.2 fun hf => k4.2.2 b (j2 b hf) b hb rfl⟩
    · rw [List.nodup_append]
      exact ⟨j4, k4.2.1, fun x hx y hy hxy => k4.2.2 x (j3 x hx).1 y hy hxy⟩
    · rw [hu]; exact .tup arr _ _ j1
    · exact k6.mono (fun _ h => .inl h) (fun _ _ => rfl) fun _ _ => rfl
  | _ => exact h
theorem outs_reps (I : Inv B Fz e tm w ob S) : ∀ {bp : List Nat} {outs : List (List PV)}, outsOf e bp = some outs → Reps w Fz (bp.map tm) (outs.map (PV.box (0, 0))) (bp.flatMap ob)
  | [], outs, h => by
    simp only [outsOf, Option.some.injEq] at h
    subst h
    exact .nil
  | i :: bp, outs, h => by
    simp only [outsOf] at h
    split at h
    · rename_i st cs os h1 h2
      cases h
      have hR := I.slot i (by rw [h1]; rfl)
      rw [h1] at hR
      refine .cons ?_ (outs_reps I h2)
      generalize ob i = obi at hR ⊢
      generalize tm i = tmi at hR ⊢
      cases hR with
      | plain h => cases h
      | box g arr ty _ _ bs hg hr hc => exact .box g arr ty (0, 0) _ bs hg hr hc
    · cases h
theorem boxVals_pos : ∀ {args : List Value} {avs : List PV} (k : Nat) (f : Nat → Value), (∀ i v, args[i]? = some v → f (k + i) = v) → args.length = avs.length → boxVals args avs = (boxPosFrom k avs).map f
  | [], [], _, _, _, _ => rfl
  | [], _ :: _, _, _, _, hl => by simp at hl
  | _ :: _, [], _, _, _, hl => by simp at hl
  | v :: args, q :: avs, k, f, hf, hl => by
    have ih := boxVals_pos (args := args) (avs := avs) (k + 1) f (fun i v hv => by rw [← hf (i + 1) v (by simpa using hv)]; congr 1; omega) (by simpa using hl)
    have h0 := hf 0 v rfl
    cases q <;> simp only [boxVals, boxPosFrom, List.map_cons] <;> first | exact ih | (rw [ih, ← h0]; rfl)
theorem boxPos_box : ∀ {avs : List PV} {k i : Nat}, i ∈ boxPosFrom k avs → k ≤ i ∧ i < k + avs.length
  | [], k, i, h => by simp [boxPosFrom] at h
  | q :: avs, k, i, h => by
    have key : i ∈ boxPosFrom (k + 1) avs → k ≤ i ∧ i < k + (q :: avs).length := fun h => by
      have := boxPos_box h
      simp only [List.length_cons]; omega
    cases q with
    | box =>
      simp only [boxPosFrom, List.mem_cons] at h
      rcases h with rfl | h
      · simp
      · exact key h
    | _ => exact key h
/-- A function that held ranges over functions leaves. -/
theorem leaves_marks {fn : Func} {tmps : Array Value} {R : Ending → World → Prop} : ∀ (ds : List Deferred) (w : World), (∀ d ∈ ds, ∃ D, d = { target := .collected D, args := #[] }) → (dsOf ds).Nodup →
    Inv (B.wd (dsOf ds)) Fz e tm w ob S → (∀ w', Inv (B.wd []) Fz e tm w' ob S → ∃ v, (results fn tmps).run P w' = .ok v w' ∧ R (.returned v) w') → LeavesInM Fence.wide 0 P fn tmps R ds .returning w
  | [], w, _, _, I, h => h w I
  | d :: ds, w, hd, hn, I, h => by
    obtain ⟨D, rfl⟩ := hd d (by simp)
    have hn : D ∉ dsOf ds ∧ (dsOf ds).Nodup := List.nodup_cons.1 hn
    have haw : Away D (.deferred (some [])) (B.wd (dsOf ds)) w Fz ob := I.dfr D (List.mem_cons_self ..)
    have I' : Inv (B.wd (dsOf ds)) Fz e tm w ob S := { I with dfr := fun D' hD' => I.dfr D' (List.mem_cons_of_mem _ hD') }
    exact ⟨by simp, .inl ⟨D, _, rfl, run_takeDeferred haw.1, leaves_marks ds _ (fun d hd' => hd d (List.mem_cons_of_mem _ hd')) hn.2 (I'.putOther (.deferred none) haw hn.1) h⟩⟩
/-- A function's body, once: its contract. -/
theorem body_meetsG (hm : P.follows .mixedOrders = true) (hM : ∀ g, Meets P g (Φ g)) {f : FuncId} {fn : Func} (hf : P.funcs[f]? = some fn) {c : Code} (hc : fn.body = some c) (hn : fn.name ≠ "runtime.NumGoroutine")
    (keep : List Nat) (lv : Nat → List Nat) (n : Nat) {fin : Env → List Nat → Option (PV × List (List PV))}
    (hfn : ∀ e bp r outs, fin e bp = some (r, outs) → ∃ u vs, resFrz e fn.results.toList = some u ∧ resVals P (apply u e) fn.results.toList = some vs ∧ outsOf (apply u e) bp = some outs ∧ (nodupB (u.map (·.1)) && nodupB (resSlots fn.results.toList ++ bp)) = true ∧
      ∀ {w w' : World} {Fz : Nat → Prop} {bs : List Nat} {boxes : List Value} {u : Value}, Post w Fz bs boxes (one vs) outs u w' → Post w Fz bs boxes r outs u w') :
    MeetsN P f fun avs => if avs.length ≤ fn.ntmps ∧ fn.ntmps ≤ VS ∧ codeOK fn.ntmps (boxPos avs) c = true ∧ avs.all stamp0 = true then
      match exec P Φ keep lv n 0 c (0, avs.zipIdx.map fun q => (q.2, q.1)) with
      | some (.exit _, _) => none
      | some (_, _, e) => fin (lookup e) (boxPos avs)
      | none => none
    else none := by
  intro w Fz args avs bs r outs hgl hfz hnd hbs hreps hF o a0 next Q hnext
  simp only at hF
  split at hF
  · rename_i hcond
    obtain ⟨hlen, hnt, hcode, hst⟩ := hcond
    have henter : (callFunc f args).run P w = .ok (.enter f args) w := by
      simp [callFunc, hf, hn, hc]
    rw [henter, Oper.upon_enter]
    have hal : args.toList.length = avs.length := hreps.length
    have has : args.size = avs.length := by rw [← hal]; simp
    obtain ⟨g, g1, g2, g3, g4, g5⟩ := hreps.blocks hnd
    let act : Act := { tmps := args ++ Array.replicate (fn.ntmps - args.size) undef, defers := [] }
    let C : Ctx := { B := ⟨w, bs, Fz, undef, []⟩, nt := fn.ntmps, K := fun t => t ∈ boxPos avs, T := fun t => args.getD t undef }
    let B : Base := ⟨w, bs, Fz, undef, []⟩
    have htm : ∀ i, i < args.size → tmOf B act i = args.getD i undef := by
      intro i hi
      rw [tmOf_ne B act (by omega)]
      show (args ++ Array.replicate (fn.ntmps - args.size) undef).getD i undef = _
      rw [Array.getD_eq_getD_getElem?, Array.getD_eq_getD_getElem?, Array.getElem?_append_left hi]
    have hsat : Sat C (fun s => s.1 ≤ 0) (lookup (avs.zipIdx.map fun q => (q.2, q.1))) act w := by
      refine ⟨⟨Fz, g, ?_⟩, ?_, hnt, ⟨fun _ h => (by cases h), List.nodup_nil, fun _ => rfl⟩, fun t ht => ?_⟩
      · refine { rep := ?_, glob := hgl, nodup := g3, disj := g4, notFz := fun s b hb => (hbs b (g5 s b hb)).1, lt := fun s b hb => (hbs b (g5 s b hb)).2, fzlt := hfz, mine := fun s b hb => .inl (g5 s b hb), fz0 := fun _ h => h, fzo := fun _ h => .inl h,
                 stamps := ?_, os := rfl, tape := rfl, output := rfl, size := Nat.le_refl _, frame := fun _ _ _ => rfl, dfr := fun _ h => (by cases h) }
        · intro s
          unfold SlotRep
          rw [lookup_args]
          by_cases hs : s < avs.length
          · have h1 : avs[s]? = some avs[s] := List.getElem?_eq_getElem hs
            have h2 : args.toList[s]? = some (args.getD s undef) := by
              rw [Array.getD_eq_getD_getElem?]
              simp [show s < args.size by omega]
            have hR := g1 s _ _ h2 h1
            rw [h1, Option.getD_some, htm s (by omega)]
            generalize args.getD s undef = av at hR ⊢
            generalize g s = gs at hR ⊢
            cases hv : avs[s] with
            | dead =>
              rw [hv] at hR
              rw [if_pos (show isRef .dead = true from rfl)]
              cases hR with
              | plain h => cases h
              | dead v => exact ⟨rfl, trivial⟩
            | loc => rw [hv] at hR; cases hR with | plain h => cases h
            | eloc => rw [hv] at hR; cases hR with | plain h => cases h
            | snap => rw [hv] at hR; cases hR with | plain h => cases h
            | back => rw [hv] at hR; cases hR with | plain h => cases h
            | pvar => rw [hv] at hR; cases hR with | plain h => cases h
            | mref => rw [hv] at hR; cases hR with | plain h => cases h
            | _ => rw [hv] at hR; exact hR
          · rw [List.getElem?_eq_none (by omega), Option.getD_none, if_pos (show isRef .dead = true from rfl)]
            exact ⟨g2 s (by omega), trivial⟩
        · intro s st hs
          rw [lookup_args] at hs
          by_cases hlt : s < avs.length
          · rw [List.getElem?_eq_getElem hlt, Option.getD_some] at hs
            rw [List.all_eq_true] at hst
            have := hst _ (List.getElem_mem hlt)
            unfold stamp0 at this
            rw [List.all_eq_true] at this
            have := this st hs
            simp at this
            omega
          · rw [List.getElem?_eq_none (by omega), Option.getD_none] at hs
            simp [stampsOf, stamps1] at hs
      · show (args ++ Array.replicate (fn.ntmps - args.size) undef).size = fn.ntmps
        simp; omega
      · have := (boxPos_box ht).2
        exact htm t (by omega)
    have fini : ∀ (ex : Ex) (rid : Nat) (e : List (Nat × PV)), exec P Φ keep lv n 0 c (0, avs.zipIdx.map fun q => (q.2, q.1)) = some (ex, rid, e) → (∀ id, ex ≠ .exit id) → fin (lookup e) (boxPos avs) = some (r, outs) →
        Calls P f args w fun
          | .returned v, w'' => next (a0.put o.dst v) w''
          | .panicked chain, w'' => Q (.panic chain) a0 w''
          | .outgrown, _ => LetsOut Q := by
      intro ex rid e hex hne hfin
      refine callsIn_wide.1 (callsIn_of_wp_marks (F := Fence.wide) (n := 0) hf hc trivial ?_)
      refine code_sound hm hM lv n c C (boxPos avs) rfl 0 0 _ 0 rid _ e ex act w (.inl rfl) hcode hex hsat fun a' w' H' => ?_
      obtain ⟨u, vs, hu, hvs, hos, hnd2, hP⟩ := hfn _ _ _ _ hfin
      rw [Bool.and_eq_true, nodupB_iff, nodupB_iff] at hnd2
      obtain ⟨⟨Fz1, ob1, I0⟩, k1, _, ⟨k2, k4, _⟩, k3⟩ := H'
      have hout := leaves_marks (P := P) (fn := fn) (tmps := a'.tmps) (R := fun
        | .returned v, w'' => next (a0.put o.dst v) w''
        | .panicked chain, w'' => Q (.panic chain) a0 w''
        | .outgrown, _ => LetsOut Q) a'.defers w' k2 k4 I0 fun w' I1 => ?_
      · cases ex with
        | exit id => exact absurd rfl (hne id)
        | normal => exact hout
        | ret => exact hout
      obtain ⟨Fz2, ob2, I2⟩ := Inv.resFrz fn.results.toList [] Fz1 ob1 u I1 (fun q hq => by cases hq) hu (by simpa using hnd2.1)
      rw [List.nil_append] at I2
      obtain ⟨v, j1, j2, j3⟩ := run_results I2 hvs
      have hbx := outs_reps I2 hos
      have hflat := I2.flat_nodup ((resSlots fn.results.toList ++ boxPos avs).map fun i => (i, ((0, 0) : Stamp))) (by simpa [Function.comp_def] using hnd2.2)
      have hpost : Post w Fz bs (boxVals args.toList avs) (one vs) outs v w' := by
        refine ⟨I2.os, I2.tape, I2.output, I2.size, fun b hb hn => I2.frame b hb hn, j3, Fz2, (resSlots fn.results.toList).flatMap ob2, (boxPos avs).flatMap ob2, fun b hb => I2.fz0 b hb, fun b hb => ?_, fun b hb => ?_, ?_, j2, ?_⟩
        · rcases I2.fzo b hb with h | h | h
          · exact .inl h
          · exact .inr (.inl h)
          · exact .inr (.inr ⟨h, I2.fzlt b hb⟩)
        · rw [← List.flatMap_append] at hb
          obtain ⟨i, hi, hb⟩ := List.mem_flatMap.1 hb
          refine ⟨?_, I2.notFz i b hb⟩
          rcases I2.mine i b hb with h | h
          · exact .inl h
          · exact .inr ⟨h, I2.lt i b hb⟩
        · rw [← List.flatMap_append]
          simpa [List.flatMap_map] using hflat
        · have hmap : (boxPos avs).map (tmOf B a') = boxVals args.toList avs := by
            rw [boxVals_pos (args := args.toList) (avs := avs) 0 (fun t => args.getD t undef) (fun i v hv => by
              rw [Nat.zero_add, Array.getD_eq_getD_getElem?]
              have : args[i]? = some v := by simpa using hv
              rw [this]; rfl) hal]
            exact List.map_congr_left fun t ht => k3 t ht
          rw [← hmap]
          exact hbx
      exact ⟨v, j1, hnext v w' (hP hpost)⟩
    split at hF
    · cases hF
    · rename_i ex rid e hne hex
      exact fini ex rid e hex (fun id h => hne id h) hF
    · cases hF
  · cases hF
theorem body_meets (hm : P.follows .mixedOrders = true) (hM : ∀ g, Meets P g (Φ g)) {f : FuncId} {fn : Func} (hf : P.funcs[f]? = some fn) {c : Code} (hc : fn.body = some c) (hn : fn.name ≠ "runtime.NumGoroutine")
    (keep : List Nat) (lv : Nat → List Nat) (n : Nat) : MeetsN P f (funcBody P Φ keep lv n fn.ntmps c fn.results.toList) := by
  refine body_meetsG hm hM hf hc hn keep lv n (fin := fun e bp => finish P fn.results.toList bp e) fun e bp r outs h => ?_
  unfold finish at h
  split at h
  · cases h
  · rename_i u hu
    split at h
    · rename_i vs os hvs hos
      split at h
      · rename_i hnd
        cases h
        exact ⟨u, vs, hu, hvs, hos, hnd, fun h => by
          obtain ⟨h1, h2, h3, h4, h5, h6, Fz', bsr, bss, k1, k2, k3, k4, k5, k6⟩ := h
          exact Post.frz ⟨h1, h2, h3, h4, h5, isRef_stmo (0, 0) _ h6, Fz', bsr, bss, k1, k2, k3, k4, k5.stmo (0, 0), k6⟩⟩
      · cases h
    · cases h
theorem none_meets (f : FuncId) (hB : ∀ g', bkG f = some g' → MeetsB P f g' ∧ IterB P g') : Meets P f (fun _ => none) :=
  ⟨fun _ _ _ _ _ _ _ _ _ _ _ _ _ _ h => (by cases h), fun _ => (by intro w bs A n cap sz xs off len A' cap' args avs r new _ _ _ _ _ _ _ _ _ h; cases h), fun _ _ => (by intro w bs A n cap sz xs off len A' cap' m _ _ _ _ _ _ _ h; cases h), hB⟩
theorem funcS_meets (hm : P.follows .mixedOrders = true) (hM : ∀ g, Meets P g (Φ g)) (hB : ∀ g g', bkG g = some g' → MeetsB P g g' ∧ IterB P g') (keep : FuncId → List Nat) (lv : FuncId → Nat → List Nat) (n : Nat) (f : FuncId) : Meets P f (funcS P Φ keep lv n f) := by
  cases hf : P.funcs[f]? with
  | none =>
    have : funcS P Φ keep lv n f = fun _ => none := by funext avs; simp [funcS, hf]
    rw [this]; exact none_meets f (hB f)
  | some fn =>
    cases hc : fn.body with
    | none =>
      have : funcS P Φ keep lv n f = fun _ => none := by funext avs; simp [funcS, hf, hc]
      rw [this]; exact none_meets f (hB f)
    | some c =>
      by_cases hn : fn.name = "runtime.NumGoroutine" ∨ (wrB f || prB f) = true
      · have : funcS P Φ keep lv n f = fun _ => none := by funext avs; simp only [funcS, hf, hc, if_pos hn]
        rw [this]; exact none_meets f (hB f)
      · have : funcS P Φ keep lv n f = funcBody P Φ (keep f) (lv f) n fn.ntmps c fn.results.toList := by funext avs; simp only [funcS, hf, hc, if_neg hn]
        rw [this]; exact ⟨fun _ _ => body_meets hm hM hf hc (fun h => hn (.inl h)) _ _ _, fun h => absurd (.inr (by rw [h]; rfl)) hn, fun _ h => absurd (.inr (by rw [h]; simp)) hn, hB f⟩
end
end Go.PE
