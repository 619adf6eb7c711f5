/-
  A part of the proof that the law's function returns true and leaves its arguments as they were, for every input (no condition): own lemmas of the proof, in the order of their use.
-/
import Derived.Test.YtggpmnlmbfogeaaGreatDoorX11
set_option linter.all false
namespace Go.PE
open Go.RowKit
section
variable {P : Program} {Φ : FuncId → List PV → Option (PV × List (List PV))}
def envV (sz : Nat) (xs : List (List PV)) (off len : Nat) (avs : List PV) : List (Nat × PV) :=
 (VS, .own (0, 0) sz xs) :: (0, .snap VS none (0, 0) off len) :: (avs.zipIdx 1).map fun q => (q.2, q.1)
theorem lookup_args1 (avs : List PV) (s : Nat) : lookup ((avs.zipIdx 1).map fun q => (q.2, q.1)) s = if 1 ≤ s then (avs[s - 1]?).getD .dead else .dead := by
 have : ∀ (l : List PV) (k s : Nat), lookup ((l.zipIdx k).map fun q => (q.2, q.1)) s = if k ≤ s then (l[s - k]?).getD .dead else .dead := by
  intro l
  induction l with
  | nil => intro k s; simp [lookup]
  | cons v l ih =>
   intro k s
   rw [List.zipIdx_cons, List.map_cons, lookup, ih]
   by_cases h : s = k
   ·subst h; simp
   ·rw [if_neg h]
    by_cases hk : k ≤ s
    ·rw [if_pos (by omega), if_pos hk, show s - k = (s - (k + 1)) + 1 by omega, List.getElem?_cons_succ]
    ·rw [if_neg (by omega), if_neg hk]
 exact this avs 1 s
theorem Reps.nil_get {w : World} {Fz : Nat → Prop} : ∀ {vs : List Value} {ps : List PV} {bs : List Nat}, Reps w Fz vs ps bs → bs = [] → ∀ (i : Nat) (v : Value) (p : PV), vs[i]? = some v → ps[i]? = some p → Rep w Fz v p []
 | _, _, _, .nil, _, i, v, p, h, _ => by simp at h
 | _, _, _, .cons (b := b0) (bs := bs0) h hs, hb, i, v, p, hv, hp => by
  rw [List.append_eq_nil_iff] at hb
  cases i with
  | zero =>
   simp only [List.getElem?_cons_zero, Option.some.injEq] at hv hp
   subst hv hp
   rw [hb.1] at h
   exact h
  | succ i => exact Reps.nil_get hs hb.2 i v p (by simpa using hv) (by simpa using hp)
theorem bodyV (hm : P.follows .mixedOrders = true) (hM : ∀ g, Meets P g (Φ g)) {f : FuncId} {fn : Func} (hf : P.funcs[f]? = some fn) {c : Code} (hc : fn.body = some c) (hn : fn.name ≠ "runtime.NumGoroutine")
    (keep : List Nat) (lv : Nat → List Nat) (N : Nat) {w : World} {bs : List Nat} {A : Option Addr} {n cap sz : Nat} {xs : List (List PV)} {off len : Nat} {A' : Option Addr} {cap' : Nat} {args : List Value} {avs : List PV}
    (hrep : Rep w (fun b => b < w.heap.size ∧ b ∉ bs) (.slice A n cap) (.own (0, 0) sz xs) bs) (hnd : bs.Nodup) (hlt : ∀ b ∈ bs, b < w.heap.size) (hfit : off + len ≤ xs.length) (hpart : PartOf A cap sz off len A' cap')
    (hargs : Reps w (fun b => b < w.heap.size ∧ b ∉ bs) args avs []) (hgl : Glob w (fun b => b < w.heap.size ∧ b ∉ bs))
    (hnt : fn.ntmps ≤ VS) (hlen : avs.length + 1 ≤ fn.ntmps) (hcode : codeOK fn.ntmps [] c = true) (hst : avs.all stamp0 = true)
    {ex : Ex} {rid : Nat} {e : List (Nat × PV)} (hex : exec P Φ keep lv N 0 c (0, envV sz xs off len avs) = some (ex, rid, e)) (hne : ∀ id, ex ≠ .exit id)
    {st' : Stamp} {xs' : List (List PV)} (hvs : lookup e VS = .own st' sz xs')
    (op : Oper) (a0 : Act) (next : Act → World → Prop) (Q : Exit → Act → World → Prop)
    (hnext : ∀ (B : Base) (a : Act) (w' : World) (Fz' : Nat → Prop) (ob : Nat → List Nat) (S : Stamp → Prop), Inv B Fz' (lookup e) (tmOf B a) w' ob S → B.vv = .slice A n cap → RowPost w bs A n cap sz xs' w' →
      ∃ u, (results fn a.tmps).run P w' = .ok u w' ∧ next (a0.put op.dst u) w') :
    op.upon P a0 next Q ((callFunc f (.slice A' len cap' :: args).toArray).run P w) := by
  have henter : (callFunc f (.slice A' len cap' :: args).toArray).run P w = .ok (.enter f (.slice A' len cap' :: args).toArray) w := by
    simp [callFunc, hf, hn, hc]
  rw [henter, Oper.upon_enter]
  have hal : args.length = avs.length := hargs.length
  generalize hargA : (.slice A' len cap' :: args : List Value).toArray = argA
  have has : argA.size = avs.length + 1 := by rw [← hargA]; simp [hal]
  have hg0 : argA.getD 0 undef = .slice A' len cap' := by rw [← hargA]; rfl
  have hgs : ∀ i v, args[i]? = some v → argA.getD (i + 1) undef = v := by
    intro i v hv
    rw [← hargA, Array.getD_eq_getD_getElem?]
    simp [hv]
  let B : Base := ⟨w, bs, fun b => b < w.heap.size ∧ b ∉ bs, .slice A n cap⟩
  let act : Act := { tmps := argA ++ Array.replicate (fn.ntmps - argA.size) undef, defers := [] }
  let C : Ctx := { B := B, nt := fn.ntmps, K := fun t => t ∈ ([] : List Nat), T := fun _ => undef }
  have htm : ∀ i, i < argA.size → tmOf B act i = argA.getD i undef := by
    intro i hi
    rw [tmOf_ne B act (by omega)]
    show (argA ++ Array.replicate (fn.ntmps - argA.size) undef).getD i undef = _
    rw [Array.getD_eq_getD_getElem?, Array.getD_eq_getD_getElem?, Array.getElem?_append_left hi]
  have hvv : tmOf B act VS = .slice A n cap := if_pos rfl
  have h0VS : (0 : Nat) ≠ VS := by decide
  have l0 : lookup (envV sz xs off len avs) VS = .own (0, 0) sz xs := if_pos rfl
  have l1 : lookup (envV sz xs off len avs) 0 = .snap VS none (0, 0) off len := by
    unfold envV
    rw [lookup, if_neg h0VS, lookup, if_pos rfl]
  have l2 : ∀ s, s ≠ VS → lookup (envV sz xs off len avs) (s + 1) = if s + 1 = VS then .own (0, 0) sz xs else (avs[s]?).getD .dead := by
    intro s _
    unfold envV
    rw [lookup]
    by_cases h : s + 1 = VS
    · rw [if_pos h, if_pos h]
    · rw [if_neg h, if_neg h, lookup, if_neg (by omega), lookup_args1, if_pos (by omega)]
      rfl
  have hsat : Sat C (fun s => s.1 ≤ 0) (lookup (envV sz xs off len avs)) act w := by
    refine ⟨⟨fun b => b < w.heap.size ∧ b ∉ bs, fun s => if s = VS then bs else [], ?_⟩, ?_, hnt, rfl, fun t ht => by cases ht⟩
    · refine { rep := ?_, glob := hgl, nodup := ?_, disj := ?_, notFz := ?_, lt := ?_, fzlt := fun b hb => hb.1, mine := ?_, fz0 := fun _ h => h, fzo := fun _ h => .inl h,
               stamps := ?_, os := rfl, tape := rfl, output := rfl, size := Nat.le_refl _, frame := fun _ _ _ => rfl }
      · intro s
        unfold SlotRep
        by_cases hs : s = VS
        · subst hs
          rw [l0, if_neg (by simp [isRef]), if_pos rfl, hvv]
          exact hrep
        · rw [if_neg hs]
          cases s with
          | zero =>
            rw [l1, if_pos (show isRef (.snap VS none (0, 0) off len) = true from rfl), htm 0 (by omega), hg0]
            refine ⟨rfl, fun sz2 xs2 h2 => ?_⟩
            rw [l0, rowIf_of rfl] at h2
            cases h2
            exact ⟨hfit, A, n, cap, A', cap', hvv, rfl, hpart.1, hpart.2.1, hpart.2.2⟩
          | succ s =>
            by_cases hsv : s = VS
            · have hx : lookup (envV sz xs off len avs) (s + 1) = .dead := by
                unfold envV
                rw [lookup, if_neg hs, lookup, if_neg (by omega), lookup_args1, if_pos (by omega)]
                rw [List.getElem?_eq_none (by omega)]
                rfl
              rw [hx, if_pos (show isRef .dead = true from rfl)]
              exact ⟨rfl, trivial⟩
            · rw [l2 s hsv, if_neg hs]
              by_cases hlt' : s < avs.length
              · have h1 : avs[s]? = some avs[s] := List.getElem?_eq_getElem hlt'
                have h2 : args[s]? = some args[s] := List.getElem?_eq_getElem (by omega)
                have hR := hargs.nil_get rfl s _ _ h2 h1
                rw [h1, Option.getD_some, htm (s + 1) (by omega), hgs s _ h2]
                generalize args[s] = av at hR ⊢
                cases hv : avs[s] with
                | dead =>
                  rw [if_pos (show isRef .dead = true from rfl)]
                  exact ⟨rfl, trivial⟩
                | loc => rw [hv] at hR; cases hR with | plain h => cases h
                | eloc => rw [hv] at hR; cases hR with | plain h => cases h
                | snap => rw [hv] at hR; cases hR with | plain h => cases h
                | _ => rw [hv] at hR; exact hR
              · rw [List.getElem?_eq_none (by omega), Option.getD_none, if_pos (show isRef .dead = true from rfl)]
                exact ⟨rfl, trivial⟩
      · intro s
        show (if s = VS then bs else []).Nodup
        split
        · exact hnd
        · exact List.nodup_nil
      · intro s t hst2 b hb hb'
        by_cases h1 : s = VS
        · by_cases h2 : t = VS
          · exact hst2 (h1.trans h2.symm)
          · simp [h2] at hb'
        · simp [h1] at hb
      · intro s b hb hf2
        by_cases h1 : s = VS
        · simp only [h1, if_true] at hb; exact hf2.2 hb
        · simp [h1] at hb
      · intro s b hb
        by_cases h1 : s = VS
        · simp only [h1, if_true] at hb; exact hlt b hb
        · simp [h1] at hb
      · intro s b hb
        by_cases h1 : s = VS
        · simp only [h1, if_true] at hb; exact .inl hb
        · simp [h1] at hb
      · intro s st hs
        by_cases h1 : s = VS
        · subst h1
          rw [l0] at hs
          simp only [stampsOf, stamps1, List.mem_singleton] at hs
          subst hs
          exact Nat.le_refl _
        · cases s with
          | zero =>
            rw [l1] at hs
            simp only [stampsOf, List.mem_singleton] at hs
            subst hs
            exact Nat.le_refl _
          | succ s =>
            by_cases hlt' : s < avs.length
            · rw [l2 s (by omega), if_neg h1, List.getElem?_eq_getElem hlt', Option.getD_some] at hs
              rw [List.all_eq_true] at hst
              have := hst _ (List.getElem_mem hlt')
              unfold stamp0 at this
              rw [List.all_eq_true] at this
              have := this st hs
              simp at this
              omega
            · have hx : lookup (envV sz xs off len avs) (s + 1) = .dead := by
                unfold envV
                rw [lookup, if_neg h1, lookup, if_neg (by omega), lookup_args1, if_pos (by omega)]
                rw [List.getElem?_eq_none (by omega)]
                rfl
              rw [hx] at hs
              simp [stampsOf, stamps1] at hs
    · show (argA ++ Array.replicate (fn.ntmps - argA.size) undef).size = fn.ntmps
      simp; omega
  refine calls_of_wp hf hc ?_
  refine code_sound (C := C) hm hM (ks := []) rfl lv N c 0 _ 0 rid _ e ex act w hcode hex hsat fun a' w' H' => ?_
  obtain ⟨⟨Fz1, ob1, I1⟩, k1, _, k2, k3⟩ := H'
  have hR := I1.slot VS (by rw [hvs]; rfl)
  rw [hvs] at hR
  have hvv' : tmOf B a' VS = .slice A n cap := if_pos rfl
  have hR0 : Rep w' Fz1 (.slice A n cap) (.own st' sz xs') (ob1 VS) := by rw [← hvv']; exact hR
  have hob : ob1 VS = bs := by
    generalize ob1 VS = o1 at hR0
    cases hrep with
    | plain h => exact absurd h.okC (by simp [okC])
    | ownNil =>
      cases hR0 with
      | plain h => exact absurd h.okC (by simp [okC])
      | ownNil => rfl
    | own g _ _ cur ty _ _ _ cf hg hn2 hcp hm2 hs hu hcell hr =>
      cases hR0 with
      | plain h => exact absurd h.okC (by simp [okC])
      | own => rfl
  have hpost : RowPost w bs A n cap sz xs' w' := by
    refine ⟨I1.os, I1.tape, I1.output, I1.size, fun b hb hn2 => I1.frame b hb hn2, Fz1, ?_⟩
    rw [← hob]
    have h0 := hR0
    generalize ob1 VS = o1 at h0 ⊢
    cases h0 with
    | plain h => exact absurd h.okC (by simp [okC])
    | ownNil => exact .ownNil (0, 0) sz
    | own g _ _ cur ty _ _ _ cf hg hn2 hcp hm2 hs hu hcell hr => exact .own g _ _ cur ty (0, 0) sz _ cf hg hn2 hcp hm2 hs hu hcell hr
  obtain ⟨u, j1, j2⟩ := hnext B a' w' Fz1 ob1 _ I1 rfl hpost
  cases ex with
  | exit id => exact absurd rfl (hne id)
  | normal => exact ⟨k2, u, j1, j2⟩
  | ret => exact ⟨k2, u, j1, j2⟩
def endV (td : TypeId → TD) (rs : List ResultVar) (sz : Nat) (r : PV) (xs' : List (List PV)) : Ex → St → Prop
 | .exit _, _ => False
 | _, s => (∃ st, lookup s.2 VS = .own st sz xs') ∧ (resValsT td (lookup s.2) rs).map one = some r
def endP (rs : List ResultVar) (sz : Nat) (xs : List (List PV)) (off m : Nat) : Ex → St → Prop
 | .exit _, _ => False
 | _, s => ∃ st t, lookup s.2 VS = .own st sz xs ∧ rs = [.tmp t] ∧ opv (lookup s.2) (.tmp t) = .snap VS none st off m
theorem resVals_eq (P : Program) (e : Env) : ∀ l, resValsT (tdOf P) e l = resVals P e l
 | [] => rfl
 | r :: l => by
  have h1 : resValT (tdOf P) e r = resVal P e r := by cases r <;> rfl
  rw [resValsT, resVals, h1, resVals_eq P e l]
  rfl
theorem meetsW_of {td : TypeId → TD} (htd : td = tdOf P) (hm : P.follows .mixedOrders = true) (hM : ∀ g, Meets P g (Φ g)) {f : FuncId} {fn : Func} (hf : P.funcs[f]? = some fn) {c : Code} (hc : fn.body = some c) (hn : fn.name ≠ "runtime.NumGoroutine")
  (keep : List Nat) (lv : Nat → List Nat) (N : Nat) {F : List PV → Option (PV × List (List PV))} (hw : wrB f = true) (hnt : Nat.ble fn.ntmps VS = true) (hcode : codeOK fn.ntmps [] c = true)
  (h : ∀ (sz : Nat) (xs : List (List PV)) (off len : Nat) (avs : List PV) (r : PV) (new : List (List PV)), F (.own (0, 0) sz ((xs.drop off).take len) :: avs) = some (r, new) → off + len ≤ xs.length → 0 < len → xs.length ≤ 9223372036854775807 → flat1 xs = true →
   avs.length + 1 ≤ fn.ntmps ∧ avs.all stamp0 = true ∧ W P Φ keep lv N 0 c (0, envV sz xs off len avs) (endV td fn.results.toList sz r (xs.take off ++ new ++ xs.drop (off + len)))) : Meets P f F := by
 subst htd
 refine ⟨fun h1 _ => (by rw [hw] at h1; cases h1), fun _ => ?_, fun h1 _ => (by rw [hw] at h1; cases h1)⟩
 intro w bs A n cap sz xs off len A' cap' args avs r new hrep hnd hlt hfl hfit hpos hpart hargs hgl hF hnl hnew op a next Q hnext
 have hmx : xs.length ≤ 9223372036854775807 := by
  obtain ⟨_, _, _, h1, h2, _, h3⟩ := hrep.own_len
  have : maxLen ≤ 9223372036854775807 := by decide
  omega
 obtain ⟨h1, h2, ⟨ex, ⟨rid, e⟩, h3, h4⟩⟩ := h sz xs off len avs r new hF hfit hpos hmx hfl
 have h4' : (∀ id, ex ≠ .exit id) ∧ (∃ st, lookup e VS = .own st sz (xs.take off ++ new ++ xs.drop (off + len))) ∧ (resValsT (tdOf P) (lookup e) fn.results.toList).map one = some r := by
  cases ex with
  | exit id => exact h4.elim
  | normal => exact ⟨fun _ h => (by cases h), h4⟩
  | ret => exact ⟨fun _ h => (by cases h), h4⟩
 obtain ⟨hne, ⟨st, hvs⟩, hres⟩ := h4'
 refine bodyV hm hM hf hc hn keep lv N hrep hnd hlt hfit hpart hargs hgl (Nat.le_of_ble_eq_true hnt) h1 hcode h2 h3 hne hvs op a next Q fun B a' w' Fz' ob S I hB hpost => ?_
 rw [resVals_eq] at hres
 obtain ⟨vs, hvs2, rfl⟩ := Option.map_eq_some_iff.1 hres
 obtain ⟨u, k1, k2, k3⟩ := run_results I hvs2
 exact ⟨u, k1, hnext u w' hpost fun hsc => scalar_rep k2 hsc _⟩
theorem meetsP_of (hm : P.follows .mixedOrders = true) (hM : ∀ g, Meets P g (Φ g)) {f : FuncId} {fn : Func} (hf : P.funcs[f]? = some fn) {c : Code} (hc : fn.body = some c) (hn : fn.name ≠ "runtime.NumGoroutine")
  (keep : List Nat) (lv : Nat → List Nat) (N : Nat) {F : List PV → Option (PV × List (List PV))} (hw : wrB f = false) (hw2 : prB f = true) (hnt : Nat.ble fn.ntmps VS = true) (hlen : Nat.ble 1 fn.ntmps = true) (hcode : codeOK fn.ntmps [] c = true)
  (h : ∀ (sz : Nat) (xs : List (List PV)) (off len : Nat) (m : Int), F [.own (0, 0) sz ((xs.drop off).take len)] = some (.int .i64 m, []) → off + len ≤ xs.length → 0 ≤ m → m ≤ len → flat1 xs = true →
   W P Φ keep lv N 0 c (0, envV sz xs off len []) (endP fn.results.toList sz xs off m.toNat)) : Meets P f F := by
 refine ⟨fun _ h1 => (by rw [hw2] at h1; cases h1), fun h1 => (by rw [hw] at h1; cases h1), fun _ _ => ?_⟩
 intro w bs A n cap sz xs off len A' cap' m hrep hnd hlt hfl hfit hpart hgl hF h0 hm2 op a next Q hnext
 obtain ⟨ex, ⟨rid, e⟩, h3, h4⟩ := (h sz xs off len m hF hfit h0 hm2 hfl).out
 have h4' : (∀ id, ex ≠ .exit id) ∧ ∃ st t, lookup e VS = .own st sz xs ∧ fn.results.toList = [.tmp t] ∧ opv (lookup e) (.tmp t) = .snap VS none st off m.toNat := by
  cases ex with
  | exit id => exact h4.elim
  | normal => exact ⟨fun _ h => (by cases h), h4⟩
  | ret => exact ⟨fun _ h => (by cases h), h4⟩
 obtain ⟨hne, st, t, hvs, hrs, ht⟩ := h4'
 refine bodyV (args := []) (avs := []) hm hM hf hc hn keep lv N hrep hnd hlt hfit hpart .nil hgl (Nat.le_of_ble_eq_true hnt) (Nat.le_of_ble_eq_true hlen) hcode rfl h3 hne hvs op a next Q fun B a' w' Fz' ob S I hB hpost => ?_
 rcases opv_tmp (lookup e) t with ⟨h5, _⟩ | ⟨h5, h6⟩
 ·rw [h5] at ht; cases ht
 rw [h5] at ht
 have hR := I.ref t (by rw [ht]; rfl)
 rw [ht] at hR
 obtain ⟨_, A1, n1, cap1, A2, cap2, hpv, hu, hlc, hoff, hA2⟩ := hR sz xs (by rw [hvs]; exact rowIf_of rfl)
 have hpv' : tmOf B a' VS = .slice A1 n1 cap1 := hpv
 have hvv : tmOf B a' VS = .slice A n cap := (if_pos rfl : tmOf B a' VS = B.vv).trans hB
 rw [hvv] at hpv'
 cases hpv'
 refine ⟨.slice A2 m.toNat cap2, ?_, hnext A2 cap2 w' hpost ⟨hlc, hoff, hA2⟩⟩
 rw [tmOf_ne B a' h6] at hu
 have hm3 : (fn.results.mapM (resOne a'.tmps)).run P w' = .ok #[.slice A2 m.toNat cap2] w' := by
  rw [Array.mapM_eq_mapM_toList, hrs]
  have : a'.tmps.getD t undef = .slice A2 m.toNat cap2 := hu
  simp [resOne, this]
 rw [results_eq, Sem.run_bind, hm3, Result.andThen_ok]
 rfl
end
end Go.PE
