/-
  A part of the proof that the law's function returns true and leaves its arguments as they were, for every input (no condition): own lemmas of the proof, in the order of their use.
-/
import Derived.Test.YtkfppicmdgbfjaaGreatDoorU14
import Derived.Test.YtkfppicmdgbfjaaGreatDoorU16
set_option linter.all false
namespace Go.PE
open Go.RowKit
/-! ### Functions that are given a row of their caller's -/
section
variable {P : Program} {Φ : FuncId → List PV → Option (PV × List (List PV))}
/-- What the slots hold at the beginning: the row, the part of it, the other arguments. -/
def envV (sz : Nat) (xs : List (List PV)) (off len : Nat) (avs : List PV) : List (Nat × PV) :=
  (VS, .own (0, 0) sz xs) :: (0, .snap VS none (0, 0) off len) :: (avs.zipIdx 1).map fun q => (q.2, q.1)
theorem lookup_args1 (avs : List PV) (s : Nat) : lookup ((avs.zipIdx 1).map fun q => (q.2, q.1)) s = if 1 ≤ s then (avs[s - 1]?).getD .dead else .dead := by
  have : ∀ (l : List PV) (k s : Nat), lookup ((l.zipIdx k).map fun q => (q.2, q.1)) s = if k ≤ s then (l[s - k]?).getD .dead else .dead := by
    intro l
    induction l with
    | nil => intro k s; simp [lookup]
    | cons v l ih =>
      intro k s
      rw [List.zipIdx_cons, List.map_cons, lookup, ih]
      by_cases h : s = k
      · subst h; simp
      · rw [if_neg h]
        by_cases hk : k ≤ s
        · rw [if_pos (by omega), if_pos hk, show s - k = (s - (k + 1)) + 1 by omega, List.getElem?_cons_succ]
        · rw [if_neg (by omega), if_neg hk]
  exact this avs 1 s
theorem Reps.nil_get {w : World} {Fz : Nat → Prop} : ∀ {vs : List Value} {ps : List PV} {bs : List Nat}, Reps w Fz vs ps bs → bs = [] → ∀ (i : Nat) (v : Value) (p : PV), vs[i]? = some v → ps[i]? = some p → Rep w Fz v p []
  | _, _, _, .nil, _, i, v, p, h, _ => by simp at h
  | _, _, _, .cons (b := b0) (bs := bs0) h hs, hb, i, v, p, hv, hp => by
    rw [List.append_eq_nil_iff] at hb
    cases i with
    | zero =>
      simp only [List.getElem?_cons_zero, Option.some.injEq] at hv hp
      subst hv hp
      rw [hb.1] at h
      exact h
    | succ i => exact Reps.nil_get hs hb.2 i v p (by simpa using hv) (by simpa using hp)
/-- A body that is given a row: from the row and its part to the slots at its end. -/
theorem bodyV (hm : P.follows .mixedOrders = true) (hM : ∀ g, Meets P g (Φ g)) {f : FuncId} {fn : Func} (hf : P.funcs[f]? = some fn) {c : Code} (hc : fn.body = some c) (hn : fn.name ≠ "runtime.NumGoroutine")
    (keep : List Nat) (lv : Nat → List Nat) (N : Nat) {w : World} {bs : List Nat} {A : Option Addr} {n cap sz : Nat} {xs : List (List PV)} {off len : Nat} {A' : Option Addr} {cap' : Nat} {args : List Value} {avs : List PV}
    (hrep : Rep w (fun b => b < w.heap.size ∧ b ∉ bs) (.slice A n cap) (.own (0, 0) sz xs) bs) (hnd : bs.Nodup) (hlt : ∀ b ∈ bs, b < w.heap.size) (hfit : off + len ≤ xs.length) (hpart : PartOf A cap sz off len A' cap')
    (hargs : Reps w (fun b => b < w.heap.size ∧ b ∉ bs) args avs []) (hgl : Glob w (fun b => b < w.heap.size ∧ b ∉ bs))
    (hnt : fn.ntmps ≤ VS) (hlen : avs.length + 1 ≤ fn.ntmps) (hcode : codeOK fn.ntmps [] c = true) (hst : avs.all stamp0 = true)
    {ex : Ex} {rid : Nat} {e : List (Nat × PV)} (hex : exec P Φ keep lv N 0 c (0, envV sz xs off len avs) = some (ex, rid, e)) (hne : ∀ id, ex ≠ .exit id)
    {st' : Stamp} {xs' : List (List PV)} (hvs : lookup e VS = .own st' sz xs')
    (op : Oper) (a0 : Act) (next : Act → World → Prop) (Q : Exit → Act → World → Prop)
    (hnext : ∀ (B : Base) (a : Act) (w' : World) (Fz' : Nat → Prop) (ob : Nat → List Nat) (S : Stamp → Prop), Inv B Fz' (lookup e) (tmOf B a) w' ob S → B.vv = .slice A n cap → RowPost w bs A n cap sz xs' w' →
      ∃ u, (results fn a.tmps).run P w' = .ok u w' ∧ next (a0.put op.dst u) w') :
    op.upon P a0 next Q ((callFunc f (.slice A' len cap' :: args).toArray).run P w) := by
  have henter : (callFunc f (.slice A' len cap' :: args).toArray).run P w = .ok (.enter f (.slice A' len cap' :: args).toArray) w := by
    simp [callFunc, hf, hn, hc]
  rw [henter, Oper.upon_enter]
  have hal : args.length = avs.length := hargs.length
  generalize hargA : (.slice A' len cap' :: args : List Value).toArray = argA
  have has : argA.size = avs.length + 1 := by rw [← hargA]; simp [hal]
  have hg0 : argA.getD 0 undef = .slice A' len cap' := by rw [← hargA]; rfl
  have hgs : ∀ i v, args[i]? = some v → argA.getD (i + 1) undef = v := by
    intro i v hv
    rw [← hargA, Array.getD_eq_getD_getElem?]
    simp [hv]
  let B : Base := ⟨w, bs, fun b => b < w.heap.size ∧ b ∉ bs, .slice A n cap, []⟩
  let act : Act := { tmps := argA ++ Array.replicate (fn.ntmps - argA.size) undef, defers := [] }
  let C : Ctx := { B := B, nt := fn.ntmps, K := fun t => t ∈ ([] : List Nat), T := fun _ => undef }
  have htm : ∀ i, i < argA.size → tmOf B act i = argA.getD i undef := by
    intro i hi
    rw [tmOf_ne B act (by omega)]
    show (argA ++ Array.replicate (fn.ntmps - argA.size) undef).getD i undef = _
    rw [Array.getD_eq_getD_getElem?, Array.getD_eq_getD_getElem?, Array.getElem?_append_left hi]
  have hvv : tmOf B act VS = .slice A n cap := if_pos rfl
  have h0VS : (0 : Nat) ≠ VS := by decide
  have l0 : lookup (envV sz xs off len avs) VS = .own (0, 0) sz xs := if_pos rfl
  have l1 : lookup (envV sz xs off len avs) 0 = .snap VS none (0, 0) off len := by
    unfold envV
    rw [lookup, if_neg h0VS, lookup, if_pos rfl]
  have l2 : ∀ s, s ≠ VS → lookup (envV sz xs off len avs) (s + 1) = if s + 1 = VS then .own (0, 0) sz xs else (avs[s]?).getD .dead := by
    intro s _
    unfold envV
    rw [lookup]
    by_cases h : s + 1 = VS
    · rw [if_pos h, if_pos h]
    · rw [if_neg h, if_neg h, lookup, if_neg (by omega), lookup_args1, if_pos (by omega)]
      rfl
  have hsat : Sat C (fun s => s.1 ≤ 0) (lookup (envV sz xs off len avs)) act w := by
    refine ⟨⟨fun b => b < w.heap.size ∧ b ∉ bs, fun s => if s = VS then bs else [], ?_⟩, ?_, hnt, ⟨fun _ h => (by cases h), List.nodup_nil, fun _ => rfl⟩, fun t ht => by cases ht⟩
    · refine { rep := ?_, glob := hgl, nodup := ?_, disj := ?_, notFz := ?_, lt := ?_, fzlt := fun b hb => hb.1, mine := ?_, fz0 := fun _ h => h, fzo := fun _ h => .inl h,
               stamps := ?_, os := rfl, tape := rfl, output := rfl, size := Nat.le_refl _, frame := fun _ _ _ => rfl, dfr := fun _ h => (by cases h) }
      · intro s
        unfold SlotRep
        by_cases hs : s = VS
        · subst hs
          rw [l0, if_neg (by simp [isRef]), if_pos rfl, hvv]
          exact hrep
        · rw [if_neg hs]
          cases s with
          | zero =>
            rw [l1, if_pos (show isRef (.snap VS none (0, 0) off len) = true from rfl), htm 0 (by omega), hg0]
            refine ⟨rfl, fun sz2 xs2 h2 => ?_⟩
            rw [l0, rowIf_of rfl] at h2
            cases h2
            exact ⟨hfit, A, n, cap, A', cap', hvv, rfl, hpart.1, hpart.2.1, hpart.2.2⟩
          | succ s =>
            by_cases hsv : s = VS
            · have hx : lookup (envV sz xs off len avs) (s + 1) = .dead := by
                unfold envV
                rw [lookup, if_neg hs, lookup, if_neg (by omega), lookup_args1, if_pos (by omega)]
                rw [List.getElem?_eq_none (by omega)]
                rfl
              rw [hx, if_pos (show isRef .dead = true from rfl)]
              exact ⟨rfl, trivial⟩
            · rw [l2 s hsv, if_neg hs]
              by_cases hlt' : s < avs.length
              · have h1 : avs[s]? = some avs[s] := List.getElem?_eq_getElem hlt'
                have h2 : args[s]? = some args[s] := List.getElem?_eq_getElem (by omega)
                have hR := hargs.nil_get rfl s _ _ h2 h1
                rw [h1, Option.getD_some, htm (s + 1) (by omega), hgs s _ h2]
                generalize args[s] = av at hR ⊢
                cases hv : avs[s] with
                | dead =>
                  rw [if_pos (show isRef .dead = true from rfl)]
                  exact ⟨rfl, trivial⟩
                | loc => rw [hv] at hR; cases hR with | plain h => cases h
                | eloc => rw [hv] at hR; cases hR with | plain h => cases h
                | snap => rw [hv] at hR; cases hR with | plain h => cases h
                | back => rw [hv] at hR; cases hR with | plain h => cases h
                | pvar => rw [hv] at hR; cases hR with | plain h => cases h
                | mref => rw [hv] at hR; cases hR with | plain h => cases h
                | _ => rw [hv] at hR; exact hR
              · rw [List.getElem?_eq_none (by omega), Option.getD_none, if_pos (show isRef .dead = true from rfl)]
                exact ⟨rfl, trivial⟩
      · intro s
        show (if s = VS then bs else []).Nodup
        split
        · exact hnd
        · exact List.nodup_nil
      · intro s t hst2 b hb hb'
        by_cases h1 : s = VS
        · by_cases h2 : t = VS
          · exact hst2 (h1.trans h2.symm)
          · simp [h2] at hb'
        · simp [h1] at hb
      · intro s b hb hf2
        by_cases h1 : s = VS
        · simp only [h1, if_true] at hb; exact hf2.2 hb
        · simp [h1] at hb
      · intro s b hb
        by_cases h1 : s = VS
        · simp only [h1, if_true] at hb; exact hlt b hb
        · simp [h1] at hb
      · intro s b hb
        by_cases h1 : s = VS
        · simp only [h1, if_true] at hb; exact .inl hb
        · simp [h1] at hb
      · intro s st hs
        by_cases h1 : s = VS
        · subst h1
          rw [l0] at hs
          simp only [stampsOf, stamps1, List.mem_singleton] at hs
          subst hs
          exact Nat.le_refl _
        · cases s with
          | zero =>
            rw [l1] at hs
            simp only [stampsOf, List.mem_singleton] at hs
            subst hs
            exact Nat.le_refl _
          | succ s =>
            by_cases hlt' : s < avs.length
            · rw [l2 s (by omega), if_neg h1, List.getElem?_eq_getElem hlt', Option.getD_some] at hs
              rw [List.all_eq_true] at hst
              have := hst _ (List.getElem_mem hlt')
              unfold stamp0 at this
              rw [List.all_eq_true] at this
              have := this st hs
              simp at this
              omega
            · have hx : lookup (envV sz xs off len avs) (s + 1) = .dead := by
                unfold envV
                rw [lookup, if_neg h1, lookup, if_neg (by omega), lookup_args1, if_pos (by omega)]
                rw [List.getElem?_eq_none (by omega)]
                rfl
              rw [hx] at hs
              simp [stampsOf, stamps1] at hs
    · show (argA ++ Array.replicate (fn.ntmps - argA.size) undef).size = fn.ntmps
      simp; omega
  refine callsIn_wide.1 (callsIn_of_wp_marks (F := Fence.wide) (n := 0) hf hc trivial ?_)
  refine code_sound hm hM lv N c C [] rfl 0 0 _ 0 rid _ e ex act w (.inl rfl) hcode hex hsat fun a' w' H' => ?_
  obtain ⟨⟨Fz1, ob1, I0⟩, k1, _, ⟨k2, k4, _⟩, k3⟩ := H'
  have hout := leaves_marks (P := P) (fn := fn) (tmps := a'.tmps) (R := fun
    | .returned v, w'' => next (a0.put op.dst v) w''
    | .panicked chain, w'' => Q (.panic chain) a0 w''
    | .outgrown, _ => LetsOut Q) a'.defers w' k2 k4 I0 fun w' I1 => ?_
  · cases ex with
    | exit id => exact absurd rfl (hne id)
    | normal => exact hout
    | ret => exact hout
  have hR := I1.slot VS (by rw [hvs]; rfl)
  rw [hvs] at hR
  have hvv' : tmOf B a' VS = .slice A n cap := if_pos rfl
  have hR0 : Rep w' Fz1 (.slice A n cap) (.own st' sz xs') (ob1 VS) := by rw [← hvv']; exact hR
  have hob : ob1 VS = bs := by
    generalize ob1 VS = o1 at hR0
    cases hrep with
    | plain h => exact absurd h.okC (by simp [okC])
    | ownNil =>
      cases hR0 with
      | plain h => exact absurd h.okC (by simp [okC])
      | ownNil => rfl
    | own g _ _ cur ty _ _ _ cf hg hn2 hcp hm2 hs hu hcell hr =>
      cases hR0 with
      | plain h => exact absurd h.okC (by simp [okC])
      | own => rfl
  have hpost : RowPost w bs A n cap sz xs' w' := by
    refine ⟨I1.os, I1.tape, I1.output, I1.size, fun b hb hn2 => I1.frame b hb hn2, Fz1, ?_⟩
    rw [← hob]
    have h0 := hR0
    generalize ob1 VS = o1 at h0 ⊢
    cases h0 with
    | plain h => exact absurd h.okC (by simp [okC])
    | ownNil => exact .ownNil (0, 0) sz
    | own g _ _ cur ty _ _ _ cf hg hn2 hcp hm2 hs hu hcell hr => exact .own g _ _ cur ty (0, 0) sz _ cf hg hn2 hcp hm2 hs hu hcell hr
  obtain ⟨u, j1, j2⟩ := hnext B a' w' Fz1 ob1 _ I1 rfl hpost
  exact ⟨u, j1, j2⟩
/-- At the end of a body that writes into the row. -/
def endV (td : TypeId → TD) (rs : List ResultVar) (sz : Nat) (r : PV) (xs' : List (List PV)) : Ex → St → Prop
  | .exit _, _ => False
  | _, s => (∃ st, lookup s.2 VS = .own st sz xs') ∧ (resValsT td (lookup s.2) rs).map one = some r
/-- At the end of a body that returns a first part of the row. -/
def endP (rs : List ResultVar) (sz : Nat) (xs : List (List PV)) (off m : Nat) : Ex → St → Prop
  | .exit _, _ => False
  | _, s => ∃ st t, lookup s.2 VS = .own st sz xs ∧ rs = [.tmp t] ∧ opv (lookup s.2) (.tmp t) = .snap VS none st off m
theorem resVals_eq (P : Program) (e : Env) : ∀ l, resValsT (tdOf P) e l = resVals P e l
  | [] => rfl
  | r :: l => by
    have h1 : resValT (tdOf P) e r = resVal P e r := by cases r <;> rfl
    rw [resValsT, resVals, h1, resVals_eq P e l]
    rfl
theorem meetsW_of {td : TypeId → TD} (htd : td = tdOf P) (hm : P.follows .mixedOrders = true) (hM : ∀ g, Meets P g (Φ g)) {f : FuncId} {fn : Func} (hf : P.funcs[f]? = some fn) {c : Code} (hc : fn.body = some c) (hn : fn.name ≠ "runtime.NumGoroutine")
    (keep : List Nat) (lv : Nat → List Nat) (N : Nat) {F : List PV → Option (PV × List (List PV))} (hw : wrB f = true) (hbk : bkG f = none) (hnt : Nat.ble fn.ntmps VS = true) (hcode : codeOK fn.ntmps [] c = true)
    (h : ∀ (sz : Nat) (xs : List (List PV)) (off len : Nat) (avs : List PV) (r : PV) (new : List (List PV)), F (.own (0, 0) sz ((xs.drop off).take len) :: avs) = some (r, new) → off + len ≤ xs.length → 0 < len → xs.length ≤ 9223372036854775807 → flat1 xs = true →
      avs.length + 1 ≤ fn.ntmps ∧ avs.all stamp0 = true ∧ W P Φ keep lv N 0 c (0, envV sz xs off len avs) (endV td fn.results.toList sz r (xs.take off ++ new ++ xs.drop (off + len)))) : Meets P f F := by
  subst htd
  refine ⟨fun h1 _ => (by rw [hw] at h1; cases h1), fun _ => ?_, fun h1 _ => (by rw [hw] at h1; cases h1), fun g' h => (by rw [hbk] at h; cases h)⟩
  intro w bs A n cap sz xs off len A' cap' args avs r new hrep hnd hlt hfl hfit hpos hpart hargs hgl hF hnl hnew op a next Q hnext
  have hmx : xs.length ≤ 9223372036854775807 := by
    obtain ⟨_, _, _, h1, h2, _, h3⟩ := hrep.own_len
    have : maxLen ≤ 9223372036854775807 := by decide
    omega
  obtain ⟨h1, h2, ⟨ex, ⟨rid, e⟩, h3, h4⟩⟩ := h sz xs off len avs r new hF hfit hpos hmx hfl
  have h4' : (∀ id, ex ≠ .exit id) ∧ (∃ st, lookup e VS = .own st sz (xs.take off ++ new ++ xs.drop (off + len))) ∧ (resValsT (tdOf P) (lookup e) fn.results.toList).map one = some r := by
    cases ex with
    | exit id => exact h4.elim
    | normal => exact ⟨fun _ h => (by cases h), h4⟩
    | ret => exact ⟨fun _ h => (by cases h), h4⟩
  obtain ⟨hne, ⟨st, hvs⟩, hres⟩ := h4'
  refine bodyV hm hM hf hc hn keep lv N hrep hnd hlt hfit hpart hargs hgl (Nat.le_of_ble_eq_true hnt) h1 hcode h2 h3 hne hvs op a next Q fun B a' w' Fz' ob S I hB hpost => ?_
  rw [resVals_eq] at hres
  obtain ⟨vs, hvs2, rfl⟩ := Option.map_eq_some_iff.1 hres
  obtain ⟨u, k1, k2, k3⟩ := run_results I hvs2
  exact ⟨u, k1, hnext u w' hpost fun hsc => scalar_rep k2 hsc _⟩
theorem meetsP_of (hm : P.follows .mixedOrders = true) (hM : ∀ g, Meets P g (Φ g)) {f : FuncId} {fn : Func} (hf : P.funcs[f]? = some fn) {c : Code} (hc : fn.body = some c) (hn : fn.name ≠ "runtime.NumGoroutine")
    (keep : List Nat) (lv : Nat → List Nat) (N : Nat) {F : List PV → Option (PV × List (List PV))} (hw : wrB f = false) (hw2 : prB f = true) (hbk : bkG f = none) (hnt : Nat.ble fn.ntmps VS = true) (hlen : Nat.ble 1 fn.ntmps = true) (hcode : codeOK fn.ntmps [] c = true)
    (h : ∀ (sz : Nat) (xs : List (List PV)) (off len : Nat) (m : Int), F [.own (0, 0) sz ((xs.drop off).take len)] = some (.int .i64 m, []) → off + len ≤ xs.length → 0 ≤ m → m ≤ len → flat1 xs = true →
      W P Φ keep lv N 0 c (0, envV sz xs off len []) (endP fn.results.toList sz xs off m.toNat)) : Meets P f F := by
  refine ⟨fun _ h1 => (by rw [hw2] at h1; cases h1), fun h1 => (by rw [hw] at h1; cases h1), fun _ _ => ?_, fun g' h => (by rw [hbk] at h; cases h)⟩
  intro w bs A n cap sz xs off len A' cap' m hrep hnd hlt hfl hfit hpart hgl hF h0 hm2 op a next Q hnext
  obtain ⟨ex, ⟨rid, e⟩, h3, h4⟩ := (h sz xs off len m hF hfit h0 hm2 hfl).out
  have h4' : (∀ id, ex ≠ .exit id) ∧ ∃ st t, lookup e VS = .own st sz xs ∧ fn.results.toList = [.tmp t] ∧ opv (lookup e) (.tmp t) = .snap VS none st off m.toNat := by
    cases ex with
    | exit id => exact h4.elim
    | normal => exact ⟨fun _ h => (by cases h), h4⟩
    | ret => exact ⟨fun _ h => (by cases h), h4⟩
  obtain ⟨hne, st, t, hvs, hrs, ht⟩ := h4'
  refine bodyV (args := []) (avs := []) hm hM hf hc hn keep lv N hrep hnd hlt hfit hpart .nil hgl (Nat.le_of_ble_eq_true hnt) (Nat.le_of_ble_eq_true hlen) hcode rfl h3 hne hvs op a next Q fun B a' w' Fz' ob S I hB hpost => ?_
  rcases opv_tmp (lookup e) t with ⟨h5, _⟩ | ⟨h5, h6⟩
  · rw [h5] at ht; cases ht
  rw [h5] at ht
  have hR := I.ref t (by rw [ht]; rfl)
  rw [ht] at hR
  obtain ⟨_, A1, n1, cap1, A2, cap2, hpv, hu, hlc, hoff, hA2⟩ := hR sz xs (by rw [hvs]; exact rowIf_of rfl)
  have hpv' : tmOf B a' VS = .slice A1 n1 cap1 := hpv
  have hvv : tmOf B a' VS = .slice A n cap := (if_pos rfl : tmOf B a' VS = B.vv).trans hB
  rw [hvv] at hpv'
  cases hpv'
  refine ⟨.slice A2 m.toNat cap2, ?_, hnext A2 cap2 w' hpost ⟨hlc, hoff, hA2⟩⟩
  rw [tmOf_ne B a' h6] at hu
  have hm3 : (fn.results.mapM (resOne a'.tmps)).run P w' = .ok #[.slice A2 m.toNat cap2] w' := by
    rw [Array.mapM_eq_mapM_toList, hrs]
    have : a'.tmps.getD t undef = .slice A2 m.toNat cap2 := hu
    simp [resOne, this]
  rw [results_eq, Sem.run_bind, hm3, Result.andThen_ok]
  rfl
end
end Go.PE
namespace Go.PE
open Go.RowKit Go.Proofs.Tryz
set_option maxRecDepth 100000
theorem row_sc (l : List Nat) : flat1 (row l) = true := by
  unfold flat1
  rw [List.all_eq_true]
  intro c hc
  obtain ⟨n, _, rfl⟩ := List.mem_map.1 hc
  rfl
theorem trimL_le (l : List Nat) : ∀ n, trimL l n ≤ n
  | 0 => Nat.le_refl _
  | n + 1 => by
    rw [trimL]; split
    · exact Nat.le_trans (trimL_le l n) (by omega)
    · omega
variable {k : Nat}
theorem trim_X {l : List Nat} (h : l.length ≤ 1099511627776) : T k 199 [.own (0, 0) 1 (row l)] = some (.int .i64 (trimL l l.length : Nat), []) := by
  refine byX ?_
  show trimF [.own (0, 0) 1 (row l)] = some (.int .i64 (trimL l l.length : Nat), [])
  simp only [trimF, unrow_row]
  rw [if_pos h]
theorem viaA {f : FuncId} {avs avs' : List PV} {r : Option (PV × List (List PV))} (h : T k f avs' = r) (e : avs = avs') : T k f avs = r := e ▸ h
end Go.PE
namespace Go.PE
theorem okL_iff {l : List Nat} : okL l = true ↔ ∀ a ∈ l, a < 1000000000 := by
  unfold okL
  rw [List.all_eq_true]
  constructor
  · intro h a ha
    have := h a ha
    simp only [Nat.blt, Nat.ble_eq] at this
    omega
  · intro h a ha
    have := h a ha
    simp only [Nat.blt, Nat.ble_eq]
    omega
theorem okL_cons {a : Nat} {l : List Nat} : okL (a :: l) = true ↔ a < 1000000000 ∧ okL l = true := by
  rw [okL_iff, okL_iff]; simp
theorem okL_append {l m : List Nat} : okL (l ++ m) = true ↔ okL l = true ∧ okL m = true := by
  rw [okL_iff, okL_iff, okL_iff]
  simp only [List.mem_append]
  exact ⟨fun h => ⟨fun a ha => h a (.inl ha), fun a ha => h a (.inr ha)⟩, fun h a ha => ha.elim (h.1 a) (h.2 a)⟩
theorem okL_getD {l : List Nat} (h : okL l = true) (i : Nat) : l.getD i 0 < 1000000000 := by
  rw [okL_iff] at h
  by_cases hi : i < l.length
  · rw [List.getD, List.getElem?_eq_getElem hi]; exact h _ (List.getElem_mem hi)
  · rw [List.getD, List.getElem?_eq_none (by omega)]; show 0 < _; omega
theorem okL_take {l : List Nat} (h : okL l = true) (n : Nat) : okL (l.take n) = true := by
  rw [okL_iff] at h ⊢; exact fun a ha => h a (List.mem_of_mem_take ha)
theorem okL_drop {l : List Nat} (h : okL l = true) (n : Nat) : okL (l.drop n) = true := by
  rw [okL_iff] at h ⊢; exact fun a ha => h a (List.mem_of_mem_drop ha)
theorem okL_set {l : List Nat} (h : okL l = true) (i : Nat) {x : Nat} (hx : x < 1000000000) : okL (l.set i x) = true := by
  rw [okL_iff] at h ⊢
  intro a ha
  rcases List.mem_or_eq_of_mem_set ha with ha | rfl
  · exact h a ha
  · exact hx
theorem okL_rep (n : Nat) : okL (List.replicate n 0) = true := by
  rw [okL_iff]; intro a ha; rw [(List.mem_replicate.1 ha).2]; omega
theorem lval_append (l m : List Nat) : lval (l ++ m) = lval l + 1000000000 ^ l.length * lval m := by
  induction l with
  | nil => simp [lval]
  | cons a l ih =>
    rw [List.cons_append, lval, lval, ih, List.length_cons, Nat.pow_succ]
    rw [Nat.mul_add, Nat.mul_comm (1000000000 ^ l.length) 1000000000, Nat.mul_assoc]
    omega
theorem lval_lt {l : List Nat} (h : okL l = true) : lval l < 1000000000 ^ l.length := by
  induction l with
  | nil => simp [lval]
  | cons a l ih =>
    rw [okL_cons] at h
    have := ih h.2
    rw [lval, List.length_cons, Nat.pow_succ]
    omega
theorem lval_rep (n : Nat) : lval (List.replicate n 0) = 0 := by
  induction n with
  | zero => rfl
  | succ n ih => rw [List.replicate_succ, lval, ih]
theorem take_succ_getD {l : List Nat} {i : Nat} (h : i < l.length) : l.take (i + 1) = l.take i ++ [l.getD i 0] := by
  rw [List.take_succ_eq_append_getElem h]
  simp [List.getD, List.getElem?_eq_getElem h]
theorem lval_take_succ {l : List Nat} {i : Nat} (h : i < l.length) : lval (l.take (i + 1)) = lval (l.take i) + 1000000000 ^ i * l.getD i 0 := by
  rw [take_succ_getD h, lval_append, List.length_take, Nat.min_eq_left (by omega)]
  simp [lval]
theorem lval_take_drop (l : List Nat) (i : Nat) (h : i ≤ l.length) : lval l = lval (l.take i) + 1000000000 ^ i * lval (l.drop i) := by
  conv => lhs; rw [← List.take_append_drop i l]
  rw [lval_append, List.length_take, Nat.min_eq_left h]
theorem drop_getD {l : List Nat} {i : Nat} (h : i < l.length) : l.drop i = l.getD i 0 :: l.drop (i + 1) := by
  rw [List.drop_eq_getElem_cons h]
  simp [List.getD, List.getElem?_eq_getElem h]
/-- The limbs of a number. -/
def limbs (n : Nat) : List Nat := if h : n = 0 then [] else (n % 1000000000) :: limbs (n / 1000000000)
termination_by n
decreasing_by omega
theorem limbs_zero : limbs 0 = [] := by rw [limbs]; simp
theorem limbs_pos {n : Nat} (h : n ≠ 0) : limbs n = (n % 1000000000) :: limbs (n / 1000000000) := by rw [limbs, dif_neg h]
theorem lval_limbs (n : Nat) : lval (limbs n) = n := by
  induction n using Nat.strongRecOn with
  | _ n ih =>
    by_cases h : n = 0
    · subst h; rw [limbs_zero]; rfl
    · rw [limbs_pos h, lval, ih _ (by omega)]; omega
theorem okL_limbs (n : Nat) : okL (limbs n) = true := by
  induction n using Nat.strongRecOn with
  | _ n ih =>
    by_cases h : n = 0
    · subst h; rw [limbs_zero]; rfl
    · rw [limbs_pos h, okL_cons]; exact ⟨by omega, ih _ (by omega)⟩
theorem limbs_eq_nil {n : Nat} : limbs n = [] ↔ n = 0 := by
  constructor
  · intro h; rw [← lval_limbs n, h]; rfl
  · rintro rfl; exact limbs_zero
theorem limbs_unique {l : List Nat} (h : okL l = true) (hl : l.getLast? ≠ some 0) : limbs (lval l) = l := by
  induction l with
  | nil => exact limbs_zero
  | cons a l ih =>
    rw [okL_cons] at h
    have hl2 : l.getLast? ≠ some 0 := by
      intro hc
      apply hl
      rw [List.getLast?_cons, hc]; rfl
    have hne : lval (a :: l) ≠ 0 := by
      intro hz
      rw [lval] at hz
      have ha : a = 0 := by omega
      have hv : lval l = 0 := by omega
      have hle : l = [] := by rw [← ih h.2 hl2, hv, limbs_zero]
      subst hle ha
      exact hl rfl
    rw [limbs_pos hne, lval]
    rw [show (a + 1000000000 * lval l) % 1000000000 = a by omega, show (a + 1000000000 * lval l) / 1000000000 = lval l by omega, ih h.2 hl2]
/-- How many limbs. -/
def ln (n : Nat) : Nat := (limbs n).length
theorem lt_ln (n : Nat) : n < 1000000000 ^ ln n := by
  have := lval_lt (okL_limbs n); rwa [lval_limbs] at this
theorem ln_le {n k : Nat} (h : n < 1000000000 ^ k) : ln n ≤ k := by
  induction k generalizing n with
  | zero =>
    have : n = 0 := by simpa using h
    subst this; unfold ln; rw [limbs_zero]; simp
  | succ k ih =>
    by_cases h0 : n = 0
    · subst h0; unfold ln; rw [limbs_zero]; simp
    · unfold ln
      rw [limbs_pos h0, List.length_cons]
      have := ih (n := n / 1000000000) (by rw [Nat.pow_succ] at h; omega)
      unfold ln at this
      omega
theorem ln_mono {a b : Nat} (h : a ≤ b) : ln a ≤ ln b := ln_le (Nat.lt_of_le_of_lt h (lt_ln b))
theorem ln_mul (a b : Nat) : ln (a * b) ≤ ln a + ln b := by
  apply ln_le
  rw [Nat.pow_add]
  by_cases ha : b = 0
  · subst ha; rw [Nat.mul_zero]; exact Nat.mul_pos (Nat.pow_pos (by omega)) (Nat.pow_pos (by omega))
  · exact Nat.lt_of_lt_of_le (Nat.mul_lt_mul_of_pos_right (lt_ln a) (by omega)) (Nat.mul_le_mul_left _ (Nat.le_of_lt (lt_ln b)))
theorem ln_zero : ln 0 = 0 := by unfold ln; rw [limbs_zero]; rfl
theorem ln_pos {n : Nat} (h : n ≠ 0) : 0 < ln n := by unfold ln; rw [limbs_pos h]; simp
theorem pow_le_of_ln {n : Nat} (h : n ≠ 0) : 1000000000 ^ (ln n - 1) ≤ n := by
  rcases Nat.lt_or_ge n (1000000000 ^ (ln n - 1)) with h1 | h1
  · have := ln_le h1
    have := ln_pos h
    omega
  · exact h1
theorem ln_small {n : Nat} (h : n < 1000000000) : ln n ≤ 1 := ln_le (by simpa using h)
theorem limbs_small {n : Nat} (h0 : n ≠ 0) (h : n < 1000000000) : limbs n = [n] := by
  rw [limbs_pos h0, Nat.mod_eq_of_lt h, Nat.div_eq_of_lt h, limbs_zero]
theorem lt_of_ln_lt {a b : Nat} (h : ln a < ln b) : a < b := by
  rcases Nat.lt_or_ge a b with h1 | h1
  · exact h1
  · have := ln_mono h1; omega
end Go.PE
namespace Go.PE
open Go.RowKit Go.Proofs.Tryz
set_option maxRecDepth 100000
theorem trim_spec (l : List Nat) : ∀ n, n ≤ l.length → lval (l.take (trimL l n)) = lval (l.take n) ∧ (l.take (trimL l n)).getLast? ≠ some 0
  | 0, _ => by simp [trimL]
  | n + 1, h => by
    obtain ⟨h1, h2⟩ := trim_spec l n (by omega)
    rw [trimL]
    split
    · rename_i h0
      refine ⟨?_, h2⟩
      rw [h1, lval_take_succ (by omega), h0, Nat.mul_zero, Nat.add_zero]
    · rename_i h0
      refine ⟨rfl, ?_⟩
      rw [take_succ_getD (by omega), List.getLast?_append]
      simpa using h0
theorem trim_limbs {l : List Nat} (h : okL l = true) : l.take (trimL l l.length) = limbs (lval l) := by
  obtain ⟨h1, h2⟩ := trim_spec l l.length (Nat.le_refl _)
  rw [List.take_length] at h1
  rw [← h1]
  exact (limbs_unique (okL_take h _) h2).symm
variable {k : Nat}
theorem one_T (n : Nat) : T (k + 1) 169 [.imm 1 (row (limbs n))] = some (.bool (decide (n = 1)), []) := by
  refine enter rfl func169 rfl (by decide) (by kernel_rfl) rfl rfl ?_
  refine zs0 ?_
  refine WX.boolM rfl rfl (fun hb => ?_) (fun hb => ?_)
  · have hb := of_decide_eq_true hb
    rw [row_len] at hb
    have hl : (limbs n).length = 1 := by omega
    have hg := row_get (l := limbs n) (i := 0) (by omega)
    refine zs0 ?_
    refine wI te rfl rfl rfl rfl rfl rfl (by omega) (hg) ?_
    refine zs0 ?_
    have hn : n = (limbs n).getD 0 0 := by
      obtain ⟨x, hx⟩ : ∃ x, limbs n = [x] := List.length_eq_one_iff.1 hl
      have := lval_limbs n
      rw [hx] at this ⊢
      simp only [lval] at this
      simp; omega
    show some (PV.bool (bif true then decide (((limbs n).getD 0 0 : Nat) = (1 : Int)) else false), []) = _
    rw [← hn]
    by_cases h1 : n = 1 <;> simp [h1]
    omega
  · have hb := of_decide_eq_false hb
    rw [row_len] at hb
    refine zs0 ?_
    have : ¬ n = 1 := by
      rintro rfl
      rw [limbs_small (by omega) (by omega)] at hb
      exact hb rfl
    rw [decide_eq_false this]
    rfl
end Go.PE
namespace Go.PE
open Go.RowKit Go.Proofs.Tryz
set_option maxRecDepth 100000
variable {k : Nat}
theorem tmodB (v : Nat) : ((v : Int)).tmod 1000000000 = ((v % 1000000000 : Nat) : Int) := rfl
theorem tdivB (v : Nat) : ((v : Int)).tdiv 1000000000 = ((v / 1000000000 : Nat) : Int) := rfl
theorem lval_take_ge {l : List Nat} {i : Nat} (h : l.length ≤ i) : lval (l.take i) = lval l := by rw [List.take_of_length_le h]
theorem getD_ge {l : List Nat} {i : Nat} (h : l.length ≤ i) : l.getD i 0 = 0 := by rw [List.getD, List.getElem?_eq_none h]; rfl
theorem lval_step (l : List Nat) (i : Nat) : lval (l.take (i + 1)) = lval (l.take i) + 1000000000 ^ i * l.getD i 0 := by
  by_cases h : i < l.length
  · exact lval_take_succ h
  · rw [lval_take_ge (by omega), lval_take_ge (by omega), getD_ge (by omega)]; simp
end Go.PE
namespace Go.PE
theorem limbsN_len : ∀ (n x : Nat), (limbsN n x).length = n
  | 0, _ => rfl
  | n + 1, x => by rw [limbsN, List.length_cons, limbsN_len]
theorem okL_limbsN : ∀ (n x : Nat), okL (limbsN n x) = true
  | 0, _ => rfl
  | n + 1, x => by rw [limbsN, okL_cons]; exact ⟨by omega, okL_limbsN _ _⟩
theorem lval_limbsN : ∀ (n x : Nat), x < 1000000000 ^ n → lval (limbsN n x) = x
  | 0, x, h => by
    have : x = 0 := by simpa using h
    subst this; rfl
  | n + 1, x, h => by
    rw [Nat.pow_succ] at h
    rw [limbsN, lval, lval_limbsN n _ (by omega)]
    omega
theorem top_div {l : List Nat} {n : Nat} (h : okL l = true) (hl : l.length = n + 1) : l.getD n 0 = lval l / 1000000000 ^ n := by
  have h1 := lval_take_drop l n (by omega)
  rw [drop_getD (by omega), List.drop_of_length_le (by omega)] at h1
  simp only [lval, Nat.mul_zero, Nat.add_zero] at h1
  have h2 := lval_lt (okL_take h n)
  rw [List.length_take, Nat.min_eq_left (by omega)] at h2
  rw [h1, Nat.add_comm, Nat.mul_add_div (Nat.pow_pos (by omega)), Nat.div_eq_of_lt h2, Nat.add_zero]
theorem knuth_norm {w d : Nat} (h0 : 1 ≤ w) (h1 : w < 1000000000) (hd : d = 1000000000 / (w + 1)) : 1000000000 ≤ 2 * (w * d) := by
  have e1 : d * (w + 1) ≤ 1000000000 := by rw [hd]; exact Nat.div_mul_le_self _ _
  have e2 : 1000000000 < (d + 1) * (w + 1) := by
    have := Nat.lt_mul_div_succ 1000000000 (show 0 < w + 1 by omega)
    rw [← hd, Nat.mul_comm] at this; exact this
  rcases Nat.lt_or_ge w 500000000 with hw | hw
  · rcases Nat.lt_or_ge w 2 with h2 | h2
    · have : w = 1 := by omega
      subst this
      omega
    · have hd2 : 2 ≤ d := by
        rcases Nat.lt_or_ge d 2 with h3 | h3
        · have : (d + 1) * (w + 1) ≤ 2 * (w + 1) := Nat.mul_le_mul_right _ (by omega)
          omega
        · exact h3
      obtain ⟨a, rfl⟩ : ∃ a, w = a + 2 := ⟨w - 2, by omega⟩
      obtain ⟨b, rfl⟩ : ∃ b, d = b + 2 := ⟨d - 2, by omega⟩
      have e3 : (b + 2 + 1) * (a + 2 + 1) = b * a + 3 * b + 3 * a + 9 := by
        simp only [Nat.add_mul, Nat.mul_add]; omega
      have e4 : (a + 2) * (b + 2) = b * a + 2 * b + 2 * a + 4 := by
        simp only [Nat.add_mul, Nat.mul_add]; rw [Nat.mul_comm a b]; omega
      rw [e3] at e2
      rw [e4]
      omega
  · have hd1 : 1 ≤ d := by
      rcases Nat.lt_or_ge d 1 with h3 | h3
      · have : d = 0 := by omega
        subst this
        omega
      · exact h3
    have := Nat.mul_le_mul_left w hd1
    omega
/-- The divisor, scaled. -/
theorem scaled {b n d w : Nat} (hn : ln b = n + 1) (hw : w = (limbs b).getD n 0) (hd : d = 1000000000 / (w + 1)) :
    1 ≤ w ∧ w < 1000000000 ∧ 0 < d ∧ d < 1000000000 ∧ ln (b * d) = n + 1 ∧ 1000000000 ≤ 2 * (limbs (b * d)).getD n 0 := by
  have ob := okL_limbs b
  have hb0 : b ≠ 0 := by rintro rfl; rw [ln_zero] at hn; omega
  have htop : w = b / 1000000000 ^ n := by
    rw [hw, top_div ob hn, lval_limbs]
  have hw1 : w < 1000000000 := by rw [hw]; exact okL_getD ob _
  have hpos : 0 < 1000000000 ^ n := Nat.pow_pos (by omega)
  have hw0 : 1 ≤ w := by
    rw [htop, Nat.le_div_iff_mul_le hpos, Nat.one_mul]
    have := pow_le_of_ln hb0
    rw [hn, Nat.add_sub_cancel] at this
    exact this
  have e1 : d * (w + 1) ≤ 1000000000 := by rw [hd]; exact Nat.div_mul_le_self _ _
  have hd0 : 0 < d := by rw [hd]; exact Nat.div_pos (by omega) (by omega)
  have hd1 : d < 1000000000 := by
    have := Nat.mul_le_mul_left d (show 2 ≤ w + 1 by omega)
    omega
  have hlt : b * d < 1000000000 ^ (n + 1) := by
    have h1 : b < (w + 1) * 1000000000 ^ n := by
      have := Nat.lt_mul_div_succ b hpos
      rw [← htop, Nat.mul_comm] at this; exact this
    have h2 : b * d < (w + 1) * 1000000000 ^ n * d := Nat.mul_lt_mul_of_pos_right h1 hd0
    have h3 : (w + 1) * 1000000000 ^ n * d = d * (w + 1) * 1000000000 ^ n := by
      rw [Nat.mul_comm _ d, ← Nat.mul_assoc]
    rw [h3] at h2
    have h4 := Nat.mul_le_mul_right (1000000000 ^ n) e1
    rw [Nat.pow_succ, Nat.mul_comm (1000000000 ^ n)]
    exact Nat.lt_of_lt_of_le h2 h4
  have hge : ln b ≤ ln (b * d) := ln_mono (Nat.le_mul_of_pos_right b hd0)
  have hln : ln (b * d) = n + 1 := by
    have := ln_le hlt
    omega
  refine ⟨hw0, hw1, hd0, hd1, hln, ?_⟩
  rw [top_div (okL_limbs _) hln, lval_limbs]
  have hk := knuth_norm hw0 hw1 hd
  have : w * d ≤ b * d / 1000000000 ^ n := by
    rw [Nat.le_div_iff_mul_le hpos, htop, Nat.mul_assoc, Nat.mul_comm d, ← Nat.mul_assoc]
    exact Nat.mul_le_mul_right _ (Nat.div_mul_le_self _ _)
  omega
/-- One round of the division. -/
theorem div_round {u v : List Nat} {j n : Nat} (ho : okL u = true) (hv : okL v = true) (hvl : v.length = n) (hj : j + n + 1 ≤ u.length) (hlt : lval u < lval v * 1000000000 ^ (j + 1)) :
    lval ((u.drop j).take (n + 1)) < 1000000000 * lval v ∧
    lval (u.take j ++ limbsN (n + 1) (lval ((u.drop j).take (n + 1)) % lval v) ++ u.drop (j + (n + 1))) + lval ((u.drop j).take (n + 1)) / lval v * 1000000000 ^ j * lval v = lval u ∧
    lval (u.take j ++ limbsN (n + 1) (lval ((u.drop j).take (n + 1)) % lval v) ++ u.drop (j + (n + 1))) < lval v * 1000000000 ^ j := by
  have hp : 0 < 1000000000 ^ j := Nat.pow_pos (by omega)
  have e1 := lval_take_drop u j (by omega)
  have e2 := lval_take_drop (u.drop j) (n + 1) (by simp; omega)
  rw [List.drop_drop] at e2
  have hV := lval_lt hv
  rw [hvl] at hV
  have hV0 : 0 < lval v := by
    rcases Nat.eq_zero_or_pos (lval v) with h | h
    · rw [h] at hlt; omega
    · exact h
  generalize hX : lval ((u.drop j).take (n + 1)) = X at *
  generalize hZ : lval (u.drop (j + (n + 1))) = Z at *
  generalize hY : lval (u.drop j) = Y at *
  have hYlt : Y < 1000000000 * lval v := by
    have h1 : 1000000000 ^ j * Y < 1000000000 ^ j * (1000000000 * lval v) := by
      have : lval v * 1000000000 ^ (j + 1) = 1000000000 ^ j * (1000000000 * lval v) := by
        rw [Nat.pow_succ, Nat.mul_comm (lval v), Nat.mul_assoc]
      omega
    exact Nat.lt_of_mul_lt_mul_left h1
  have hZ0 : Z = 0 := by
    rcases Nat.eq_zero_or_pos Z with h | h
    · exact h
    · have h1 : 1000000000 ^ (n + 1) ≤ 1000000000 ^ (n + 1) * Z := Nat.le_mul_of_pos_right _ h
      rw [Nat.pow_succ] at h1
      have h2 : 1000000000 * lval v < 1000000000 ^ n * 1000000000 := by omega
      rw [Nat.pow_succ] at e2
      omega
  have hXY : Y = X := by rw [hZ0, Nat.mul_zero] at e2; exact e2
  rw [hXY] at hYlt e1
  have hT := lval_lt (okL_take ho j)
  rw [List.length_take, Nat.min_eq_left (by omega)] at hT
  have hr : X % lval v < lval v := Nat.mod_lt _ hV0
  have hrl : X % lval v < 1000000000 ^ (n + 1) := by
    rw [Nat.pow_succ]; omega
  have hnew : lval (u.take j ++ limbsN (n + 1) (X % lval v) ++ u.drop (j + (n + 1))) = lval (u.take j) + 1000000000 ^ j * (X % lval v) := by
    rw [lval_append, lval_append, hZ, hZ0, Nat.mul_zero, Nat.add_zero, List.length_take, Nat.min_eq_left (by omega), lval_limbsN _ _ hrl]
  refine ⟨hYlt, ?_, ?_⟩
  · rw [hnew, e1]
    have := Nat.mod_add_div X (lval v)
    have h3 : X / lval v * 1000000000 ^ j * lval v = 1000000000 ^ j * (lval v * (X / lval v)) := by
      rw [Nat.mul_comm (X / lval v), Nat.mul_assoc, Nat.mul_comm (X / lval v)]
    rw [h3, Nat.add_assoc, ← Nat.mul_add, this]
  · rw [hnew]
    have h4 : 1000000000 ^ j * (X % lval v + 1) ≤ 1000000000 ^ j * lval v := Nat.mul_le_mul_left _ hr
    rw [Nat.mul_add, Nat.mul_one] at h4
    rw [Nat.mul_comm (lval v)]
    omega
end Go.PE
namespace Go.PE
theorem limbsN_lval : ∀ {l : List Nat}, okL l = true → limbsN l.length (lval l) = l
  | [], _ => rfl
  | a :: l, h => by
    rw [okL_cons] at h
    rw [List.length_cons, limbsN, lval, show (a + 1000000000 * lval l) % 1000000000 = a by omega, show (a + 1000000000 * lval l) / 1000000000 = lval l by omega, limbsN_lval h.2]
/-- A guess that is too great. -/
theorem guess_gt {g S top u1 p U V U' V' : Nat} (hV : V = S * p + V') (hU : U = (top * 1000000000 + u1) * p + U') (hU' : U' < p) (h : top * 1000000000 + u1 + 1 ≤ g * S) : U / V < g := by
  have h1 : (top * 1000000000 + u1 + 1) * p ≤ g * S * p := Nat.mul_le_mul_right _ h
  rw [Nat.add_mul, Nat.one_mul] at h1
  have h2 : g * S * p ≤ g * V := by rw [hV, Nat.mul_add, Nat.mul_assoc]; omega
  apply Nat.div_lt_of_lt_mul
  rw [Nat.mul_comm]
  omega
/-- A guess that is too great by 1 at most. -/
theorem guess_le {g S top u1 p U V U' V' : Nat} (hV : V = S * p + V') (hU : U = (top * 1000000000 + u1) * p + U') (hV' : V' < p) (hS : 1000000000 ≤ S) (hg : g < 1000000000) (h : g * S ≤ top * 1000000000 + u1) : g ≤ U / V + 1 := by
  rcases Nat.eq_zero_or_pos g with h0 | h0
  · rw [h0]; exact Nat.zero_le _
  have h1 : g * S * p ≤ (top * 1000000000 + u1) * p := Nat.mul_le_mul_right _ h
  have h2 : g * V = g * S * p + g * V' := by rw [hV, Nat.mul_add, Nat.mul_assoc]
  have h3 : g * V' ≤ g * p := Nat.mul_le_mul_left _ (by omega)
  have h4 : g * p < 1000000000 * p := Nat.mul_lt_mul_of_pos_right hg (by omega)
  have h5 : 1000000000 * p ≤ S * p := Nat.mul_le_mul_right _ hS
  have h6 : (g - 1) * V ≤ U := by
    rw [Nat.sub_mul, Nat.one_mul]; omega
  have h7 : 0 < V := by omega
  have := (Nat.le_div_iff_mul_le h7).2 h6
  omega
/-- The two last limbs of a divisor. -/
theorem split2 {v : List Nat} {m : Nat} (h : okL v = true) (hl : v.length = m + 2) : lval v = (v.getD (m + 1) 0 * 1000000000 + v.getD m 0) * 1000000000 ^ m + lval (v.take m) ∧ lval (v.take m) < 1000000000 ^ m := by
  have h1 := lval_take_drop v m (by omega)
  rw [drop_getD (l := v) (i := m) (by omega), drop_getD (l := v) (i := m + 1) (by omega), List.drop_of_length_le (by omega)] at h1
  simp only [lval, Nat.mul_zero, Nat.add_zero] at h1
  have h2 := lval_lt (okL_take h m)
  rw [List.length_take, Nat.min_eq_left (by omega)] at h2
  refine ⟨?_, h2⟩
  rw [h1, Nat.mul_comm (1000000000 ^ m), Nat.add_comm, Nat.mul_comm 1000000000 (v.getD (m + 1) 0), Nat.add_comm (v.getD m 0)]
theorem split3 {u : List Nat} {m : Nat} (h : okL u = true) (hl : u.length = m + 3) :
    lval u = ((u.getD (m + 2) 0 * 1000000000 + u.getD (m + 1) 0) * 1000000000 + u.getD m 0) * 1000000000 ^ m + lval (u.take m) ∧ lval (u.take m) < 1000000000 ^ m := by
  have h1 := lval_take_drop u m (by omega)
  rw [drop_getD (l := u) (i := m) (by omega), drop_getD (l := u) (i := m + 1) (by omega), drop_getD (l := u) (i := m + 1 + 1) (by omega), List.drop_of_length_le (by omega)] at h1
  simp only [lval, Nat.mul_zero, Nat.add_zero] at h1
  have h2 := lval_lt (okL_take h m)
  rw [List.length_take, Nat.min_eq_left (by omega)] at h2
  refine ⟨?_, h2⟩
  rw [h1, Nat.mul_comm (1000000000 ^ m), Nat.add_comm]
  congr 2
  generalize u.getD (m + 2) 0 = a
  generalize u.getD (m + 1) 0 = b
  generalize u.getD m 0 = c
  omega
theorem three (a b c : Nat) : a * 1000000000 * 1000000000 ≤ (a * 1000000000 + b) * 1000000000 + c := by omega
/-- The first limb is not greater than the divisor's. -/
theorem top_le {u v : List Nat} {m : Nat} (hu : okL u = true) (hv : okL v = true) (lu : u.length = m + 3) (lv : v.length = m + 2) (hlt : lval u < 1000000000 * lval v) : u.getD (m + 2) 0 ≤ v.getD (m + 1) 0 := by
  obtain ⟨h1, h2⟩ := split2 hv lv
  obtain ⟨h3, h4⟩ := split3 hu lu
  have hb := okL_getD hv m
  generalize lval (v.take m) = V' at *
  generalize lval (u.take m) = U' at *
  generalize u.getD (m + 2) 0 = a at *
  generalize u.getD (m + 1) 0 = b at *
  generalize u.getD m 0 = c at *
  generalize v.getD (m + 1) 0 = d at *
  generalize v.getD m 0 = e at *
  generalize 1000000000 ^ m = p at *
  rcases Nat.lt_or_ge d a with h | h
  · exfalso
    have k1 : (d * 1000000000 + e + 1) * p ≤ (d + 1) * 1000000000 * p := Nat.mul_le_mul_right _ (by omega)
    have k2 : (d + 1) * 1000000000 * p ≤ a * 1000000000 * p := Nat.mul_le_mul_right _ (Nat.mul_le_mul_right _ (by omega))
    have k3 : a * 1000000000 * p * 1000000000 ≤ ((a * 1000000000 + b) * 1000000000 + c) * p := by
      exact Nat.le_trans (Nat.le_of_eq (Nat.mul_right_comm _ _ _)) (Nat.mul_le_mul_right p (three a b c))
    have k4 : (d * 1000000000 + e + 1) * p = (d * 1000000000 + e) * p + p := by rw [Nat.add_mul, Nat.one_mul]
    have k5 : lval v < a * 1000000000 * p := by omega
    omega
  · exact h
/-- One step of the loop that lowers a guess. -/
theorem guess_step {v1 v2 u1 top g rest q : Nat} (hg : g * v1 + rest = top) (hbig : 1000000000 ≤ g ∨ rest * 1000000000 + u1 < g * v2) (hq1 : q < 1000000000)
    (hq2 : ∀ g, top * 1000000000 + u1 + 1 ≤ g * (v1 * 1000000000 + v2) → q < g) : q < g := by
  rcases hbig with h | h
  · omega
  · apply hq2
    rw [Nat.mul_add, ← Nat.mul_assoc, ← hg, Nat.add_mul]
    omega
theorem guess_final {v1 v2 u1 top g rest : Nat} (hg : g * v1 + rest = top) (h : g * v2 ≤ rest * 1000000000 + u1) : g * (v1 * 1000000000 + v2) ≤ top * 1000000000 + u1 := by
  rw [Nat.mul_add, ← Nat.mul_assoc, ← hg, Nat.add_mul]
  omega
/-- Out of the loop by the break. -/
theorem guess_break {v1 v2 u1 u2 u3 g rest : Nat} (hg : g * v1 + rest = u3 * 1000000000 + u2) (h3 : u3 ≤ v1) (h2 : u2 < 1000000000) (hv2 : v2 < 1000000000) (hr : 1000000000 ≤ rest) : g < 1000000000 ∧ g * v2 ≤ rest * 1000000000 + u1 := by
  have hlt : g < 1000000000 := by
    rcases Nat.lt_or_ge g 1000000000 with h | h
    · exact h
    · exfalso
      have := Nat.mul_le_mul_right v1 h
      omega
  refine ⟨hlt, ?_⟩
  have : g * v2 ≤ 1000000000 * 1000000000 := Nat.mul_le_mul (by omega) (by omega)
  omega
end Go.PE
