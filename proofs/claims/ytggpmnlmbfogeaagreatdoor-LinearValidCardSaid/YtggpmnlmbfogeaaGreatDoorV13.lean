/-
  A part of the proof that the law's function returns true and leaves its arguments as they were, for every input (no condition): own lemmas of the proof, in the order of their use.
-/
import Derived.Test.YtggpmnlmbfogeaaGreatDoorV11
import Derived.Test.YtggpmnlmbfogeaaGreatDoorV10
import Derived.ChangeArms
import Derived.WideShapes
import Derived.ChangeShapes
import GoSem.ClaimJoined
import Derived.Lib.ItoaNum
set_option linter.all false
namespace Go.PE
open Go.RowKit
/-! ### Functions that are given a row of their caller's -/
section
variable {P : Program} {Φ : FuncId → List PV → Option (PV × List (List PV))}
/-- What the slots hold at the beginning: the row, the part of it, the other arguments. -/
def envV (sz : Nat) (xs : List (List PV)) (off len : Nat) (avs : List PV) : List (Nat × PV) :=
  (VS, .own (0, 0) sz xs) :: (0, .snap VS none (0, 0) off len) :: (avs.zipIdx 1).map fun q => (q.2, q.1)
theorem lookup_args1 (avs : List PV) (s : Nat) : lookup ((avs.zipIdx 1).map fun q => (q.2, q.1)) s = if 1 ≤ s then (avs[s - 1]?).getD .dead else .dead := by
  have : ∀ (l : List PV) (k s : Nat), lookup ((l.zipIdx k).map fun q => (q.2, q.1)) s = if k ≤ s then (l[s - k]?).getD .dead else .dead := by
    intro l
    induction l with
    | nil => intro k s; simp [lookup]
    | cons v l ih =>
      intro k s
      rw [List.zipIdx_cons, List.map_cons, lookup, ih]
      by_cases h : s = k
      · subst h; simp
      · rw [if_neg h]
        by_cases hk : k ≤ s
        · rw [if_pos (by omega), if_pos hk, show s - k = (s - (k + 1)) + 1 by omega, List.getElem?_cons_succ]
        · rw [if_neg (by omega), if_neg hk]
  exact this avs 1 s
theorem Reps.nil_get {w : World} {Fz : Nat → Prop} : ∀ {vs : List Value} {ps : List PV} {bs : List Nat}, Reps w Fz vs ps bs → bs = [] → ∀ (i : Nat) (v : Value) (p : PV), vs[i]? = some v → ps[i]? = some p → Rep w Fz v p []
  | _, _, _, .nil, _, i, v, p, h, _ => by simp at h
  | _, _, _, .cons (b := b0) (bs := bs0) h hs, hb, i, v, p, hv, hp => by
    rw [List.append_eq_nil_iff] at hb
    cases i with
    | zero =>
      simp only [List.getElem?_cons_zero, Option.some.injEq] at hv hp
      subst hv hp
      rw [hb.1] at h
      exact h
    | succ i => exact Reps.nil_get hs hb.2 i v p (by simpa using hv) (by simpa using hp)
/-- A body that is given a row: from the row and its part to the slots at its end. -/
theorem bodyV (hm : P.follows .mixedOrders = true) (hM : ∀ g, Meets P g (Φ g)) {f : FuncId} {fn : Func} (hf : P.funcs[f]? = some fn) {c : Code} (hc : fn.body = some c) (hn : fn.name ≠ "runtime.NumGoroutine")
    (keep : List Nat) (lv : Nat → List Nat) (N : Nat) {w : World} {bs : List Nat} {A : Option Addr} {n cap sz : Nat} {xs : List (List PV)} {off len : Nat} {A' : Option Addr} {cap' : Nat} {args : List Value} {avs : List PV}
    (hrep : Rep w (fun b => b < w.heap.size ∧ b ∉ bs) (.slice A n cap) (.own (0, 0) sz xs) bs) (hnd : bs.Nodup) (hlt : ∀ b ∈ bs, b < w.heap.size) (hfit : off + len ≤ xs.length) (hpart : PartOf A cap sz off len A' cap')
    (hargs : Reps w (fun b => b < w.heap.size ∧ b ∉ bs) args avs []) (hgl : Glob w (fun b => b < w.heap.size ∧ b ∉ bs))
    (hnt : fn.ntmps ≤ VS) (hlen : avs.length + 1 ≤ fn.ntmps) (hcode : codeOK fn.ntmps [] c = true) (hst : avs.all stamp0 = true)
    {ex : Ex} {rid : Nat} {e : List (Nat × PV)} (hex : exec P Φ keep lv N 0 c (0, envV sz xs off len avs) = some (ex, rid, e)) (hne : ∀ id, ex ≠ .exit id)
    {st' : Stamp} {xs' : List (List PV)} (hvs : lookup e VS = .own st' sz xs')
    (op : Oper) (a0 : Act) (next : Act → World → Prop) (Q : Exit → Act → World → Prop)
    (hnext : ∀ (B : Base) (a : Act) (w' : World) (Fz' : Nat → Prop) (ob : Nat → List Nat) (S : Stamp → Prop), Inv B Fz' (lookup e) (tmOf B a) w' ob S → B.vv = .slice A n cap → RowPost w bs A n cap sz xs' w' →
      ∃ u, (results fn a.tmps).run P w' = .ok u w' ∧ next (a0.put op.dst u) w') :
    op.upon P a0 next Q ((callFunc f (.slice A' len cap' :: args).toArray).run P w) := by
  have henter : (callFunc f (.slice A' len cap' :: args).toArray).run P w = .ok (.enter f (.slice A' len cap' :: args).toArray) w := by
    simp [callFunc, hf, hn, hc]
  rw [henter, Oper.upon_enter]
  have hal : args.length = avs.length := hargs.length
  generalize hargA : (.slice A' len cap' :: args : List Value).toArray = argA
  have has : argA.size = avs.length + 1 := by rw [← hargA]; simp [hal]
  have hg0 : argA.getD 0 undef = .slice A' len cap' := by rw [← hargA]; rfl
  have hgs : ∀ i v, args[i]? = some v → argA.getD (i + 1) undef = v := by
    intro i v hv
    rw [← hargA, Array.getD_eq_getD_getElem?]
    simp [hv]
  let B : Base := ⟨w, bs, fun b => b < w.heap.size ∧ b ∉ bs, .slice A n cap⟩
  let act : Act := { tmps := argA ++ Array.replicate (fn.ntmps - argA.size) undef, defers := [] }
  let C : Ctx := { B := B, nt := fn.ntmps, K := fun t => t ∈ ([] : List Nat), T := fun _ => undef }
  have htm : ∀ i, i < argA.size → tmOf B act i = argA.getD i undef := by
    intro i hi
    rw [tmOf_ne B act (by omega)]
    show (argA ++ Array.replicate (fn.ntmps - argA.size) undef).getD i undef = _
    rw [Array.getD_eq_getD_getElem?, Array.getD_eq_getD_getElem?, Array.getElem?_append_left hi]
  have hvv : tmOf B act VS = .slice A n cap := if_pos rfl
  have h0VS : (0 : Nat) ≠ VS := by decide
  have l0 : lookup (envV sz xs off len avs) VS = .own (0, 0) sz xs := if_pos rfl
  have l1 : lookup (envV sz xs off len avs) 0 = .snap VS none (0, 0) off len := by
    unfold envV
    rw [lookup, if_neg h0VS, lookup, if_pos rfl]
  have l2 : ∀ s, s ≠ VS → lookup (envV sz xs off len avs) (s + 1) = if s + 1 = VS then .own (0, 0) sz xs else (avs[s]?).getD .dead := by
    intro s _
    unfold envV
    rw [lookup]
    by_cases h : s + 1 = VS
    · rw [if_pos h, if_pos h]
    · rw [if_neg h, if_neg h, lookup, if_neg (by omega), lookup_args1, if_pos (by omega)]
      rfl
  have hsat : Sat C (fun s => s.1 ≤ 0) (lookup (envV sz xs off len avs)) act w := by
    refine ⟨⟨fun b => b < w.heap.size ∧ b ∉ bs, fun s => if s = VS then bs else [], ?_⟩, ?_, hnt, rfl, fun t ht => by cases ht⟩
    · refine { rep := ?_, glob := hgl, nodup := ?_, disj := ?_, notFz := ?_, lt := ?_, fzlt := fun b hb => hb.1, mine := ?_, fz0 := fun _ h => h, fzo := fun _ h => .inl h,
               stamps := ?_, os := rfl, tape := rfl, output := rfl, size := Nat.le_refl _, frame := fun _ _ _ => rfl }
      · intro s
        unfold SlotRep
        by_cases hs : s = VS
        · subst hs
          rw [l0, if_neg (by simp [isRef]), if_pos rfl, hvv]
          exact hrep
        · rw [if_neg hs]
          cases s with
          | zero =>
            rw [l1, if_pos (show isRef (.snap VS none (0, 0) off len) = true from rfl), htm 0 (by omega), hg0]
            refine ⟨rfl, fun sz2 xs2 h2 => ?_⟩
            rw [l0, rowIf_of rfl] at h2
            cases h2
            exact ⟨hfit, A, n, cap, A', cap', hvv, rfl, hpart.1, hpart.2.1, hpart.2.2⟩
          | succ s =>
            by_cases hsv : s = VS
            · have hx : lookup (envV sz xs off len avs) (s + 1) = .dead := by
                unfold envV
                rw [lookup, if_neg hs, lookup, if_neg (by omega), lookup_args1, if_pos (by omega)]
                rw [List.getElem?_eq_none (by omega)]
                rfl
              rw [hx, if_pos (show isRef .dead = true from rfl)]
              exact ⟨rfl, trivial⟩
            · rw [l2 s hsv, if_neg hs]
              by_cases hlt' : s < avs.length
              · have h1 : avs[s]? = some avs[s] := List.getElem?_eq_getElem hlt'
                have h2 : args[s]? = some args[s] := List.getElem?_eq_getElem (by omega)
                have hR := hargs.nil_get rfl s _ _ h2 h1
                rw [h1, Option.getD_some, htm (s + 1) (by omega), hgs s _ h2]
                generalize args[s] = av at hR ⊢
                cases hv : avs[s] with
                | dead =>
                  rw [if_pos (show isRef .dead = true from rfl)]
                  exact ⟨rfl, trivial⟩
                | loc => rw [hv] at hR; cases hR with | plain h => cases h
                | eloc => rw [hv] at hR; cases hR with | plain h => cases h
                | snap => rw [hv] at hR; cases hR with | plain h => cases h
                | _ => rw [hv] at hR; exact hR
              · rw [List.getElem?_eq_none (by omega), Option.getD_none, if_pos (show isRef .dead = true from rfl)]
                exact ⟨rfl, trivial⟩
      · intro s
        show (if s = VS then bs else []).Nodup
        split
        · exact hnd
        · exact List.nodup_nil
      · intro s t hst2 b hb hb'
        by_cases h1 : s = VS
        · by_cases h2 : t = VS
          · exact hst2 (h1.trans h2.symm)
          · simp [h2] at hb'
        · simp [h1] at hb
      · intro s b hb hf2
        by_cases h1 : s = VS
        · simp only [h1, if_true] at hb; exact hf2.2 hb
        · simp [h1] at hb
      · intro s b hb
        by_cases h1 : s = VS
        · simp only [h1, if_true] at hb; exact hlt b hb
        · simp [h1] at hb
      · intro s b hb
        by_cases h1 : s = VS
        · simp only [h1, if_true] at hb; exact .inl hb
        · simp [h1] at hb
      · intro s st hs
        by_cases h1 : s = VS
        · subst h1
          rw [l0] at hs
          simp only [stampsOf, stamps1, List.mem_singleton] at hs
          subst hs
          exact Nat.le_refl _
        · cases s with
          | zero =>
            rw [l1] at hs
            simp only [stampsOf, List.mem_singleton] at hs
            subst hs
            exact Nat.le_refl _
          | succ s =>
            by_cases hlt' : s < avs.length
            · rw [l2 s (by omega), if_neg h1, List.getElem?_eq_getElem hlt', Option.getD_some] at hs
              rw [List.all_eq_true] at hst
              have := hst _ (List.getElem_mem hlt')
              unfold stamp0 at this
              rw [List.all_eq_true] at this
              have := this st hs
              simp at this
              omega
            · have hx : lookup (envV sz xs off len avs) (s + 1) = .dead := by
                unfold envV
                rw [lookup, if_neg h1, lookup, if_neg (by omega), lookup_args1, if_pos (by omega)]
                rw [List.getElem?_eq_none (by omega)]
                rfl
              rw [hx] at hs
              simp [stampsOf, stamps1] at hs
    · show (argA ++ Array.replicate (fn.ntmps - argA.size) undef).size = fn.ntmps
      simp; omega
  refine calls_of_wp hf hc ?_
  refine code_sound (C := C) hm hM (ks := []) rfl lv N c 0 _ 0 rid _ e ex act w hcode hex hsat fun a' w' H' => ?_
  obtain ⟨⟨Fz1, ob1, I1⟩, k1, _, k2, k3⟩ := H'
  have hR := I1.slot VS (by rw [hvs]; rfl)
  rw [hvs] at hR
  have hvv' : tmOf B a' VS = .slice A n cap := if_pos rfl
  have hR0 : Rep w' Fz1 (.slice A n cap) (.own st' sz xs') (ob1 VS) := by rw [← hvv']; exact hR
  have hob : ob1 VS = bs := by
    generalize ob1 VS = o1 at hR0
    cases hrep with
    | plain h => exact absurd h.okC (by simp [okC])
    | ownNil =>
      cases hR0 with
      | plain h => exact absurd h.okC (by simp [okC])
      | ownNil => rfl
    | own g _ _ cur ty _ _ _ cf hg hn2 hcp hm2 hs hu hcell hr =>
      cases hR0 with
      | plain h => exact absurd h.okC (by simp [okC])
      | own => rfl
  have hpost : RowPost w bs A n cap sz xs' w' := by
    refine ⟨I1.os, I1.tape, I1.output, I1.size, fun b hb hn2 => I1.frame b hb hn2, Fz1, ?_⟩
    rw [← hob]
    have h0 := hR0
    generalize ob1 VS = o1 at h0 ⊢
    cases h0 with
    | plain h => exact absurd h.okC (by simp [okC])
    | ownNil => exact .ownNil (0, 0) sz
    | own g _ _ cur ty _ _ _ cf hg hn2 hcp hm2 hs hu hcell hr => exact .own g _ _ cur ty (0, 0) sz _ cf hg hn2 hcp hm2 hs hu hcell hr
  obtain ⟨u, j1, j2⟩ := hnext B a' w' Fz1 ob1 _ I1 rfl hpost
  cases ex with
  | exit id => exact absurd rfl (hne id)
  | normal => exact ⟨k2, u, j1, j2⟩
  | ret => exact ⟨k2, u, j1, j2⟩
/-- At the end of a body that writes into the row. -/
def endV (td : TypeId → TD) (rs : List ResultVar) (sz : Nat) (r : PV) (xs' : List (List PV)) : Ex → St → Prop
  | .exit _, _ => False
  | _, s => (∃ st, lookup s.2 VS = .own st sz xs') ∧ (resValsT td (lookup s.2) rs).map one = some r
/-- At the end of a body that returns a first part of the row. -/
def endP (rs : List ResultVar) (sz : Nat) (xs : List (List PV)) (off m : Nat) : Ex → St → Prop
  | .exit _, _ => False
  | _, s => ∃ st t, lookup s.2 VS = .own st sz xs ∧ rs = [.tmp t] ∧ opv (lookup s.2) (.tmp t) = .snap VS none st off m
theorem resVals_eq (P : Program) (e : Env) : ∀ l, resValsT (tdOf P) e l = resVals P e l
  | [] => rfl
  | r :: l => by
    have h1 : resValT (tdOf P) e r = resVal P e r := by cases r <;> rfl
    rw [resValsT, resVals, h1, resVals_eq P e l]
    rfl
theorem meetsW_of {td : TypeId → TD} (htd : td = tdOf P) (hm : P.follows .mixedOrders = true) (hM : ∀ g, Meets P g (Φ g)) {f : FuncId} {fn : Func} (hf : P.funcs[f]? = some fn) {c : Code} (hc : fn.body = some c) (hn : fn.name ≠ "runtime.NumGoroutine")
    (keep : List Nat) (lv : Nat → List Nat) (N : Nat) {F : List PV → Option (PV × List (List PV))} (hw : wrB f = true) (hnt : Nat.ble fn.ntmps VS = true) (hcode : codeOK fn.ntmps [] c = true)
    (h : ∀ (sz : Nat) (xs : List (List PV)) (off len : Nat) (avs : List PV) (r : PV) (new : List (List PV)), F (.own (0, 0) sz ((xs.drop off).take len) :: avs) = some (r, new) → off + len ≤ xs.length → 0 < len → xs.length ≤ 9223372036854775807 → flat1 xs = true →
      avs.length + 1 ≤ fn.ntmps ∧ avs.all stamp0 = true ∧ W P Φ keep lv N 0 c (0, envV sz xs off len avs) (endV td fn.results.toList sz r (xs.take off ++ new ++ xs.drop (off + len)))) : Meets P f F := by
  subst htd
  refine ⟨fun h1 _ => (by rw [hw] at h1; cases h1), fun _ => ?_, fun h1 _ => (by rw [hw] at h1; cases h1)⟩
  intro w bs A n cap sz xs off len A' cap' args avs r new hrep hnd hlt hfl hfit hpos hpart hargs hgl hF hnl hnew op a next Q hnext
  have hmx : xs.length ≤ 9223372036854775807 := by
    obtain ⟨_, _, _, h1, h2, _, h3⟩ := hrep.own_len
    have : maxLen ≤ 9223372036854775807 := by decide
    omega
  obtain ⟨h1, h2, ⟨ex, ⟨rid, e⟩, h3, h4⟩⟩ := h sz xs off len avs r new hF hfit hpos hmx hfl
  have h4' : (∀ id, ex ≠ .exit id) ∧ (∃ st, lookup e VS = .own st sz (xs.take off ++ new ++ xs.drop (off + len))) ∧ (resValsT (tdOf P) (lookup e) fn.results.toList).map one = some r := by
    cases ex with
    | exit id => exact h4.elim
    | normal => exact ⟨fun _ h => (by cases h), h4⟩
    | ret => exact ⟨fun _ h => (by cases h), h4⟩
  obtain ⟨hne, ⟨st, hvs⟩, hres⟩ := h4'
  refine bodyV hm hM hf hc hn keep lv N hrep hnd hlt hfit hpart hargs hgl (Nat.le_of_ble_eq_true hnt) h1 hcode h2 h3 hne hvs op a next Q fun B a' w' Fz' ob S I hB hpost => ?_
  rw [resVals_eq] at hres
  obtain ⟨vs, hvs2, rfl⟩ := Option.map_eq_some_iff.1 hres
  obtain ⟨u, k1, k2, k3⟩ := run_results I hvs2
  exact ⟨u, k1, hnext u w' hpost fun hsc => scalar_rep k2 hsc _⟩
theorem meetsP_of (hm : P.follows .mixedOrders = true) (hM : ∀ g, Meets P g (Φ g)) {f : FuncId} {fn : Func} (hf : P.funcs[f]? = some fn) {c : Code} (hc : fn.body = some c) (hn : fn.name ≠ "runtime.NumGoroutine")
    (keep : List Nat) (lv : Nat → List Nat) (N : Nat) {F : List PV → Option (PV × List (List PV))} (hw : wrB f = false) (hw2 : prB f = true) (hnt : Nat.ble fn.ntmps VS = true) (hlen : Nat.ble 1 fn.ntmps = true) (hcode : codeOK fn.ntmps [] c = true)
    (h : ∀ (sz : Nat) (xs : List (List PV)) (off len : Nat) (m : Int), F [.own (0, 0) sz ((xs.drop off).take len)] = some (.int .i64 m, []) → off + len ≤ xs.length → 0 ≤ m → m ≤ len → flat1 xs = true →
      W P Φ keep lv N 0 c (0, envV sz xs off len []) (endP fn.results.toList sz xs off m.toNat)) : Meets P f F := by
  refine ⟨fun _ h1 => (by rw [hw2] at h1; cases h1), fun h1 => (by rw [hw] at h1; cases h1), fun _ _ => ?_⟩
  intro w bs A n cap sz xs off len A' cap' m hrep hnd hlt hfl hfit hpart hgl hF h0 hm2 op a next Q hnext
  obtain ⟨ex, ⟨rid, e⟩, h3, h4⟩ := (h sz xs off len m hF hfit h0 hm2 hfl).out
  have h4' : (∀ id, ex ≠ .exit id) ∧ ∃ st t, lookup e VS = .own st sz xs ∧ fn.results.toList = [.tmp t] ∧ opv (lookup e) (.tmp t) = .snap VS none st off m.toNat := by
    cases ex with
    | exit id => exact h4.elim
    | normal => exact ⟨fun _ h => (by cases h), h4⟩
    | ret => exact ⟨fun _ h => (by cases h), h4⟩
  obtain ⟨hne, st, t, hvs, hrs, ht⟩ := h4'
  refine bodyV (args := []) (avs := []) hm hM hf hc hn keep lv N hrep hnd hlt hfit hpart .nil hgl (Nat.le_of_ble_eq_true hnt) (Nat.le_of_ble_eq_true hlen) hcode rfl h3 hne hvs op a next Q fun B a' w' Fz' ob S I hB hpost => ?_
  rcases opv_tmp (lookup e) t with ⟨h5, _⟩ | ⟨h5, h6⟩
  · rw [h5] at ht; cases ht
  rw [h5] at ht
  have hR := I.ref t (by rw [ht]; rfl)
  rw [ht] at hR
  obtain ⟨_, A1, n1, cap1, A2, cap2, hpv, hu, hlc, hoff, hA2⟩ := hR sz xs (by rw [hvs]; exact rowIf_of rfl)
  have hpv' : tmOf B a' VS = .slice A1 n1 cap1 := hpv
  have hvv : tmOf B a' VS = .slice A n cap := (if_pos rfl : tmOf B a' VS = B.vv).trans hB
  rw [hvv] at hpv'
  cases hpv'
  refine ⟨.slice A2 m.toNat cap2, ?_, hnext A2 cap2 w' hpost ⟨hlc, hoff, hA2⟩⟩
  rw [tmOf_ne B a' h6] at hu
  have hm3 : (fn.results.mapM (resOne a'.tmps)).run P w' = .ok #[.slice A2 m.toNat cap2] w' := by
    rw [Array.mapM_eq_mapM_toList, hrs]
    have : a'.tmps.getD t undef = .slice A2 m.toNat cap2 := hu
    simp [resOne, this]
  rw [results_eq, Sem.run_bind, hm3, Result.andThen_ok]
  rfl
end
end Go.PE
namespace Go.PE
open Go.RowKit
/-! ### The arguments of a row, read as plain values -/
/-- The make of a type's cells. -/
inductive Ty where
  | int (k : IntKind)
  | bool
  | str
  | sl (sz : Nat) (t : Ty)
  | pair (a b : Ty)
  | unit
def Ty.size : Ty → Nat
  | .pair a b => a.size + b.size
  | .unit => 0
  | _ => 1
def shape : Ty → List PV → Prop
  | .int k, ps => ∃ n, ps = [.int k n] ∧ (Lit.int k n).wf = true
  | .bool, ps => ∃ b, ps = [.bool b]
  | .str, ps => ∃ s : List UInt8, ps = [.str s] ∧ s.length ≤ reachBytes
  | .sl sz t, ps => ∃ xs : List (List PV), ps = [.imm sz xs] ∧ xs.length ≤ reachBytes ∧ ∀ x ∈ xs, shape t x
  | .pair a b, ps => ∃ p q, ps = p ++ q ∧ shape a p ∧ shape b q
  | .unit, ps => ps = []
theorem shape_len : ∀ {t : Ty} {ps : List PV}, shape t ps → ps.length = t.size
  | .int _, _, ⟨_, h, _⟩ => by rw [h]; rfl
  | .bool, _, ⟨_, h⟩ => by rw [h]; rfl
  | .str, _, ⟨_, h, _⟩ => by rw [h]; rfl
  | .sl _ _, _, ⟨_, h, _⟩ => by rw [h]; rfl
  | .pair a b, _, ⟨p, q, h, h1, h2⟩ => by rw [h, List.length_append, shape_len h1, shape_len h2]; rfl
  | .unit, _, h => by
    have h : _ = [] := h
    rw [h]; rfl
section
variable (P : Program)
def fitF (g : TypeId → Ty → Bool) : List Field → Nat → Nat → Ty → Bool
  | [], off, tot, .unit => off == tot
  | f :: l, off, tot, .pair a b => f.offset == off && P.cellsOf f.type == a.size && g f.type a && fitF g l (off + a.size) tot b
  | _, _, _, _ => false
/-- Is a type made so? -/
def fits : Nat → TypeId → Ty → Bool
  | 0, _, _ => false
  | n + 1, t, ty => match P.underlying t, ty with
    | some .bool, .bool => true
    | some (.int k), .int k' => decide (k = k')
    | some .string, .str => true
    | some (.slice e), .sl sz a => P.cellsOf e == sz && a.size == sz && Nat.blt 0 (P.bytesOf e) && fits n e a
    | some (.struct fs), ty => fitF P (fits n) fs.toList 0 (P.cellsOf t) ty
    | _, _ => false
end
theorem ImmL.append {w : World} {Fz : Nat → Prop} {a b : List Value} {p q : List PV} (h1 : ImmL w Fz a p) (h2 : ImmL w Fz b q) : ImmL w Fz (a ++ b) (p ++ q) := by
  refine ⟨by rw [List.length_append, List.length_append, h1.1, h2.1], fun i v x hv hx => ?_⟩
  by_cases hi : i < a.length
  · rw [List.getElem?_append_left hi] at hv
    rw [List.getElem?_append_left (by rw [← h1.1]; exact hi)] at hx
    exact h1.2 i v x hv hx
  · rw [List.getElem?_append_right (by omega)] at hv
    rw [List.getElem?_append_right (by rw [← h1.1]; omega), ← h1.1] at hx
    exact h2.2 _ v x hv hx
theorem ImmL.sg {w : World} {Fz : Nat → Prop} {v : Value} {q : PV} (h : Imm w Fz v q) : ImmL w Fz [v] [q] := by
  refine ⟨rfl, fun i v' p hv hp => ?_⟩
  cases i with
  | zero => simp only [List.getElem?_cons_zero, Option.some.injEq] at hv hp; subst hv hp; exact h
  | succ i => simp at hv
theorem list_choose {α : Type} {Q : Nat → α → Prop} : ∀ (n : Nat), (∀ i, i < n → ∃ x, Q i x) → ∃ xs : List α, xs.length = n ∧ ∀ i x, xs[i]? = some x → Q i x
  | 0, _ => ⟨[], rfl, fun i x h => by simp at h⟩
  | n + 1, h => by
    obtain ⟨xs, hl, hx⟩ := list_choose n fun i hi => h i (by omega)
    obtain ⟨y, hy⟩ := h n (by omega)
    refine ⟨xs ++ [y], by simp [hl], fun i x hi => ?_⟩
    by_cases hin : i < n
    · rw [List.getElem?_append_left (by omega)] at hi
      exact hx i x hi
    · rw [List.getElem?_append_right (by omega)] at hi
      have : i - xs.length = 0 := by
        have := (List.getElem?_eq_some_iff.1 hi).1
        simp at this; omega
      rw [this] at hi
      simp only [List.getElem?_cons_zero, Option.some.injEq] at hi
      have : i = n := by omega
      subst this hi
      exact hy
theorem cell_lt {w : World} {a : Addr} {v : Value} (h : w.cell? a = some v) : a.block < w.heap.size := by
  unfold World.cell? at h
  by_cases hb : a.block < w.heap.size
  · exact hb
  · rw [Array.getElem?_eq_none (by omega)] at h
    cases h
section
variable {H : Type} {enc : TypeId × Value → H} {P : Program} {w : World} {base : Nat} {spare : Nat → Bool} {held : Bool}
theorem all_sub {a b : List Nat} (h : ∀ n ∈ a, n ∈ b) (hb : b.all (· ≤ reachBytes) = true) : a.all (· ≤ reachBytes) = true := by
  rw [List.all_eq_true] at hb ⊢
  exact fun n hn => hb n (h n hn)
theorem weightsAll_mem {e : TypeId} : ∀ {l : List (DataW H)} {d : DataW H}, d ∈ l → ∀ n ∈ d.weights P e, n ∈ DataW.weightsAll P e l
  | x :: l, d, h, n, hn => by
    rw [DataW.weightsAll, List.mem_append]
    rcases List.mem_cons.1 h with rfl | h
    · exact .inl hn
    · exact .inr (weightsAll_mem h n hn)
theorem tr_imm : ∀ (fuel : Nat) (t : TypeId) (cs : List Value) (x : DataW H × List MemPlace), DataW.trod enc P w base spare held fuel t cs = some x → (x.1.weights P t).all (· ≤ reachBytes) = true →
    ∀ (n : Nat) (ty : Ty), fits P n t ty = true → ∃ ps, shape ty ps ∧ ImmL w (fun b => b < w.heap.size) cs ps := by
  intro fuel
  induction fuel using Nat.strongRecOn with
  | _ fuel ih =>
  intro t cs x h hwt n ty hf
  cases n with
  | zero => simp [fits] at hf
  | succ n =>
    unfold fits at hf
    split at hf
    · rename_i ht
      obtain ⟨b, rfl, _⟩ := DataW.trod_bool ht h
      exact ⟨[.bool b], ⟨b, rfl⟩, ImmL.sg (.bool b)⟩
    · rename_i k k' ht
      have hk : k = k' := by simpa using hf
      subst hk
      obtain ⟨m, rfl, _, hw⟩ := DataW.trod_int ht h
      exact ⟨[.int k m], ⟨m, rfl, hw⟩, ImmL.sg (.int k m)⟩
    · rename_i ht
      obtain ⟨s, rfl, rfl, hs⟩ := DataW.trod_string ht h
      exact ⟨[.str s.data.toList], ⟨_, rfl, by simpa [DataW.weights] using hwt⟩, ImmL.sg (.str s)⟩
    · rename_i e sz a ht
      simp only [Bool.and_eq_true, beq_iff_eq] at hf
      obtain ⟨⟨⟨hsz, hasz⟩, hby⟩, hfe⟩ := hf
      rcases DataW.trod_slice ht h with ⟨rfl, _⟩ | ⟨ad, len, cap, elems, rest, m, rfl, rfl, rfl, hb, hlc, hcm, hlen, hel, _, _⟩
      · exact ⟨[.imm sz []], ⟨[], rfl, Nat.zero_le _, by simp⟩, ImmL.sg (.imm none 0 0 sz [] (fun _ _ => undef) rfl (Nat.le_refl _) (by simp) (fun i j p hp => by simp [cell2] at hp) (fun i j p hp => by simp [cell2] at hp))⟩
      · simp only [DataW.weights, ht, List.all_cons, Bool.and_eq_true, decide_eq_true_eq, List.all_append, List.length_map] at hwt
        have hlenB : len ≤ reachBytes := by
          have h1 : 0 < P.bytesOf e := by
            simp only [Nat.blt, Nat.ble_eq] at hby
            omega
          have h2 := Nat.le_mul_of_pos_right (elems.length + rest.length) h1
          omega
        have each : ∀ i, i < len → ∃ ps : List PV, shape a ps ∧ ∃ cs : List Value, cs.length = sz ∧ (∀ j, j < sz → w.cell? (ad.add (i * sz + j)) = cs[j]?) ∧ ImmL w (fun b => b < w.heap.size) cs ps := by
          intro i hi
          have h1 := hel i hi
          have hie : i < elems.length := by omega
          rw [List.getElem?_eq_getElem hie] at h1
          obtain ⟨cs, h2, h3⟩ := Option.bind_eq_some_iff.1 h1
          obtain ⟨ps, h4, h5⟩ := ih m (by omega) e cs _ h3 (all_sub (weightsAll_mem (l := elems.map (·.1)) (List.mem_map.2 ⟨_, List.getElem_mem hie, rfl⟩)) hwt.2.1) n a hfe
          obtain ⟨_, k2, k3⟩ := World.cells?_some h2
          refine ⟨ps, h4, cs, by rw [← hsz]; exact k2, fun j hj => ?_, h5⟩
          have := k3 j (by rw [hsz]; exact hj)
          rw [hsz, add_add] at this
          exact this
        obtain ⟨xs, hxl, hxs⟩ := list_choose len each
        refine ⟨[.imm sz xs], ⟨xs, rfl, by omega, fun y hy => ?_⟩, ImmL.sg (.imm (some ad) len cap sz xs (fun i j => (w.cell? (ad.add (i * sz + j))).getD undef) hxl hlc (fun y hy => ?_) (fun i j p hp => ?_) (fun i j p hp => ?_))⟩
        · obtain ⟨i, hi⟩ := List.getElem?_of_mem hy
          exact (hxs i y hi).1
        · obtain ⟨i, hi⟩ := List.getElem?_of_mem hy
          rw [shape_len (hxs i y hi).1]; exact hasz
        · obtain ⟨y, hy, hp⟩ := Option.bind_eq_some_iff.1 hp
          obtain ⟨_, cs, k1, k2, k3⟩ := hxs i y hy
          have hj : j < sz := by
            have := (List.getElem?_eq_some_iff.1 hp).1
            rw [← k3.1, k1] at this; exact this
          have h1 := k2 j hj
          rw [List.getElem?_eq_getElem (by omega)] at h1
          refine ⟨ad, rfl, ?_, ?_⟩
          · have := cell_lt h1
            rw [add_block] at this; exact this
          · rw [h1]; rfl
        · obtain ⟨y, hy, hp⟩ := Option.bind_eq_some_iff.1 hp
          obtain ⟨_, cs, k1, k2, k3⟩ := hxs i y hy
          have hj : j < sz := by
            have := (List.getElem?_eq_some_iff.1 hp).1
            rw [← k3.1, k1] at this; exact this
          have h1 := k2 j hj
          rw [List.getElem?_eq_getElem (by omega)] at h1
          rw [h1]
          exact k3.2 j _ p (List.getElem?_eq_getElem (by omega)) hp
    · rename_i ty _ _ fs ht
      obtain ⟨xs, m, rfl, rfl, hlen, hxl, hx⟩ := DataW.trod_struct ht h
      simp only [DataW.weights, ht] at hwt
      have go : ∀ (l : List Field) (ys : List (DataW H × List MemPlace)) (off : Nat) (ty : Ty), l.length = ys.length → (∀ (i : Nat) f, l[i]? = some f → DataW.trod enc P w base spare held m f.type ((cs.drop f.offset).take (P.cellsOf f.type)) = ys[i]?) →
          (DataW.weightsEach P (l.map (·.type)) (ys.map (·.1))).all (· ≤ reachBytes) = true → fitF P (fits P n) l off (P.cellsOf t) ty = true →
          ∃ ps, shape ty ps ∧ ImmL w (fun b => b < w.heap.size) (cs.drop off) ps := by
        intro l
        induction l with
        | nil =>
          intro ys off ty _ _ _ hf
          cases ty <;> simp [fitF] at hf
          refine ⟨[], rfl, ?_⟩
          rw [List.drop_of_length_le (by omega)]
          exact ⟨rfl, fun i v p hv => by simp at hv⟩
        | cons f l ihl =>
          intro ys off ty hll hl hwt hf
          cases ys with
          | nil => simp at hll
          | cons y ys =>
          cases ty <;> simp [fitF] at hf
          rename_i a b
          obtain ⟨⟨⟨h1, h2⟩, h3⟩, h4⟩ := hf
          have hy := hl 0 f rfl
          rw [List.getElem?_cons_zero] at hy
          simp only [List.map_cons, DataW.weightsEach, List.all_append, Bool.and_eq_true] at hwt
          obtain ⟨p, k1, k2⟩ := ih m (by omega) f.type _ y hy hwt.1 n a h3
          obtain ⟨q, j1, j2⟩ := ihl ys (off + a.size) b (by simpa using hll) (fun i f hf => by
            have := hl (i + 1) f (by simpa using hf)
            simpa using this) hwt.2 h4
          refine ⟨p ++ q, ⟨p, q, rfl, k1, j1⟩, ?_⟩
          rw [h1, h2] at k2
          have := k2.append j2
          rw [← List.drop_drop, List.take_append_drop] at this
          exact this
      obtain ⟨ps, k1, k2⟩ := go fs.toList xs 0 ty (by simpa using hxl.symm) (fun i f hf => hx i f (by simpa using hf)) hwt hf
      exact ⟨ps, k1, by simpa using k2⟩
    · cases hf
theorem arg_agg {r : Reach} {b0 : Nat} {t : TypeId} {fs : Array Field} {v : Value} {d : DataW H} {ps : List MemPlace} {ty : Ty} (ht : P.underlying t = some (.struct fs)) (hval : Value.okWide P w r b0 t v) (hd : DataW.Trod enc P w base spare held t v d ps) (hwt : (d.weights P t).all (· ≤ reachBytes) = true)
    (hf : fits P 8 t ty = true) : ∃ qs, shape ty qs ∧ Rep w (fun b => b < w.heap.size) v (.agg qs) [] := by
  unfold Value.okWide at hval
  rw [ht] at hval
  obtain ⟨cs, rfl, _⟩ := hval
  obtain ⟨fuel, hd⟩ := hd
  obtain ⟨qs, h1, h2⟩ := tr_imm fuel t _ _ hd hwt 8 ty hf
  exact ⟨qs, h1, .agg cs qs h2⟩
theorem arg_cell {t : TypeId} {v : Value} {d : DataW H} {ps : List MemPlace} {ty : Ty} (hv : v.cells = #[v]) (hd : DataW.Trod enc P w base spare held t v d ps) (hwt : (d.weights P t).all (· ≤ reachBytes) = true)
    (hf : fits P 8 t ty = true) : ∃ qs, shape ty qs ∧ ∀ q, qs = [q] → Rep w (fun b => b < w.heap.size) v q [] := by
  obtain ⟨fuel, hd⟩ := hd
  rw [hv] at hd
  obtain ⟨qs, h1, h2⟩ := tr_imm fuel t _ _ hd hwt 8 ty hf
  exact ⟨qs, h1, fun q hq => .plain (h2.2 0 v q rfl (by rw [hq]; rfl))⟩
end
end Go.PE
namespace Go.PE
/-! ### Decimal digits -/
abbrev Bs := List UInt8
def isDg (c : UInt8) : Bool := 48 ≤ c.toNat && c.toNat ≤ 57
def dv (c : UInt8) : Nat := c.toNat - 48
def val (s : Bs) : Nat := s.foldl (fun n c => n * 10 + dv c) 0
def dec (n : Nat) : Bs := Lib.decDigits n
def numeral (s : Bs) : Bool := s.all isDg && (s == [48] || (s != [] && s.head? != some 48))
theorem val_nil : val [] = 0 := rfl
theorem foldl_dv (s : Bs) (n : Nat) : s.foldl (fun n c => n * 10 + dv c) n = n * 10 ^ s.length + val s := by
  induction s generalizing n with
  | nil => simp [val]
  | cons c s ih =>
    unfold val
    simp only [List.foldl_cons, List.length_cons]
    rw [ih, ih (0 * 10 + dv c), Nat.pow_succ]
    simp only [Nat.zero_mul, Nat.zero_add, Nat.add_mul]
    rw [Nat.mul_assoc n 10, Nat.mul_comm 10]
    omega
theorem val_append (s t : Bs) : val (s ++ t) = val s * 10 ^ t.length + val t := by
  unfold val
  rw [List.foldl_append, foldl_dv]
  rfl
theorem val_cons (c : UInt8) (s : Bs) : val (c :: s) = dv c * 10 ^ s.length + val s := by
  rw [show c :: s = [c] ++ s from rfl, val_append]
  simp [val]
theorem val_snoc (s : Bs) (c : UInt8) : val (s ++ [c]) = val s * 10 + dv c := by
  rw [val_append]; simp [val]
theorem dv_lt {c : UInt8} (h : isDg c = true) : dv c < 10 := by
  unfold isDg at h; unfold dv; simp at h; omega
theorem val_lt : ∀ {s : Bs}, s.all isDg = true → val s < 10 ^ s.length
  | [], _ => by simp [val]
  | c :: s, h => by
    rw [List.all_cons, Bool.and_eq_true] at h
    have h1 := dv_lt h.1
    have h2 := val_lt h.2
    rw [val_cons, List.length_cons, Nat.pow_succ]
    have : dv c * 10 ^ s.length ≤ 9 * 10 ^ s.length := Nat.mul_le_mul_right _ (by omega)
    omega
theorem dec_small {n : Nat} (h : n < 10) : dec n = [UInt8.ofNat (48 + n)] := by
  unfold dec; rw [Lib.decDigits, dif_pos h]
theorem dec_big {n : Nat} (h : ¬ n < 10) : dec n = dec (n / 10) ++ [UInt8.ofNat (48 + n % 10)] := by
  unfold dec; rw [Lib.decDigits, dif_neg h]
theorem dg_nat {k : Nat} (h : k < 10) : (UInt8.ofNat (48 + k)).toNat = 48 + k := by
  rw [UInt8.toNat_ofNat', Nat.mod_eq_of_lt (by omega)]
theorem dg_dv {k : Nat} (h : k < 10) : dv (UInt8.ofNat (48 + k)) = k := by
  unfold dv
  rw [dg_nat h]
  omega
theorem dg_isDg {k : Nat} (h : k < 10) : isDg (UInt8.ofNat (48 + k)) = true := by
  unfold isDg
  rw [dg_nat h]
  rw [Bool.and_eq_true, decide_eq_true_eq, decide_eq_true_eq]; omega
theorem dg_of {c : UInt8} (h : isDg c = true) : UInt8.ofNat (48 + dv c) = c := by
  unfold isDg at h; unfold dv; simp at h
  apply UInt8.toNat.inj
  rw [UInt8.toNat_ofNat', Nat.mod_eq_of_lt (by omega)]
  omega
theorem val_dec (n : Nat) : val (dec n) = n := by
  induction n using Nat.strongRecOn with
  | _ n ih =>
    by_cases h : n < 10
    · rw [dec_small h]; show 0 * 10 + dv _ = _; rw [dg_dv h]; omega
    · rw [dec_big h, val_snoc, ih _ (by omega), dg_dv (by omega)]
      omega
theorem dec_all (n : Nat) : (dec n).all isDg = true := by
  induction n using Nat.strongRecOn with
  | _ n ih =>
    by_cases h : n < 10
    · rw [dec_small h]; show (isDg _ && true) = true; rw [dg_isDg h]; rfl
    · rw [dec_big h, List.all_append, ih _ (by omega)]
      show (true && (isDg _ && true)) = true
      rw [dg_isDg (show n % 10 < 10 by omega)]; rfl
theorem dec_ne (n : Nat) : dec n ≠ [] := by
  by_cases h : n < 10
  · rw [dec_small h]; simp
  · rw [dec_big h]; simp
theorem dec_zero : dec 0 = [48] := by rw [dec_small (by omega)]; rfl
theorem dec_head (n : Nat) (h : 0 < n) : (dec n).head? ≠ some 48 := by
  induction n using Nat.strongRecOn with
  | _ n ih =>
    by_cases h10 : n < 10
    · rw [dec_small h10]
      simp only [List.head?_cons, ne_eq, Option.some.injEq]
      intro hc
      have := congrArg UInt8.toNat hc
      rw [dg_nat h10] at this
      have h48 : (48 : UInt8).toNat = 48 := rfl
      omega
    · rw [dec_big h10, List.head?_append]
      have := ih (n / 10) (by omega) (by omega)
      cases hd : (dec (n / 10)).head? with
      | none => rw [List.head?_eq_none_iff] at hd; exact absurd hd (dec_ne _)
      | some c => rw [hd] at this; simpa using this
theorem dec_numeral (n : Nat) : numeral (dec n) = true := by
  unfold numeral
  rw [dec_all, Bool.true_and, Bool.or_eq_true]
  by_cases h : n = 0
  · subst h; left; rw [dec_zero]; rfl
  · right
    rw [Bool.and_eq_true]
    exact ⟨by simpa using dec_ne n, by simpa using dec_head n (by omega)⟩
theorem dec_len_pos (n : Nat) : 0 < (dec n).length := List.length_pos_iff.2 (dec_ne n)
theorem val_pos_of_head : ∀ {s : Bs}, s.all isDg = true → s ≠ [] → s.head? ≠ some 48 → 10 ^ (s.length - 1) ≤ val s
  | [], _, h, _ => absurd rfl h
  | c :: s, h, _, hh => by
    rw [List.all_cons, Bool.and_eq_true] at h
    rw [val_cons, List.length_cons, Nat.add_sub_cancel]
    have : 1 ≤ dv c := by
      have h1 := h.1
      unfold isDg at h1; unfold dv; simp at h1
      have : c.toNat ≠ 48 := fun hc => hh (by simp; exact UInt8.toNat.inj (by simpa using hc))
      omega
    have := Nat.mul_le_mul_right (10 ^ s.length) this
    omega
theorem dec_val_aux : ∀ (s : Bs), s.all isDg = true → s ≠ [] → s.head? ≠ some 48 → dec (val s) = s := by
  intro s
  induction hn : s.length using Nat.strongRecOn generalizing s with
  | _ n ih =>
    intro h1 h2 h3
    obtain ⟨t, c, rfl⟩ : ∃ t c, s = t ++ [c] := ⟨s.dropLast, s.getLast h2, (List.dropLast_concat_getLast h2).symm⟩
    rw [List.all_append, Bool.and_eq_true] at h1
    have hc : isDg c = true := by simpa using h1.2
    have hd := dv_lt hc
    rw [val_snoc]
    by_cases ht : t = []
    · subst ht
      rw [val_nil, Nat.zero_mul, Nat.zero_add, dec_small hd, dg_of hc]
      rfl
    · have hh : t.head? ≠ some 48 := by
        intro hx; apply h3; rw [List.head?_append, hx]; rfl
      have hp := val_pos_of_head h1.1 ht hh
      have hpos : 0 < val t := Nat.lt_of_lt_of_le (Nat.pow_pos (by omega)) hp
      rw [dec_big (by omega)]
      rw [show (val t * 10 + dv c) / 10 = val t by omega, show (val t * 10 + dv c) % 10 = dv c by omega, dg_of hc]
      rw [ih t.length (by rw [← hn]; simp) t rfl h1.1 ht hh]
theorem dec_val {s : Bs} (h : numeral s = true) : dec (val s) = s := by
  unfold numeral at h
  rw [Bool.and_eq_true, Bool.or_eq_true] at h
  obtain ⟨h1, h2 | h2⟩ := h
  · have : s = [48] := by simpa using h2
    subst this
    rw [show val [48] = 0 from rfl, dec_zero]
  · rw [Bool.and_eq_true] at h2
    exact dec_val_aux s h1 (by simpa using h2.1) (by simpa using h2.2)
theorem dec_inj {n m : Nat} (h : dec n = dec m) : n = m := by
  have := congrArg val h; rwa [val_dec, val_dec] at this
theorem dec_lt_pow (n : Nat) : n < 10 ^ (dec n).length := by
  have := val_lt (dec_all n); rwa [val_dec] at this
theorem dec_len_le {n k : Nat} (hk : 0 < k) (h : n < 10 ^ k) : (dec n).length ≤ k := by
  by_cases h0 : n = 0
  · subst h0; rw [dec_zero]; exact hk
  · have := val_pos_of_head (dec_all n) (dec_ne n) (dec_head n (by omega))
    rw [val_dec] at this
    have h2 := Nat.lt_of_le_of_lt this h
    have := (Nat.pow_lt_pow_iff_right (show 1 < 10 by omega)).1 h2
    omega
theorem dec_len_mono {n m : Nat} (h : n ≤ m) : (dec n).length ≤ (dec m).length :=
  dec_len_le (dec_len_pos m) (Nat.lt_of_le_of_lt h (dec_lt_pow m))
/-! ### Texts of rational numbers -/
def qt (neg : Bool) (n d : Nat) : Bs := (if neg && n != 0 then [45] else []) ++ dec n ++ (if d = 1 then [] else 47 :: dec d)
def rs (q : Rat) : Bs := qt (decide (q.num < 0)) q.num.natAbs q.den
def sg (neg : Bool) (n : Nat) : Int := if neg then -(n : Int) else n
theorem sg_natAbs (neg : Bool) (n : Nat) : (sg neg n).natAbs = n := by unfold sg; cases neg <;> simp
theorem sg_lt (neg : Bool) (n : Nat) : sg neg n < 0 ↔ neg = true ∧ n ≠ 0 := by unfold sg; cases neg <;> simp <;> omega
theorem qt_congr {neg neg' : Bool} {n d : Nat} (h : n ≠ 0 → neg = neg') : qt neg n d = qt neg' n d := by
  unfold qt
  by_cases hn : n = 0
  · subst hn; simp
  · rw [h hn]
theorem rs_mkRat (neg : Bool) (n d : Nat) (hd : d ≠ 0) : rs (mkRat (sg neg n) d) = qt neg (n / n.gcd d) (d / n.gcd d) := by
  unfold rs
  rw [Rat.num_mkRat, Rat.den_mkRat, if_neg hd, if_neg hd, sg_natAbs, Nat.gcd_comm d n]
  have hg : 0 < n.gcd d := Nat.gcd_pos_of_pos_right _ (by omega)
  have h1 : (sg neg n / (n.gcd d : Int)).natAbs = n / n.gcd d := by
    rw [Int.natAbs_ediv_of_dvd, sg_natAbs, Int.natAbs_natCast]
    rw [← Int.dvd_natAbs, sg_natAbs, Int.natCast_dvd_natCast]
    exact Nat.gcd_dvd_left n d
  rw [h1]
  apply qt_congr
  intro hn
  have hn0 : n ≠ 0 := by rintro rfl; simp at hn
  cases neg with
  | false =>
    have : ¬ (sg false n / (n.gcd d : Int) < 0) := by
      have : 0 ≤ sg false n / (n.gcd d : Int) := Int.ediv_nonneg (by simp [sg]) (by omega)
      omega
    simpa using this
  | true =>
    have : sg true n / (n.gcd d : Int) < 0 := Int.ediv_neg_of_neg_of_pos (by rw [sg_lt]; exact ⟨rfl, hn0⟩) (by omega)
    simpa using this
theorem rs_self (q : Rat) : mkRat (sg (decide (q.num < 0)) q.num.natAbs) q.den = q := by
  have : sg (decide (q.num < 0)) q.num.natAbs = q.num := by
    unfold sg
    by_cases h : q.num < 0
    · simp [h]; omega
    · simp [h]; omega
  rw [this, Rat.mkRat_self]
theorem dg_ne {c : UInt8} (h : isDg c = true) : c ≠ 45 ∧ c ≠ 47 := by
  constructor <;> (rintro rfl; revert h; decide)
theorem dec_mem {n : Nat} {c : UInt8} (h : c ∈ dec n) : isDg c = true := List.all_eq_true.1 (dec_all n) c h
/-- Split at the first slash. -/
def cutS (s : Bs) : Bs × Bs × Bool :=
  match s with
  | [] => ([], [], false)
  | c :: s => if c = 47 then ([], s, true) else ((c :: (cutS s).1), (cutS s).2.1, (cutS s).2.2)
theorem cutS_none : ∀ {s : Bs}, 47 ∉ s → cutS s = (s, [], false)
  | [], _ => rfl
  | c :: s, h => by
    rw [List.mem_cons, not_or] at h
    rw [cutS, if_neg (fun e => h.1 e.symm), cutS_none h.2]
theorem cutS_some : ∀ {s : Bs} (t : Bs), 47 ∉ s → cutS (s ++ 47 :: t) = (s, t, true)
  | [], t, _ => by simp [cutS]
  | c :: s, t, h => by
    rw [List.mem_cons, not_or] at h
    rw [List.cons_append, cutS, if_neg (fun e => h.1 e.symm), cutS_some t h.2]
theorem cutS_spec (s : Bs) : 47 ∉ (cutS s).1 ∧ s = (cutS s).1 ++ (if (cutS s).2.2 then 47 :: (cutS s).2.1 else []) ∧ ((cutS s).2.2 = false → (cutS s).2.1 = []) := by
  induction s with
  | nil => simp [cutS]
  | cons c s ih =>
    rw [cutS]
    by_cases h : c = 47
    · subst h; simp
    · rw [if_neg h]
      refine ⟨?_, ?_, ih.2.2⟩
      · simp only [List.mem_cons, not_or]; exact ⟨fun e => h e.symm, ih.1⟩
      · rw [List.cons_append, ← ih.2.1]
/-- A text without its leading minus. -/
def cutM (s : Bs) : Bs × Bool := match s with | c :: t => if c = 45 then (t, true) else (c :: t, false) | [] => ([], false)
/-- The number of a canonical text. -/
def rd (s : Bs) : Option Rat :=
  let m := cutM s
  let c := cutS m.1
  if numeral c.1 && !(c.1 == [48] && (m.2 || c.2.2)) then
    if c.2.2 then
      if numeral c.2.1 && decide (2 ≤ val c.2.1) && decide ((val c.1).gcd (val c.2.1) = 1) then some (mkRat (sg m.2 (val c.1)) (val c.2.1)) else none
    else some (mkRat (sg m.2 (val c.1)) 1)
  else none
theorem slash_dec (n : Nat) : (47 : UInt8) ∉ dec n := fun h => (dg_ne (dec_mem h)).2 rfl
theorem cutM_dec (n : Nat) (t : Bs) : cutM (dec n ++ t) = (dec n ++ t, false) := by
  cases h : dec n with
  | nil => exact absurd h (dec_ne n)
  | cons c s =>
    have := (dg_ne (dec_mem (n := n) (c := c) (by rw [h]; simp))).1
    simp [cutM, this]
theorem cutS_dec (n : Nat) (d : Nat) : cutS (dec n ++ (if d = 1 then [] else 47 :: dec d)) = (dec n, if d = 1 then [] else dec d, decide (d ≠ 1)) := by
  by_cases h : d = 1
  · simp only [h, if_true, List.append_nil]; rw [cutS_none (slash_dec n)]; rfl
  · rw [if_neg h, cutS_some _ (slash_dec n)]; simp [h]
theorem rd_rs (q : Rat) : rd (rs q) = some q := by
  have hm : cutM (rs q) = (dec q.num.natAbs ++ (if q.den = 1 then [] else 47 :: dec q.den), decide (q.num < 0)) := by
    unfold rs qt
    by_cases h : q.num < 0
    · have : (decide (q.num < 0) && q.num.natAbs != 0) = true := by rw [decide_eq_true h, Bool.true_and, bne_iff_ne]; omega
      rw [this]
      simp [cutM, h]
    · have : (decide (q.num < 0) && q.num.natAbs != 0) = false := by simp [h]
      rw [this]
      simp only [Bool.false_eq_true, if_false, List.nil_append]
      rw [cutM_dec]
      simp [h]
  unfold rd
  simp only [hm]
  simp only [cutS_dec, dec_numeral, Bool.true_and, val_dec]
  have hz : (dec q.num.natAbs == [48]) = decide (q.num = 0) := by
    by_cases h : q.num = 0
    · simp [h, dec_zero]
    · have : dec q.num.natAbs ≠ [48] := fun e => by
        rw [← dec_zero] at e
        have := dec_inj e
        omega
      simp [h, this]
  rw [hz]
  have hden : q.num = 0 → q.den = 1 := fun h => by
    have := q.reduced
    rw [h] at this
    simpa [Nat.Coprime] using this
  by_cases hd : q.den = 1
  · have : (decide (q.num = 0) && (decide (q.num < 0) || decide (q.den ≠ 1))) = false := by
      by_cases h0 : q.num = 0 <;> simp [h0, hd]
    rw [this]
    simp only [Bool.not_false, if_true, hd, ne_eq, not_true, decide_false, Bool.false_eq_true, if_false]
    rw [← hd, rs_self]
  · have h0 : q.num ≠ 0 := fun h => hd (hden h)
    have : (decide (q.num = 0) && (decide (q.num < 0) || decide (q.den ≠ 1))) = false := by simp [h0]
    rw [this]
    have h2 : 2 ≤ q.den := by have := q.den_pos; omega
    have hg : q.num.natAbs.gcd q.den = 1 := q.reduced
    simp only [Bool.not_false, if_true, hd, ne_eq, not_false_eq_true, decide_true, if_false, dec_numeral, val_dec, h2, hg, Bool.and_self]
    rw [rs_self]
theorem rs_inj {p q : Rat} (h : rs p = rs q) : p = q := by
  have := congrArg rd h
  rw [rd_rs, rd_rs] at this
  exact Option.some.inj this
theorem cutM_spec (s : Bs) : s = (if (cutM s).2 then [45] else []) ++ (cutM s).1 := by
  unfold cutM
  split
  · split
    · rename_i h; subst h; rfl
    · rfl
  · rfl
theorem rs_rd {s : Bs} {q : Rat} (h : rd s = some q) : s = rs q := by
  unfold rd at h
  simp only at h
  have hs := cutM_spec s
  have hc := cutS_spec (cutM s).1
  generalize cutM s = m at hs hc h
  obtain ⟨t, neg⟩ := m
  simp only at hs hc h
  generalize cutS t = c at hc h
  obtain ⟨a, b, f⟩ := c
  simp only at hc h
  obtain ⟨hc1, hc2, hc3⟩ := hc
  split at h
  · rename_i h1
    rw [Bool.and_eq_true] at h1
    obtain ⟨h1, h2⟩ := h1
    have ha := dec_val h1
    have hneg : neg = true → val a ≠ 0 := by
      rintro rfl hv
      rw [hv, dec_zero] at ha
      rw [← ha] at h2
      simp at h2
    cases f with
    | true =>
      simp only [if_true] at h
      split at h
      · rename_i h3
        rw [Bool.and_eq_true, Bool.and_eq_true] at h3
        obtain ⟨⟨h3, h4⟩, h5⟩ := h3
        have hb := dec_val h3
        simp only [decide_eq_true_eq] at h4 h5
        cases h
        rw [rs_mkRat _ _ _ (by omega), h5, Nat.div_one, Nat.div_one]
        unfold qt
        rw [if_neg (show ¬ val b = 1 by omega), ha, hb, hs, hc2]
        cases neg with
        | false => simp
        | true => simp [hneg rfl]
      · cases h
    | false =>
      simp only [Bool.false_eq_true, if_false, Option.some.injEq] at h
      subst h
      rw [rs_mkRat _ _ _ (by omega), Nat.gcd_one_right, Nat.div_one, Nat.div_one]
      unfold qt
      rw [ha, hs, hc2]
      cases neg with
      | false => simp
      | true => simp [hneg rfl]
  · cases h
end Go.PE
