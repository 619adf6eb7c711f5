/-
  A part of the proof that the law's function returns true and leaves its arguments as they were, for every input (no condition): own lemmas of the proof, in the order of their use.
-/
import Derived.Test.YtkfppicmdgbfjaaGreatDoorU08
import Derived.MapKept
set_option linter.all false
namespace Go.PE
open Go.RowKit
/-! ### Maps -/
theorem strV_inj {a b : List UInt8} : strV a = strV b ↔ a = b := by
  constructor
  · intro h
    unfold strV at h
    injection h with h
    injection h with h
    injection h
  · intro h; rw [h]
theorem findNow_map {k : List UInt8} : ∀ {es : List MapEntry} {ks : List (List UInt8)} {vs : List (List PV)} (i0 : Nat), es.map (·.key) = ks.map strV → es.length = vs.length →
    (mapGet ks vs k = none ∧ (∀ c, mapPut ks vs k c = (ks ++ [k], vs ++ [c])) ∧ Instr.findNow .string (strV k) es i0 = some none) ∨
    ∃ i en row, es[i]? = some en ∧ vs[i]? = some row ∧ ks[i]? = some k ∧ mapGet ks vs k = some row ∧ (∀ c, mapPut ks vs k c = (ks, vs.set i c)) ∧ Instr.findNow .string (strV k) es i0 = some (some (i0 + i, en.val))
  | [], ks, vs, i0, hk, hl => by
    cases ks with
    | cons => simp at hk
    | nil =>
      cases vs with
      | cons => simp at hl
      | nil => exact .inl ⟨rfl, fun _ => rfl, rfl⟩
  | en :: es, ks, vs, i0, hk, hl => by
    cases ks with
    | nil => simp at hk
    | cons k0 ks =>
      cases vs with
      | nil => simp at hl
      | cons v0 vs =>
        simp only [List.map_cons, List.cons.injEq] at hk
        simp only [List.length_cons, Nat.add_right_cancel_iff] at hl
        obtain ⟨r, hr, hiff⟩ := MapKept.sameNow_of_keys (d := .string) (a := strV k) (b := strV k0) trivial trivial
        rw [← hk.1] at hr
        by_cases hkk : k0 = k
        · subst hkk
          have hrt : r = true := hiff.2 rfl
          subst hrt
          exact .inr ⟨0, en, v0, rfl, rfl, rfl, by simp [mapGet], fun c => by simp [mapPut], by simp [Instr.findNow, hr]⟩
        · have hrf : r = false := by
            cases r with
            | false => rfl
            | true => exact absurd (strV_inj.1 (hiff.1 rfl)).symm hkk
          subst hrf
          have hstep : Instr.findNow .string (strV k) (en :: es) i0 = Instr.findNow .string (strV k) es (i0 + 1) := by simp [Instr.findNow, hr]
          rcases findNow_map (k := k) (i0 + 1) hk.2 hl with ⟨h1, h2, h3⟩ | ⟨i, en', row, h1, h2, h3, h4, h5, h6⟩
          · refine .inl ⟨by simp [mapGet, hkk, h1], fun c => by simp [mapPut, hkk, h2], by rw [hstep, h3]⟩
          · refine .inr ⟨i + 1, en', row, by simpa using h1, by simpa using h2, by simpa using h3, by simp [mapGet, hkk, h4], fun c => by simp [mapPut, hkk, h5], ?_⟩
            rw [hstep, h6]
            congr 3
            omega
section
variable {P : Program} {B : Base} {Fz : Nat → Prop} {e : Env} {a : Act} {tm : Tm} {w : World} {ob : Nat → List Nat} {S S' : Stamp → Prop} {p : Stamp}
theorem Inv.mapAt (I : Inv B Fz e tm w ob S) {r : Nat} {pl : Option Nat} {st : Stamp} {ks : MKeys} {vs : List (List PV)} (h : mapIf (e r) pl st = some (ks, vs)) :
    ∃ u bs, PlaceVal w (tm r) pl u ∧ Rep w Fz u (.omap st ks vs) bs ∧ ∀ b ∈ bs, b ∈ ob r := by
  replace h := mapAt_place (mapIf_stamp h)
  unfold placeC? at h
  split at h
  · have he := Option.some.inj h
    have := I.slot r (by rw [he]; rfl)
    rw [he] at this
    exact ⟨_, _, rfl, this, fun b hb => hb⟩
  · rename_i c st' cs he
    have := I.slot r (by rw [he]; rfl)
    rw [he] at this
    generalize tm r = u at *
    generalize ob r = bs at *
    cases this with
    | plain h => exact absurd h.okC (by simp [okC])
    | box g arr e' _ _ bs' hg hR hcc =>
      obtain ⟨v, b, h1, h2, h3⟩ := hR.get h
      refine ⟨v, b, ⟨g, rfl, ?_⟩, h2, fun x hx => by simp [h3 x hx]⟩
      simp only [World.cell?, hg]
      simpa using h1
  · cases h
/-- A map that is read. -/
theorem Inv.mapVal (I : Inv B Fz e (tmOf B a) w ob S) {x : Operand} {ks : MKeys} {vs : List (List PV)} (h : mapOf (res e x) = some (ks, vs)) :
    (a.eval x = .map none ∧ ks.2 = [] ∧ vs = []) ∨ ∃ g clock es c, a.eval x = .map (some g) ∧ w.heap[g]? = some (.map es clock) ∧ MapSh es clock ks vs c ∧ ∀ i j q, cell2 vs i j = some q → Imm w Fz (c i j) q := by
  have fin : ∀ {u : Value} {st : Stamp} {bs : List Nat}, a.eval x = u → Rep w Fz u (.omap st ks vs) bs →
      (a.eval x = .map none ∧ ks.2 = [] ∧ vs = []) ∨ ∃ g clock es c, a.eval x = .map (some g) ∧ w.heap[g]? = some (.map es clock) ∧ MapSh es clock ks vs c ∧ ∀ i j q, cell2 vs i j = some q → Imm w Fz (c i j) q := by
    intro u st bs hu hR
    cases hR with
    | plain h => exact absurd h.okC (by simp [okC])
    | omap g clock es _ _ _ c hg hm hr => exact .inr ⟨g, clock, es, c, hu, hg, hm, hr⟩
  unfold mapOf at h
  split at h
  · rename_i ks' vs' hx
    cases h
    have hi := I.imm x (by rw [show opv e x = _ from hx]; rfl)
    rw [show opv e x = _ from hx] at hi
    generalize hev : a.eval x = u at hi
    cases hi with
    | imapNil => exact .inl ⟨rfl, rfl, rfl⟩
    | imap g clock es _ _ c hF hg hm hr => exact .inr ⟨g, clock, es, c, rfl, hg, hm, hr⟩
  · rename_i st ks' vs' hx
    cases h
    obtain ⟨s, rfl⟩ := opv_own_tmp (e := e) (x := x) (by rw [show opv e x = _ from hx]; rfl) (by rw [show opv e x = _ from hx]; simp)
    obtain ⟨hvs, he⟩ := tmp_val hx (by simp)
    have hR := I.slot s (by rw [he]; rfl)
    rw [he] at hR
    exact fin (tmOf_ne B a hvs).symm hR
  · rename_i r pl st hx
    obtain ⟨s, rfl, hvs, he, h2⟩ := ref_tmp hx rfl (by simp)
    rw [h2 r rfl] at h
    have href := I.ref s (by rw [he]; rfl)
    rw [he] at href
    obtain ⟨u, bs, k1, k2, _⟩ := I.mapAt h
    have := (href ks vs h).unique k1
    exact fin ((tmOf_ne B a hvs).symm.trans this) k2
  · cases h
theorem mapT_spec {t : TypeId} {m : Bool × List PV} (h : mapT P t = some m) : ∃ k et i z, P.underlying t = some (.map k et) ∧ P.underlying k = some .string ∧ P.info? et = some i ∧ i.zero = some z ∧
    zeroFits z.cells.toList m.2 = true ∧ z = entV m.1 (fun j => z.cells.toList.getD j undef) m.2.length ∧ (m.1 = false → m.2.length = 1) := by
  unfold mapT at h
  split at h
  · rename_i k et hu
    split at h
    · rename_i ag zs hk ha hz
      split at h
      · rename_i hc
        cases h
        obtain ⟨i, z, hi, hz', hf⟩ := zeroT_spec hz
        refine ⟨k, et, i, z, hu, hk, hi, hz', hf, ?_, fun hag => hc.1.resolve_left (by have hag : ag = false := hag; simp [hag])⟩
        have hl : z.cells.toList.length = zs.length := (zero_imm (w := default) (Fz := fun _ => False) hf).1.1
        have h2 := hc.2
        unfold zeroAgg at h2
        rw [hi] at h2
        simp only [Option.bind_some, hz'] at h2
        unfold entV
        cases z with
        | agg arr =>
          simp only [Option.some.injEq] at h2
          subst h2
          simp only [if_true, Value.cells] at hl ⊢
          congr 1
          apply Array.ext'
          rw [← hl]
          apply List.ext_getElem
          · simp
          · intro j h1 h2
            simp at h1
            simp [h1]
        | _ =>
          simp only [Option.some.injEq] at h2
          subst h2
          rfl
      · cases h
    · cases h
  · cases h
def foundV (z : Value) (r : Option (Nat × Value)) : Value := match r with | some (_, v) => v | none => z
theorem Plain.stamps {u : Value} {v : PV} (h : Plain w Fz u v) : stamps1 v = [] := by
  rcases h with h | ⟨_, _, _, rfl, _⟩
  · cases h <;> rfl
  · rfl
theorem rowVal_plain {ag : Bool} {f : Nat → Value} {row : List PV} {v : PV} (hr : ∀ j q, row[j]? = some q → Imm w Fz (f j) q) (h : rowVal ag row = some v) : Plain w Fz (entV ag f row.length) v := by
  unfold rowVal at h
  unfold entV
  split at h
  · rename_i hag
    cases h
    subst hag
    refine .inr ⟨_, row, rfl, rfl, by simp, fun j u q hu hq => ?_⟩
    simp only [List.getElem?_map] at hu
    obtain ⟨j', hj, rfl⟩ := Option.map_eq_some_iff.1 hu
    obtain ⟨hj1, hj2⟩ := List.getElem?_eq_some_iff.1 hj
    simp at hj2
    subst hj2
    exact hr _ _ hq
  · rename_i hag
    rw [Bool.not_eq_true] at hag
    subst hag
    split at h
    · cases h
      exact .inl (hr 0 _ rfl)
    · cases h
theorem str_lit {u : Value} {s : List UInt8} (h : Imm w Fz u (.str s)) : u = strV s := by
  cases h
  simp [strV]
theorem run_lookupS {t k et : TypeId} (ht : P.underlying t = some (.map k et)) (hk : P.underlying k = some .string) {i : TypeInfo} {z : Value} (hi : P.info? et = some i) (hz : i.zero = some z)
    {m : Option Nat} {es : Array MapEntry} (hm : match m with | some g => ∃ clock, w.heap[g]? = some (.map es clock) | none => es = #[]) {s : List UInt8} {r : Option (Nat × Value)}
    (hf : Instr.findNow .string (strV s) es.toList 0 = some r) (ok : Bool) :
    (Instr.lookup t (.map m) (strV s) ok).run P w = .ok (if ok then .tuple #[(foundV z r), .bool r.isSome] else (foundV z r)) w := by
  have hck := fun b => MapKept.run_checkKey (P := P) (w := w) (k := strV s) hk trivial b 9999
  have hfk := MapKept.run_findKey (P := P) (w := w) (k := strV s) hk hf
  unfold Instr.lookup
  cases m with
  | none =>
    simp only at hm
    subst hm
    simp only [Sem.run_bind, run_underlying ht, Result.andThen_ok, Sem.run_pure, hck, hfk]
    cases r with
    | none => simp [zeroValue, typeInfo, run_program, hi, hz, foundV]
    | some q => simp [foundV]
  | some g =>
    obtain ⟨clock, hg⟩ := hm
    simp only [Sem.run_bind, run_underlying ht, Result.andThen_ok, MapKept.run_getObj_map hg, Sem.run_pure, hck, hfk]
    cases r with
    | none => simp [zeroValue, typeInfo, run_program, hi, hz, foundV]
    | some q => simp [foundV]
theorem out_lookup (I : Inv B Fz e (tmOf B a) w ob S) {o : Oper} {d : Nat} {t : TypeId} {x k : Operand} {ok : Bool} (ho : o.op = .lookup t x k ok) {m : Bool × List PV} (hm : mapT P t = some m)
    {ups : Ups} (h : lookupS m d ok (res e x) (res e k).1 = some ups) : Out P B e a w S p o d ups := by
  obtain ⟨kt, et, i, z, ht, hkt, hi, hz, hf, hze, _⟩ := mapT_spec hm
  unfold lookupS at h
  split at h
  · rename_i ks vs s hmo hks
    split at h
    · rename_i hag
      split at h
      · rename_i v hv
        have hki : Imm w Fz (a.eval k) (.str s) := by
          have := I.imm k (by rw [show opv e k = _ from hks]; rfl)
          rwa [show opv e k = _ from hks] at this
        have hkv := str_lit hki
        have hzi := (zero_imm (w := w) (Fz := Fz) hf).1
        have key : ∃ m0 es r, a.eval x = .map m0 ∧ (match m0 with | some g => ∃ clock, w.heap[g]? = some (.map es clock) | none => es = #[]) ∧ Instr.findNow .string (strV s) (es : Array MapEntry).toList 0 = some r ∧
            r.isSome = (mapGet ks.2 vs s).isSome ∧ Plain w Fz (foundV z r) v := by
          have none' : mapGet ks.2 vs s = none → Plain w Fz z v := fun hn => by
            rw [hn, Option.getD_none] at hv
            rw [hze]
            refine rowVal_plain (fun j q hq => ?_) hv
            have hj : j < z.cells.toList.length := by rw [hzi.1]; exact (List.getElem?_eq_some_iff.1 hq).1
            have h1 : z.cells.toList[j]? = some (z.cells.toList[j]'hj) := List.getElem?_eq_getElem hj
            rw [List.getD, h1]
            exact hzi.2 j _ q h1 hq
          rcases I.mapVal hmo with ⟨h1, h2, h3⟩ | ⟨g, clock, es, c, h1, h2, h3, h4⟩
          · have hg : mapGet ks.2 vs s = none := by rw [h2]; rfl
            exact ⟨none, #[], none, h1, rfl, rfl, by rw [hg]; rfl, none' hg⟩
          · rcases findNow_map (k := s) 0 h3.key h3.len with ⟨j1, _, j2⟩ | ⟨n, en, row, j1, j2, _, j3, _, j4⟩
            · exact ⟨some g, es, none, h1, ⟨clock, h2⟩, j2, by rw [j1]; rfl, none' j1⟩
            · refine ⟨some g, es, _, h1, ⟨clock, h2⟩, j4, by rw [j3]; rfl, ?_⟩
              have hen := (h3.val n en row j1 j2).1
              rw [hag] at hen
              rw [j3, Option.getD_some] at hv
              show Plain w Fz en.val v
              rw [hen]
              exact rowVal_plain (fun j q hq => h4 n j q (by simp [cell2, j2, hq])) hv
        obtain ⟨m0, es, r, h1, h2, h3, h4, h5⟩ := key
        have hrun := run_lookupS (P := P) (w := w) ht hkt hi hz h2 h3 ok
        have hst := h5.stamps
        cases ok with
        | false =>
          simp only [Bool.false_eq_true, if_false] at h hrun
          cases h
          refine out_plain I ?_ h5
          simp only [execOp, ho, Sem.run_bind, h1, hkv, hrun, Result.andThen_ok, Sem.run_pure]
        | true =>
          simp only [if_true] at h hrun
          cases h
          rw [h4] at hrun
          have hR : ∀ b : Bool, Rep w Fz (.tuple #[(foundV z r), .bool b]) (.tup [v, .bool b]) [] := fun b => by
            have h6 : Rep w Fz (foundV z r) v [] := by
              rcases h5 with h5 | ⟨arr, ps, h7, rfl, h8⟩
              · exact .plain h5
              · rw [h7]; exact .agg arr ps h8
            exact .tup _ _ _ (.cons h6 (.cons (.plain (.bool b)) .nil))
          refine out_of (Fz' := Fz) (ob' := upd ob d []) (w' := w) (u := .tuple #[(foundV z r), .bool (mapGet ks.2 vs s).isSome]) ?_
            (I.put1 d _ _ [] (fun _ h => .inl h) rfl rfl rfl (Nat.le_refl _) (fun _ _ => rfl) (by simp) (by simp) (fun st hs => by rw [show stampsOf (.tup [v, .bool (mapGet ks.2 vs s).isSome]) = [] by simp only [stampsOf, List.flatMap_cons, hst]; rfl] at hs; cases hs) (by simp [stamps1]) (by rw [if_neg (by simp [isRef])]; exact hR _))
          simp only [execOp, ho, Sem.run_bind, h1, hkv, hrun, Result.andThen_ok, Sem.run_pure]
      · cases h
    · cases h
  · cases h
theorem out_makeMap (I : Inv B Fz e (tmOf B a) w ob S) (hp : ¬ S p) {o : Oper} {d : Nat} {t : TypeId} (ho : o.op = .makeMap t none) (ag : Bool) : Out P B e a w S p o d [(d, .omap p (ag, []) [])] := by
  refine out_of (Fz' := Fz) (ob' := upd ob d [w.heap.size]) (w' := w.alloc (.map #[] 0)) (u := .map (some w.heap.size)) ?_
    (I.put1 d _ _ [w.heap.size] (fun _ h => .inl h) rfl rfl rfl (by simp) (fun b hb => alloc_heap_old w _ b hb) (by simp) (by simp) (by simp [stampsOf, stamps1]) (by simpa [stamps1] using hp)
      (by rw [if_neg (by simp [isRef])]; exact .omap _ 0 #[] p _ [] (fun _ _ => undef) (alloc_heap_new w _) ⟨rfl, rfl, fun i en row h => (by simp at h), by simp, by simp⟩ fun i j q hq => (by simp [cell2] at hq)))
  simp only [execOp, ho]
  rfl
/-- The value that goes into a map. -/
theorem Inv.mapRow (I : Inv B Fz e (tmOf B a) w ob S) {tt : TypeId} {v : Operand} {ag : Bool} {c : List PV} (h : valRow ag (hint P tt v (res e v)).1 = some c) :
    ∃ f : Nat → Value, a.eval v = entV ag f c.length ∧ (ag = false → c.length = 1) ∧ ∀ j q, c[j]? = some q → Imm w Fz (f j) q := by
  unfold valRow at h
  split at h
  · rename_i cs hv
    split at h
    · rename_i hag
      cases h
      subst hag
      have hh := hint_ne P tt v (res e v) (by rw [hv]; rfl)
      rw [hh] at hv
      obtain ⟨s, rfl⟩ := opv_own_tmp (e := e) (x := v) (by rw [show opv e v = _ from hv]; rfl) (by rw [show opv e v = _ from hv]; simp)
      obtain ⟨hvs, he⟩ := tmp_val hv (by simp)
      have hR := I.slot s (by rw [he]; rfl)
      rw [he, tmOf_ne B a hvs] at hR
      generalize a.eval (.tmp s) = u at hR ⊢
      generalize ob s = bs at hR
      cases hR with
      | plain h => exact absurd h.okC (by simp [okC])
      | agg arr _ h =>
        refine ⟨fun j => arr.toList.getD j undef, ?_, by simp, fun j q hq => ?_⟩
        · unfold entV
          simp only [if_true]
          congr 1
          apply Array.ext'
          rw [← h.1]
          apply List.ext_getElem
          · simp
          · intro j h1 h2
            simp at h1
            simp [h1]
        · have hj : j < arr.toList.length := by rw [h.1]; exact (List.getElem?_eq_some_iff.1 hq).1
          have h1 : arr.toList[j]? = some (arr.toList[j]'hj) := List.getElem?_eq_getElem hj
          simp only [List.getD, h1]
          exact h.2 j _ q h1 hq
    · cases h
  · split at h
    · rename_i hc
      cases h
      rw [Bool.and_eq_true, Bool.not_eq_true'] at hc
      refine ⟨fun _ => a.eval v, by simp [entV, hc.2], fun _ => rfl, fun j q hq => ?_⟩
      cases j with
      | zero =>
        simp only [List.getElem?_cons_zero, Option.some.injEq] at hq
        subst hq
        exact I.immH P tt v hc.1
      | succ j => simp at hq
    · cases h
/-- A value goes into a map that the call holds. -/
theorem Inv.mapPut (I : Inv B Fz e tm w ob S) {t kt et : TypeId} (ht : P.underlying t = some (.map kt et)) (hkt : P.underlying kt = some .string) {r : Nat} {pl : Option Nat} {st : Stamp} {ks : MKeys} {vs : List (List PV)}
    (h : mapIf (e r) pl st = some (ks, vs)) {u : Value} (hpv : PlaceVal w (tm r) pl u) {s : List UInt8} {val : Value} {f : Nat → Value} {c : List PV} (hv : val = entV ks.1 f c.length) (hc : ks.1 = false → c.length = 1)
    (hi : ∀ j q, c[j]? = some q → Imm w Fz (f j) q) :
    ∃ w', (Instr.mapUpdate t u (strV s) val).run P w = .ok () w' ∧ Inv B Fz (upd e r (putAt (e r) pl (.omap st (ks.1, (PE.mapPut ks.2 vs s c).1) (PE.mapPut ks.2 vs s c).2))) tm w' ob S := by
  obtain ⟨u', bs, g1, g2, g3⟩ := I.mapAt h
  obtain rfl := g1.unique hpv
  cases g2 with
  | plain h => exact absurd h.okC (by simp [okC])
  | omap g clock es _ _ _ cf hg hm hr =>
    have hgob : g ∈ ob r := g3 g (by simp)
    have hck := fun b => MapKept.run_checkKey (P := P) (w := w) (k := strV s) hkt trivial b 9999
    have hrep0 : Rep w Fz (.map (some g)) (.omap st ks vs) [g] := .omap g clock es st ks vs cf hg hm hr
    have hfz : ∀ o b, Fz b → (w.putObj g o).heap[b]? = w.heap[b]? := fun o b hb => World.putObj_heap_other fun h => I.notFz r g hgob (h ▸ hb)
    have hlt := (Array.getElem?_eq_some_iff.1 hg).1
    have fin : ∀ (es' : Array MapEntry) (clock' : Nat) (ks' : MKeys) (vs' : List (List PV)) (cf' : Nat → Nat → Value), MapSh es' clock' ks' vs' cf' → (∀ i j q, cell2 vs' i j = some q → Imm w Fz (cf' i j) q) →
        Inv B Fz (upd e r (putAt (e r) pl (.omap st ks' vs'))) tm (w.putObj g (.map es' clock')) ob S := fun es' clock' ks' vs' cf' h1 h2 =>
      I.putCell (mapAt_place (mapIf_stamp h)) (.inr ⟨_, _, _, _, _, rfl, rfl⟩) hpv hgob hrep0 rfl rfl rfl (World.putObj_size) (fun b hb => World.putObj_heap_other hb)
        (.omap g clock' es' st ks' vs' cf' (World.putObj_heap_same hlt) h1 fun i j q hq => (h2 i j q hq).mono (fun _ h => h) (hfz _))
    rcases findNow_map (k := s) 0 hm.key hm.len with ⟨j1, j2, j3⟩ | ⟨n, en, row, j1, j2, j3, j4, j5, j6⟩
    · refine ⟨w.putObj g (.map (es.push { key := strV s, val := val, born := clock }) (clock + 1)), ?_, ?_⟩
      · have hfk := MapKept.run_findKey (P := P) (w := w) (k := strV s) hkt j3
        unfold Instr.mapUpdate
        simp only [Sem.run_bind, run_underlying ht, Result.andThen_ok, MapKept.run_getObj_map hg, hck, hfk]
        exact MapKept.run_setObj_map _ hg
      · rw [j2]
        have hn : vs.length = es.size := by rw [← hm.len]; simp
        refine fin _ _ _ _ (fun i j => if i = vs.length then f j else cf i j) ⟨by simp [hm.key], by simp [hn], fun i en row h1 h2 => ?_, ?_, fun x hx => ?_⟩ fun i j q hq => ?_
        · by_cases hin : i = vs.length
          · subst hin
            simp only [Array.toList_push, List.getElem?_append_right (show es.toList.length ≤ vs.length by simp [hn]), hm.len, Nat.sub_self, List.getElem?_cons_zero, Option.some.injEq] at h1
            simp only [List.getElem?_append_right (Nat.le_refl _), Nat.sub_self, List.getElem?_cons_zero, Option.some.injEq] at h2
            subst h1 h2
            simp only [if_true]
            exact ⟨hv, hc⟩
          · have hi' : i < vs.length := by
              have := (List.getElem?_eq_some_iff.1 h2).1
              simp at this
              omega
            rw [Array.toList_push, List.getElem?_append_left (by rw [hm.len]; exact hi')] at h1
            rw [List.getElem?_append_left hi'] at h2
            simp only [if_neg hin]
            exact hm.val i en row h1 h2
        · simp only [Array.toList_push, List.map_append, List.map_cons, List.map_nil]
          rw [List.nodup_append]
          refine ⟨hm.nodup, by simp, fun x hx y hy hxy => ?_⟩
          simp only [List.mem_singleton] at hy
          obtain ⟨en, he1, rfl⟩ := List.mem_map.1 hx
          have := hm.old en he1
          omega
        · simp only [Array.toList_push, List.mem_append, List.mem_singleton] at hx
          rcases hx with hx | rfl
          · exact Nat.lt_succ_of_lt (hm.old x hx)
          · exact Nat.lt_succ_self _
        · by_cases hin : i = vs.length
          · subst hin
            simp only [if_true]
            refine hi j q ?_
            simpa [cell2] using hq
          · simp only [if_neg hin]
            refine hr i j q ?_
            unfold cell2 at hq ⊢
            by_cases hi' : i < vs.length
            · rwa [List.getElem?_append_left hi'] at hq
            · rw [List.getElem?_append_right (by omega), List.getElem?_eq_none (by simp; omega)] at hq
              simp at hq
    · have hkey : en.key = strV s := by
        have : (es.toList.map (·.key))[n]? = (ks.2.map strV)[n]? := by rw [hm.key]
        rw [List.getElem?_map, List.getElem?_map, j1, j3] at this
        simpa using this
      have hen : es[n]? = some en := by simpa using j1
      refine ⟨w.putObj g (.map (es.modify n fun e => { e with key := strV s, val := val }) clock), ?_, ?_⟩
      · have hfk := MapKept.run_findKey (P := P) (w := w) (k := strV s) hkt j6
        unfold Instr.mapUpdate
        simp only [Sem.run_bind, run_underlying ht, Result.andThen_ok, MapKept.run_getObj_map hg, hck, hfk, Nat.zero_add, hen, Option.map_some, Option.getD_some]
        have hsb : Instr.keyThatStays en.key (strV s) = pure (strV s) := by
          unfold Instr.keyThatStays
          rw [hkey]
          have : Instr.sameBits 10000 (strV s) (strV s) = true := by simp [Instr.sameBits, strV, MapKept.bytes_beq]
          rw [if_pos this]
        rw [hsb]
        simp only [Sem.run_pure, Result.andThen_ok]
        exact MapKept.run_setObj_map _ hg
      · rw [j5]
        have hel : ∀ i, (es.modify n fun e => { e with key := strV s, val := val }).toList[i]? = if n = i then es.toList[i]?.map (fun e => { e with key := strV s, val := val }) else es.toList[i]? := by
          intro i
          rw [Array.toList_modify, List.getElem?_modify]
          split <;> simp_all
        have hlen : (es.modify n fun e => { e with key := strV s, val := val }).toList.length = es.toList.length := by simp
        have hborn : (es.modify n fun e => { e with key := strV s, val := val }).toList.map (·.born) = es.toList.map (·.born) := by
          apply List.ext_getElem?
          intro i
          rw [List.getElem?_map, List.getElem?_map, hel]
          split
          · cases es.toList[i]? <;> rfl
          · rfl
        refine fin _ _ _ _ (fun i j => if i = n then f j else cf i j) ⟨?_, by rw [hlen, hm.len]; simp, fun i en' row' h1 h2 => ?_, by rw [hborn]; exact hm.nodup, fun x hx => ?_⟩ fun i j q hq => ?_
        · rw [← hm.key]
          apply List.ext_getElem?
          intro i
          rw [List.getElem?_map, List.getElem?_map, hel]
          split
          · rename_i h; subst h
            rw [j1]
            simp [hkey]
          · rfl
        · rw [hel] at h1
          by_cases hin : n = i
          · subst hin
            rw [if_pos rfl, j1] at h1
            simp only [Option.map_some, Option.some.injEq] at h1
            rw [List.getElem?_set_self (List.getElem?_eq_some_iff.1 j2).1, Option.some.injEq] at h2
            subst h1 h2
            simp only [if_true]
            exact ⟨hv, hc⟩
          · rw [if_neg hin] at h1
            rw [List.getElem?_set_ne hin] at h2
            simp only [if_neg (Ne.symm hin)]
            exact hm.val i en' row' h1 h2
        · have : x.born ∈ (es.modify n fun e => { e with key := strV s, val := val }).toList.map (·.born) := List.mem_map.2 ⟨x, hx, rfl⟩
          rw [hborn] at this
          obtain ⟨y, hy, h⟩ := List.mem_map.1 this
          rw [← h]
          exact hm.old y hy
        · by_cases hin : i = n
          · subst hin
            simp only [if_true]
            refine hi j q ?_
            unfold cell2 at hq
            rw [List.getElem?_set_self (List.getElem?_eq_some_iff.1 j2).1] at hq
            simpa using hq
          · simp only [if_neg hin]
            refine hr i j q ?_
            unfold cell2 at hq ⊢
            rwa [List.getElem?_set_ne (Ne.symm hin)] at hq
theorem out_mapUpdate (I : Inv B Fz e (tmOf B a) w ob S) {o : Oper} {t : TypeId} {xm k v : Operand} (ho : o.op = .mapUpdate t xm k v) {m : Bool × List PV} (hm : mapT P t = some m) {tt : TypeId} {ups : Ups}
    (h : mapUpdS m.1 xm (res e xm) (res e k).1 (hint P tt v (res e v)).1 = some ups) : OutS P B e a w S p o ups := by
  obtain ⟨kt, et, i, z, ht, hkt, hi, hz, hf, hze, _⟩ := mapT_spec hm
  unfold mapUpdS at h
  split at h
  · rename_i s c hks hrow
    have hki : Imm w Fz (a.eval k) (.str s) := by
      have := I.imm k (by rw [show opv e k = _ from hks]; rfl)
      rwa [show opv e k = _ from hks] at this
    have hkv := str_lit hki
    obtain ⟨f, hv, hc, him⟩ := I.mapRow hrow
    have fin : ∀ (r : Nat) (pl : Option Nat) (st : Stamp) (ks : MKeys) (vs : List (List PV)), mapIf (e r) pl st = some (ks, vs) → PlaceVal w (tmOf B a r) pl (a.eval xm) → ks.1 = m.1 →
        OutS P B e a w S p o [(r, putAt (e r) pl (.omap st (m.1, (PE.mapPut ks.2 vs s c).1) (PE.mapPut ks.2 vs s c).2))] := by
      intro r pl st ks vs hmi hpv hag
      obtain ⟨w', hrun, I'⟩ := I.mapPut ht hkt hmi hpv (s := s) (val := a.eval v) (f := f) (c := c) (by rw [hag]; exact hv) (by rw [hag]; exact hc) him
      rw [hag] at I'
      refine ⟨w', Fz, ob, ?_, I'.weaken fun _ h => .inl h⟩
      simp only [execOp, ho, Sem.run_bind, hkv, hrun, Result.andThen_ok, Sem.run_pure]
    split at h
    · rename_i st ks vs hx
      split at h
      · rename_i s'
        split at h
        · rename_i hag
          cases h
          obtain ⟨hvs, he⟩ := tmp_val hx (by simp)
          have := fin s' none st ks vs (by rw [he]; exact mapIf_of rfl) (tmOf_ne B a hvs) hag
          exact this
        · cases h
      · cases h
    · rename_i r pl st hx
      split at h
      · rename_i ks vs hmi
        split at h
        · rename_i hag
          cases h
          obtain ⟨s', rfl, hvs, he, h2⟩ := ref_tmp hx rfl (by simp)
          rw [h2 r rfl] at hmi ⊢
          have href := I.ref s' (by rw [he]; rfl)
          rw [he] at href
          have := href ks vs hmi
          rw [tmOf_ne B a hvs] at this
          exact fin r pl st ks vs hmi this hag
        · cases h
      · cases h
    · cases h
  · cases h
end
end Go.PE
namespace Go.PE
open Go.RowKit
/-! ### A struct with rows and maps that the call holds -/
section
variable {P : Program} {B : Base} {Fz : Nat → Prop} {e : Env} {a : Act} {tm : Tm} {w : World} {ob : Nat → List Nat} {S S' : Stamp → Prop} {p : Stamp}
theorem fillO_sound {R : Value → PV → Prop} {place : Nat → Option (Nat × Nat × TypeId)} {rs : TypeId → Operand → PV × PV} {pm : Nat → Option (Nat × Nat)} (hpm : ∀ i o n t, place i = some (o, n, t) → pm i = some (o, n)) :
    ∀ (l : List (Nat × Operand)) (cells : List PV) (arr : Array Value) (cs : List PV), (∀ q ∈ l, ∀ t new, partO q.2 (rs t q.2) = some new → RelL R (a.eval q.2).cells.toList new) → RelL R arr.toList cells →
      fillO place rs l cells = some cs → ∃ arr', Instr.fill pm arr (l.map fun q => (q.1, a.eval q.2)) = some arr' ∧ RelL R arr'.toList cs
  | [], cells, arr, cs, _, hi, h => by
    simp only [fillO, Option.some.injEq] at h
    subst h
    exact ⟨arr, rfl, hi⟩
  | (i, x) :: l, cells, arr, cs, hl, hi, h => by
    simp only [fillO] at h
    split at h
    · cases h
    · rename_i o n t hp
      split at h
      · cases h
      · rename_i new hpart
        split at h
        · rename_i hc
          obtain ⟨rfl, hfit⟩ := hc
          have hn : RelL R (a.eval x).cells.toList new := hl (i, x) (by simp) t new hpart
          have hnl := hn.1
          have hal := hi.1
          have hsp := hi.splice hn o hfit
          have hfold := foldl_set_cells (a.eval x).cells.toList o 0 arr (by rw [Array.length_toList] at hal; omega)
          rw [Nat.add_zero] at hfold
          rw [← hfold] at hsp
          obtain ⟨arr2, h1, h2⟩ := fillO_sound hpm l _ _ cs (fun q hq => hl q (List.mem_cons_of_mem _ hq)) hsp h
          refine ⟨arr2, ?_, h2⟩
          rw [List.map_cons, Instr.fill, hpm i o _ t hp]
          have hs1 : (a.eval x).cells.size = new.length := by rw [← hnl, Array.length_toList]
          have hs2 : ¬ (o + (a.eval x).cells.size > arr.size) := by rw [Array.length_toList] at hal; omega
          simp only
          rw [if_neg (by rw [hs1] at hs2 ⊢; simp; omega), ← Array.foldl_toList, Array.toList_zipIdx]
          exact h1
        · cases h
/-- A slot that holds a row or a map of its own. -/
def OwnS (e : Env) (s : Nat) : Prop := s ≠ VS ∧ ((∃ st sz xs, e s = .own st sz xs) ∨ ∃ st ks vs, e s = .omap st ks vs)
/-- A cell and its value: plain, or a slot's own. -/
def RelO (w : World) (Fz : Nat → Prop) (e : Env) (tm : Tm) (v : Value) (q : PV) : Prop := Imm w Fz v q ∨ ∃ s, q = .loc s (0, 0) 0 ∧ v = tm s ∧ OwnS e s
theorem put_plain {rs : Operand → PV × PV} {q : PV} (h : okC q = true) : putO p rs q = q ∧ slotsO [q] = [] ∧ cellC q = true ∧ isSelf q = false ∧ stampsC q = [] := by
  cases q <;> first | exact ⟨rfl, rfl, rfl, rfl, rfl⟩ | cases h
theorem slotsO_cons (q : PV) (l : List PV) : slotsO (q :: l) = slotsO [q] ++ slotsO l := by cases q <;> rfl
theorem OwnS.rep (I : Inv B Fz e (tmOf B a) w ob S) {s : Nat} (h : OwnS e s) : putO p (res e) (.loc s (0, 0) 0) = stC p (e s) ∧ Rep w Fz (tmOf B a s) (stC p (e s)) (ob s) ∧ cellC (stC p (e s)) = true ∧ isSelf (stC p (e s)) = false ∧
    (∀ st ∈ stampsC (stC p (e s)), st = p) ∧ (tmOf B a s).cells = #[tmOf B a s] := by
  obtain ⟨hvs, h⟩ := h
  have hr : (res e (.tmp s)).1 = e s := by rw [res_ne e hvs]
  have hR := I.slot s (by rcases h with ⟨_, _, _, h⟩ | ⟨_, _, _, h⟩ <;> (rw [h]; rfl))
  refine ⟨by simp only [putO]; rw [hr], hR.stC p, ?_, ?_, ?_, ?_⟩
  · rcases h with ⟨_, _, _, h⟩ | ⟨_, _, _, h⟩ <;> (rw [h]; rfl)
  · rcases h with ⟨_, _, _, h⟩ | ⟨_, _, _, h⟩ <;> (rw [h]; rfl)
  · rcases h with ⟨_, _, _, h⟩ | ⟨_, _, _, h⟩ <;> (rw [h]; simp [PE.stC, stampsC])
  · generalize tmOf B a s = u at hR
    generalize ob s = bs at hR
    rcases h with ⟨_, _, _, h⟩ | ⟨_, _, _, h⟩ <;> rw [h] at hR
    · cases hR with
      | plain h => exact absurd h.okC (by simp [okC])
      | ownNil => rfl
      | own => rfl
    · cases hR with
      | plain h => exact absurd h.okC (by simp [okC])
      | omap => rfl
theorem reps_of_rel (I : Inv B Fz e (tmOf B a) w ob S) : ∀ {vs : List Value} {cs : List PV}, RelL (RelO w Fz e (tmOf B a)) vs cs → Reps w Fz vs (cs.map (putO p (res e))) ((slotsO cs).flatMap ob) ∧
    (cs.map (putO p (res e))).all cellC = true ∧ (∀ q ∈ cs.map (putO p (res e)), isSelf q = false) ∧ (∀ st ∈ (cs.map (putO p (res e))).flatMap stampsC, st = p) ∧ ∀ s ∈ slotsO cs, OwnS e s
  | [], [], _ => ⟨.nil, rfl, by simp, by simp, by simp [slotsO]⟩
  | [], _ :: _, h => by have := h.1; simp at this
  | _ :: _, [], h => by have := h.1; simp at this
  | v :: vs, q :: cs, h => by
    obtain ⟨i1, i2, i3, i4, i5⟩ := reps_of_rel I (vs := vs) (cs := cs) ⟨by simpa using h.1, fun i v q hv hq => h.2 (i + 1) v q (by simpa using hv) (by simpa using hq)⟩
    have key : ∃ b, Rep w Fz v (putO p (res e) q) b ∧ b = (slotsO [q]).flatMap ob ∧ cellC (putO p (res e) q) = true ∧ isSelf (putO p (res e) q) = false ∧ (∀ st ∈ stampsC (putO p (res e) q), st = p) ∧ ∀ s ∈ slotsO [q], OwnS e s := by
      rcases h.2 0 v q rfl rfl with hq | ⟨s, rfl, rfl, ho⟩
      · have hok := hq.okC
        obtain ⟨h1, h2, h3, h4, h5⟩ := put_plain (p := p) (rs := res e) hok
        rw [h1, h2, h3, h4, h5]
        exact ⟨[], .plain hq, rfl, rfl, rfl, by simp, by simp⟩
      · obtain ⟨h1, h2, h3, h4, h5, _⟩ := ho.rep (p := p) I
        rw [h1]
        exact ⟨ob s, h2, by simp [slotsO], h3, h4, h5, by simpa [slotsO] using ho⟩
    obtain ⟨b, k1, rfl, k2, k3, k4, k5⟩ := key
    rw [slotsO_cons, List.flatMap_append, List.map_cons, List.flatMap_cons]
    refine ⟨.cons k1 i1, by rw [List.all_cons, k2, i2]; rfl, fun x hx => ?_, fun st hst => ?_, fun s hs => ?_⟩
    · rcases List.mem_cons.1 hx with rfl | hx
      · exact k3
      · exact i3 x hx
    · rcases List.mem_append.1 hst with hst | hst
      · exact k4 st hst
      · exact i4 st hst
    · rcases List.mem_append.1 hs with hs | hs
      · exact k5 s hs
      · exact i5 s hs
theorem apply_deads : ∀ (ss : List Nat) (d : Nat) (v : PV) (e : Env), d ∉ ss → apply (ss.map (fun s => (s, PV.dead)) ++ [(d, v)]) e = fun r => if r = d then v else if r ∈ ss then .dead else e r
  | [], d, v, e, _ => by funext r; simp [apply, upd]
  | s :: ss, d, v, e, h => by
    rw [List.map_cons, List.cons_append, apply_cons, apply_deads ss d v _ fun hd => h (List.mem_cons_of_mem _ hd)]
    funext r
    by_cases hr : r = d
    · rw [if_pos hr, if_pos hr]
    · rw [if_neg hr, if_neg hr]
      by_cases hs : r ∈ ss
      · rw [if_pos hs, if_pos (List.mem_cons_of_mem _ hs)]
      · rw [if_neg hs]
        by_cases hrs : r = s
        · rw [hrs, upd_same, if_pos (List.mem_cons_self ..)]
        · rw [upd_other hrs, if_neg (by simp [hrs, hs])]
theorem out_buildO (I : Inv B Fz e (tmOf B a) w ob S) (hp : ¬ S p) {o : Oper} {d : Nat} {t : TypeId} {parts : Array (Nat × Operand)} (ho : o.op = .build t parts) {zs : List PV} (hz : zeroT P t = some zs)
    {ups : Ups} (h : buildO p d (placesT P t) (res e) (fun t x => hint P t x (res e x)) parts.toList zs = some ups) : Out P B e a w S p o d ups := by
  obtain ⟨i, z, hi, hz', hf⟩ := zeroT_spec hz
  have hzi := (zero_imm (w := w) (Fz := Fz) hf).1
  unfold buildO at h
  split at h
  · rename_i l hl
    split at h
    · rename_i cs hcs
      split at h
      · rename_i hc
        cases h
        rw [nodupB_iff, List.nodup_append] at hc
        have hnd := hc.1
        have hds : d ∉ slotsO cs := fun hd => hc.2.2 d hd d (by simp) rfl
        have hpart : ∀ q ∈ parts.toList, ∀ t new, partO q.2 (hint P t q.2 (res e q.2)) = some new → RelL (RelO w Fz e (tmOf B a)) (a.eval q.2).cells.toList new := by
          intro q hq t new hn
          have own : ∀ s, q.2 = .tmp s → OwnS e s → RelL (RelO w Fz e (tmOf B a)) (a.eval q.2).cells.toList [.loc s (0, 0) 0] := by
            intro s hs hown
            rw [hs, ← tmOf_ne B a hown.1, (hown.rep (p := p) I).2.2.2.2.2]
            refine ⟨rfl, fun i v r hv hr => ?_⟩
            cases i with
            | zero =>
              simp only [List.getElem?_cons_zero, Option.some.injEq] at hv hr
              subst hv hr
              exact .inr ⟨s, rfl, rfl, hown⟩
            | succ i => simp at hv
          unfold partO at hn
          split at hn
          · rename_i st' ks' vs' hx
            split at hn
            · rename_i s hs
              cases hn
              have hh := hint_ne P t q.2 (res e q.2) (by rw [hx]; rfl)
              rw [hh, hs] at hx
              obtain ⟨hvs, he⟩ := tmp_val hx (by simp)
              exact own s hs ⟨hvs, .inr ⟨_, _, _, he⟩⟩
            · cases hn
          · rename_i st' sz' xs' hx
            split at hn
            · rename_i s hs
              cases hn
              have hh := hint_ne P t q.2 (res e q.2) (by rw [hx]; rfl)
              rw [hh, hs] at hx
              obtain ⟨hvs, he⟩ := tmp_val hx (by simp)
              exact own s hs ⟨hvs, .inl ⟨_, _, _, he⟩⟩
            · cases hn
          · rename_i cs' hx
            split at hn
            · cases hn
              have hh := hint_ne P t q.2 (res e q.2) (by rw [hx]; rfl)
              rw [hh] at hx
              obtain ⟨s', hs'⟩ := opv_own_tmp (e := e) (x := q.2) (by rw [show opv e q.2 = _ from hx]; rfl) (by rw [show opv e q.2 = _ from hx]; simp)
              rw [hs'] at hx ⊢
              obtain ⟨hvs', he'⟩ := tmp_val hx (by simp)
              have hR' := I.slot s' (by rw [he']; rfl)
              rw [he', tmOf_ne B a hvs'] at hR'
              generalize a.eval (.tmp s') = u at hR' ⊢
              generalize ob s' = bs at hR'
              cases hR' with
              | plain h => exact absurd h.okC (by simp [okC])
              | agg arr _ h => exact ⟨h.1, fun i v r hv hr => .inl (h.2 i v r hv hr)⟩
            · cases hn
          · split at hn
            · rename_i hok
              cases hn
              have hi' := I.immH P t q.2 hok
              rw [hi'.cells]
              refine ⟨rfl, fun i v r hv hr => ?_⟩
              cases i with
              | zero =>
                simp only [List.getElem?_cons_zero, Option.some.injEq] at hv hr
                subst hv hr
                exact .inl hi'
              | succ i => simp at hv
            · cases hn
        unfold placesT at hl
        split at hl
        · rename_i fs hu
          split at hl
          · rename_i places hpl
            cases hl
            obtain ⟨arr', hfill, hrel⟩ := fillO_sound (a := a) (R := RelO w Fz e (tmOf B a)) (place := fun i => ((places.zip (fs.toList.map (·.type))).map fun q => (q.1.1, q.1.2, q.2))[i]?) (rs := fun t x => hint P t x (res e x))
              (pm := fun i => places.toArray[i]?) (fun i o n' t' h => by
              simp only [List.getElem?_map] at h
              obtain ⟨q, hq, hq'⟩ := Option.map_eq_some_iff.1 h
              simp only [Prod.mk.injEq] at hq'
              obtain ⟨rfl, rfl, rfl⟩ := hq'
              rw [List.getElem?_zip_eq_some] at hq
              simp [hq.1]) parts.toList zs z.cells cs hpart ⟨hzi.1, fun i v q hv hq => .inl (hzi.2 i v q hv hq)⟩ hcs
            obtain ⟨hreps, hcell, hself, hst, hown⟩ := reps_of_rel (p := p) I hrel
            have hflat : ((slotsO cs).flatMap ob).Nodup := by
              have := I.flat_nodup ((slotsO cs).map fun s => (s, ((0, 0) : Stamp))) (by simpa [Function.comp_def] using hnd)
              simpa [List.flatMap_map] using this
            refine out_of (w' := w) (Fz' := Fz) (ob' := fun r => if r = d then (slotsO cs).flatMap ob else if r ∈ slotsO cs then [] else ob r) (u := .agg arr') ?_ ?_
            · have hmap : (parts.map fun (i, x) => (i, a.eval x)).toList = parts.toList.map fun q => (q.1, a.eval q.2) := by simp
              have hb : P.built t (parts.map fun (i, x) => (i, a.eval x)).toList = some arr' := by
                rw [hmap]
                simp only [Program.built, hi, hu, hz', hpl]
                exact hfill
              simp only [execOp, ho, Sem.run_bind, run_build w t _ arr' hb, Result.andThen_ok, Sem.run_pure]
            · rw [apply_deads _ _ _ _ hds]
              refine I.step (fun r => r ∈ slotsO cs ∨ r = d) (fun _ h => .inl h) rfl rfl rfl (Nat.le_refl _) (fun _ _ _ => rfl) (fun r hr => ?_) (fun _ h => h) (fun _ h => .inl h) ?_ ?_ ?_ ?_ ?_ ?_
              · rw [not_or] at hr
                exact ⟨by rw [if_neg hr.2, if_neg hr.1], upd_other hr.2, by rw [if_neg hr.2, if_neg hr.1]⟩
              · intro r hr b hb
                by_cases hrd : r = d
                · rw [if_pos hrd] at hb
                  obtain ⟨s, hs, hb⟩ := List.mem_flatMap.1 hb
                  exact ⟨.inl ⟨s, .inl hs, hb⟩, I.notFz s b hb⟩
                · rw [if_neg hrd, if_pos (hr.resolve_right hrd)] at hb
                  cases hb
              · intro r hr
                by_cases hrd : r = d
                · rw [if_pos hrd]; exact hflat
                · rw [if_neg hrd, if_pos (hr.resolve_right hrd)]; exact List.nodup_nil
              · intro r r' hr hr' hne b hb hb'
                by_cases hrd : r = d
                · by_cases hrd' : r' = d
                  · exact hne (hrd.trans hrd'.symm)
                  · rw [if_neg hrd', if_pos (hr'.resolve_right hrd')] at hb'; cases hb'
                · rw [if_neg hrd, if_pos (hr.resolve_right hrd)] at hb; cases hb
              · intro r hr st hs
                by_cases hrd : r = d
                · rw [if_pos hrd] at hs
                  exact .inr (hst st hs)
                · rw [if_neg hrd, if_pos (hr.resolve_right hrd)] at hs
                  simp [stampsOf, stamps1] at hs
              · intro r hr
                refine RootStep.fresh fun st hs hS => ?_
                by_cases hrd : r = d
                · rw [if_pos hrd] at hs
                  exact hp (hst st hs ▸ hS)
                · rw [if_neg hrd, if_pos (hr.resolve_right hrd)] at hs
                  simp [stamps1] at hs
              · intro _ r hr
                unfold SlotRep
                by_cases hrd : r = d
                · subst hrd
                  simp only [if_true, upd_same]
                  rw [if_neg (by simp [isRef])]
                  exact .oagg arr' _ _ hreps hcell hself
                · simp only [if_neg hrd, if_pos (hr.resolve_right hrd)]
                  rw [if_pos (show isRef .dead = true from rfl)]
                  exact ⟨trivial, trivial⟩
          · cases hl
        · cases hl
      · cases h
    · cases h
  · cases h
theorem out_boxO (I : Inv B Fz e (tmOf B a) w ob S) (hp : ¬ S p) {o : Oper} {d : Nat} {t : TypeId} {x : Operand} (ho : o.op = .box t x) {n : Nat} {ups : Ups} (h : boxO p d n x (res e x).1 = some ups) : Out P B e a w S p o d ups := by
  unfold boxO at h
  split at h
  · rename_i s cs hx
    split at h
    · rename_i hc
      cases h
      obtain ⟨hvs, hes⟩ := tmp_val hx (by simp)
      have hR := I.slot s (by rw [hes]; rfl)
      rw [hes, tmOf_ne B a hvs] at hR
      generalize hev : a.eval (.tmp s) = u at hR
      obtain ⟨obs, hobs⟩ : ∃ obs, obs = ob s := ⟨_, rfl⟩
      rw [← hobs] at hR
      cases hR with
      | plain h => exact absurd h.okC (by simp [okC])
      | oagg arr _ _ hreps hcell hself =>
        have hold : ∀ b, b < w.heap.size → (w.alloc (.cells arr t)).heap[b]? = w.heap[b]? := fun b hb => alloc_heap_old w _ b hb
        have hself' : ∀ q ∈ cs.map (stC p), isSelf q = false := fun q hq => by
          obtain ⟨q0, h0, rfl⟩ := List.mem_map.1 hq
          have := hself q0 h0
          cases q0 <;> simp_all [PE.stC, isSelf]
        refine out_of (w' := w.alloc (.cells arr t)) (Fz' := Fz) (ob' := upd (upd ob s []) d (w.heap.size :: ob s)) (u := .pointer (some ⟨w.heap.size, 0, none⟩)) ?_ ?_
        · simp only [execOp, ho, Sem.run_bind, hev, Instr.box, newVar, newRow, run_newObj, Result.andThen_ok, Sem.run_pure]
          rfl
        · show Inv B Fz (upd (upd e s .dead) d (.box p (cs.map (stC p)))) _ _ _ _
          have hsd : s ≠ d := hc.1
          refine I.step (fun r => r = s ∨ r = d) (fun _ h => .inl h) rfl rfl rfl (by simp) (fun b hb _ => hold b hb) (fun r hr => ?_) (fun _ h => h) (fun _ h => .inl h) ?_ ?_ ?_ ?_ ?_ ?_
          · rw [not_or] at hr
            exact ⟨by rw [upd_other hr.2, upd_other hr.1], upd_other hr.2, by rw [upd_other hr.2, upd_other hr.1]⟩
          · rintro r hr b hb
            rcases hr with rfl | rfl
            · rw [upd_other hsd, upd_same] at hb; cases hb
            · rw [upd_same] at hb
              rcases List.mem_cons.1 hb with rfl | hb
              · exact ⟨.inr ⟨Nat.le_refl _, by simp⟩, fun hf => absurd (I.fzlt _ hf) (Nat.lt_irrefl _)⟩
              · exact ⟨.inl ⟨s, .inl rfl, hb⟩, I.notFz s b hb⟩
          · rintro r hr
            rcases hr with rfl | rfl
            · rw [upd_other hsd, upd_same]; exact List.nodup_nil
            · rw [upd_same, List.nodup_cons]
              exact ⟨fun h => absurd (I.lt s _ h) (Nat.lt_irrefl _), I.nodup s⟩
          · rintro r r' hr hr' hne b hb hb'
            rcases hr with rfl | rfl
            · rw [upd_other hsd, upd_same] at hb; cases hb
            · rcases hr' with rfl | rfl
              · rw [upd_other hsd, upd_same] at hb'; cases hb'
              · exact hne rfl
          · rintro r hr st hst
            rcases hr with rfl | rfl
            · rw [upd_other hsd, upd_same] at hst; simp [stampsOf, stamps1] at hst
            · rw [upd_same] at hst
              simp only [stampsOf, stamps1, List.mem_cons, List.mem_flatMap, List.mem_map] at hst
              rcases hst with rfl | ⟨q, ⟨c, _, rfl⟩, hq⟩
              · exact .inr rfl
              · exact .inr (stamps_stC p c st hq)
          · rintro r hr
            rcases hr with rfl | rfl
            · refine RootStep.fresh ?_
              rw [upd_other hsd, upd_same]
              simp [stamps1]
            · refine RootStep.fresh fun st hst hS => ?_
              rw [upd_same] at hst
              simp only [stamps1, List.mem_cons, List.mem_flatMap, List.mem_map] at hst
              rcases hst with rfl | ⟨q, ⟨c, _, rfl⟩, hq⟩
              · exact hp hS
              · exact hp (stamps_stC p c st hq ▸ hS)
          · rintro _ r hr
            unfold SlotRep
            rcases hr with rfl | rfl
            · rw [upd_other hsd, upd_same, upd_other hsd, upd_same, if_pos (by rfl)]
              exact ⟨rfl, trivial⟩
            · rw [upd_same, upd_same, upd_same, if_neg (by simp [isRef]), ← hobs]
              exact .box _ arr t p _ _ (alloc_heap_new w _) ((hreps.stC p).mono (fun _ h => h) (fun b hb => hold b (I.fzlt b hb)) fun b hb => hold b (I.lt s b (hobs ▸ hb)))
                ⟨cellC_all_stC p cs hcell, fun i q hq hs => by rw [hself' q (List.mem_of_getElem? hq)] at hs; cases hs⟩
    · cases h
  · cases h
/-! ### A call that reads variables alone -/
theorem Inv.viewR (I : Inv B Fz e (tmOf B a) w ob S) {t : TypeId} {x : Operand} {v : PV} (h : PE.viewR x (hint P t x (res e x)) = some v) : Plain w (fun b => b < w.heap.size) (a.eval x) v := by
  have box : ∀ {r : Nat} {st : Stamp} {cs : List PV}, e r = .box st cs → (cs.map frzO).all okC = true → Plain w (fun b => b < w.heap.size) (tmOf B a r) (.iptr (cs.map frzO) 0) := fun he hok =>
    .inl ((I.freezeBox he hok).2.mono (fun b hb => hb.elim (I.fzlt b) (I.lt _ b)) fun _ _ => rfl)
  unfold PE.viewR at h
  split at h
  · rename_i st cs hv
    split at h
    · rename_i s
      split at h
      · rename_i hok
        cases h
        rw [hint_ne P t (.tmp s) _ (by rw [hv]; rfl)] at hv
        obtain ⟨hvs, he⟩ := tmp_val hv (by simp)
        rw [← tmOf_ne B a hvs]
        exact box he hok
      · cases h
    · cases h
  · rename_i r st hv
    split at h
    · rename_i st' cs hv2
      split at h
      · rename_i hc
        obtain ⟨rfl, hok⟩ := hc
        cases h
        have hh := hint_ne P t x (res e x) (by rw [hv]; rfl)
        rw [hh] at hv hv2
        obtain ⟨s, rfl, hvs, he, h2⟩ := ref_tmp hv rfl (by simp)
        have hbox : e r = .box st' cs := (h2 r rfl).symm.trans hv2
        have href := I.ref s (by rw [he]; rfl)
        rw [he] at href
        obtain ⟨g, k1, k2⟩ := href cs hbox
        rw [← tmOf_ne B a hvs, k2, ← k1]
        exact box hbox hok
      · cases h
    · cases h
  · obtain ⟨bs1, hpl, hbs1⟩ := I.view P t x h
    exact hpl.mono (fun b hb => hb.elim (I.fzlt b) fun hb => by
      obtain ⟨s, _, hs⟩ := hbs1 b hb
      exact I.lt s b hs) fun _ _ => rfl
theorem out_callR {Φ : FuncId → List PV → Option (PV × List (List PV))} (I : Inv B Fz e (tmOf B a) w ob S) (hp : ¬ S p) (hM : ∀ g, Meets P g (Φ g)) {o : Oper} {c : Call} (ho : o.op = .call c) {ups : Ups}
    (h : callR P Φ p o c (res e) = some ups) : OutC P B e a w S p o ups := by
  unfold callR at h
  split at h
  · rename_i x hc
    split at h
    · rename_i g caps hx
      split at h
      · cases h
      · rename_i hw
        rw [Bool.not_eq_true, Bool.or_eq_false_iff] at hw
        split at h
        · rename_i avs hav
          split at h
          · rename_i r hF
            split at h
            · rename_i hsc
              cases h
              have hA : ∀ (l : List (TypeId × Operand)) (avs : List PV), viewsR (l.map fun q => (q.2, hint P q.1 q.2 (res e q.2))) = some avs → Reps w (fun b => b < w.heap.size) (l.map fun q => a.eval q.2) avs [] := by
                intro l
                induction l with
                | nil =>
                  intro avs h
                  simp only [List.map_nil, viewsR, Option.some.injEq] at h
                  subst h
                  exact .nil
                | cons q l ih =>
                  intro avs h
                  simp only [List.map_cons, viewsR] at h
                  split at h
                  · rename_i v vs' h1 h2
                    cases h
                    simpa using Reps.cons (I.viewR h1).rep (ih _ h2)
                  · cases h
              have hA1 := hA (c.args.toList.zipIdx.map fun q => (c.argTypes.getD q.2 0, q.1)) avs (by rw [List.map_map]; exact hav)
              have h0 : (c.args.toList.zipIdx.map fun q => (c.argTypes.getD q.2 0, q.1)).map (·.2) = c.args.toList := by simp [List.map_map, Function.comp_def]
              have hA2 : Reps w (fun b => b < w.heap.size) (c.args.toList.map a.eval) avs [] := by
                rw [← h0, List.map_map]
                exact hA1
              exact out_scalar I hp ho hc hx ((hM g).1 hw.1 hw.2) hA2 hF hsc
            · cases h
          · cases h
        · cases h
    · cases h
  · cases h
end
end Go.PE
