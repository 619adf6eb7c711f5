/-
  A part of the proof that the law's function returns true and leaves its arguments as they were, for every input (no condition): own lemmas of the proof, in the order of their use.
-/
import Derived.Test.YtkfppicmdgbfjaaGreatDoorU09
set_option linter.all false
namespace Go.PE
open Go.RowKit
section
variable {P : Program} {B : Base} {Fz : Nat → Prop} {e : Env} {a : Act} {tm : Tm} {w : World} {ob : Nat → List Nat} {S S' : Stamp → Prop} {p : Stamp}
theorem Out.toC {o : Oper} {d : Nat} {ups : Ups} (hd : o.dst = some d) (h : Out P B e a w S p o d ups) : OutC P B e a w S p o ups := by
  obtain ⟨u, w', Fz', ob', hr, I⟩ := h
  intro next Q hn
  unfold Oper.wp
  rw [hr, Oper.upon_value]
  exact hn u w' Fz' ob' (by rw [hd]; exact I)
theorem OutS.toC {o : Oper} {ups : Ups} (hd : o.dst = none) (h : OutS P B e a w S p o ups) : OutC P B e a w S p o ups := by
  obtain ⟨w', Fz', ob', hr, I⟩ := h
  intro next Q hn
  unfold Oper.wp
  rw [hr, Oper.upon_skip]
  exact hn undef w' Fz' ob' (by rw [hd]; exact I)
theorem equalIn_nil {t : TypeId} {ms} (hu : P.underlying t = some (.interface ms)) (d : Nat) : (Op.equalIn (d + 1) t .nilIface .nilIface).run P w = .ok true w := by
  simp [Op.equalIn, run_underlying hu]
theorem equalIn_nil1 {t : TypeId} {ms} (hu : P.underlying t = some (.interface ms)) (d : Nat) (tx : TypeId) (v : Value) : (Op.equalIn (d + 1) t (.iface tx v) .nilIface).run P w = .ok false w := by
  simp [Op.equalIn, run_underlying hu]
theorem equalIn_nil2 {t : TypeId} {ms} (hu : P.underlying t = some (.interface ms)) (d : Nat) (tx : TypeId) (v : Value) : (Op.equalIn (d + 1) t .nilIface (.iface tx v)).run P w = .ok false w := by
  simp [Op.equalIn, run_underlying hu]
theorem equalIn_ne {t : TypeId} {ms} (hu : P.underlying t = some (.interface ms)) (d : Nat) {tx ty : TypeId} (hne : tx ≠ ty) (v v' : Value) : (Op.equalIn (d + 1) t (.iface tx v) (.iface ty v')).run P w = .ok false w := by
  simp [Op.equalIn, run_underlying hu, hne]
theorem equalIn_int {t : TypeId} {ms} (hu : P.underlying t = some (.interface ms)) (d : Nat) {tx : TypeId} {i : TypeInfo} (hi : P.info? tx = some i) (hc : i.comparable = true) {k0 : IntKind} (hux : P.underlying tx = some (.int k0)) (k : IntKind) (n n' : Int) :
    (Op.equalIn (d + 1 + 1) t (.iface tx (.int k n)) (.iface tx (.int k n'))).run P w = .ok (n == n') w := by
  simp [Op.equalIn, run_underlying hu, run_underlying hux, typeInfo, hi, hc]
theorem equalIn_ptr {t el : TypeId} (hu : P.underlying t = some (.pointer el)) (d : Nat) : (Op.equalIn (d + 1) t (.pointer none) (.pointer none)).run P w = .ok true w := by
  simp [Op.equalIn, run_underlying hu]
theorem equalIn_ptr1 {t el : TypeId} (hu : P.underlying t = some (.pointer el)) (d : Nat) (a : Addr) : (Op.equalIn (d + 1) t (.pointer (some a)) (.pointer none)).run P w = .ok false w := by
  simp [Op.equalIn, run_underlying hu]
theorem equalIn_ptr2 {t el : TypeId} (hu : P.underlying t = some (.pointer el)) (d : Nat) (a : Addr) : (Op.equalIn (d + 1) t (.pointer none) (.pointer (some a))).run P w = .ok false w := by
  simp [Op.equalIn, run_underlying hu]
theorem out_ifc (I : Inv B Fz e (tmOf B a) w ob S) {o : Oper} {d : Nat} {op : BinOp} {t ty : TypeId} {x y : Operand} (ho : o.op = .binOp op t x y ty) {b : Bool}
    (h : ifcS P t (constO x || constO y) (res e x).1 (res e y).1 = some b) (hop : op = .eql ∨ op = .neq) : Out P B e a w S p o d [(d, .bool (if op = .eql then b else !b))] := by
  have key : ∀ (va vb : Value), a.eval x = va → a.eval y = vb → (eqGuard op t x y va vb).run P w = .ok () w → (Op.equal t va vb).run P w = .ok b w → (∀ k n, va ≠ .int k n) → (∀ s, va ≠ .string s) → (∀ k n, va ≠ .float k n) → (∀ k n m, va ≠ .complex k n m) →
      Out P B e a w S p o d [(d, .bool (if op = .eql then b else !b))] := by
    intro va vb hx hy h1 h2 n1 n2 n3 n4
    refine out_plain I (u := .bool (if op = .eql then b else !b)) ?_ (.inl (.bool _))
    have hb : (binOp op t va vb).run P w = .ok (.bool (if op = .eql then b else !b)) w := by
      rcases hop with rfl | rfl
      · have : binOp .eql t va vb = (do pure (.bool (← Op.equal t va vb))) := by
          unfold binOp
          cases va <;> first | rfl | exact absurd rfl (n1 _ _) | exact absurd rfl (n2 _) | exact absurd rfl (n3 _ _) | exact absurd rfl (n4 _ _ _)
        rw [this]
        simp [h2]
      · have : binOp .neq t va vb = (do pure (.bool (!(← Op.equal t va vb)))) := by
          unfold binOp
          cases va <;> first | rfl | exact absurd rfl (n1 _ _) | exact absurd rfl (n2 _) | exact absurd rfl (n3 _ _) | exact absurd rfl (n4 _ _ _)
        rw [this]
        simp [h2]
    simp only [execOp, ho, hx, hy, Sem.run_bind, h1, hb, Result.andThen_ok, Sem.run_pure]
  have hok : okC (opv e x) = true ∧ okC (opv e y) = true := by
    have e1 : (res e x).1 = opv e x := rfl
    have e2 : (res e y).1 = opv e y := rfl
    rw [e1, e2] at h
    unfold ifcS at h
    split at h
    · split at h <;> first | (simp_all [okC]; done) | cases h
    · split at h <;> first | (simp_all [okC]; done) | cases h
    · cases h
  have ix := I.imm x hok.1
  have iy := I.imm y hok.2
  rw [show (res e x).1 = opv e x from rfl, show (res e y).1 = opv e y from rfl] at h
  obtain ⟨va, hva⟩ : ∃ va, a.eval x = va := ⟨_, rfl⟩
  obtain ⟨vb, hvb⟩ : ∃ vb, a.eval y = vb := ⟨_, rfl⟩
  rw [hva] at ix
  rw [hvb] at iy
  generalize opv e x = px at *
  generalize opv e y = py at *
  have gpair : ∀ (va vb : Value), ¬ (va = .nilIface ∧ vb = .nilIface) → (∀ xs, va ≠ .agg xs) → (eqGuard op t x y va vb).run P w = .ok () w := by
    intro va vb h1 h2
    unfold eqGuard
    rcases hop with rfl | rfl <;> cases va <;> first | (exact absurd rfl (h2 _)) | (cases vb <;> first | (exact absurd ⟨rfl, rfl⟩ h1) | simp) | simp
  unfold ifcS at h
  split at h
  · rename_i ms hu
    split at h
    · -- nil, nil
      split at h
      · rename_i hc
        cases h
        cases ix
        cases iy
        refine key _ _ hva hvb ?_ (equalIn_nil hu 9999) (by simp) (by simp) (by simp) (by simp)
        have hc' : (constO x || constO y) = true := hc
        unfold eqGuard
        rcases hop with rfl | rfl <;> cases x <;> cases y <;> simp_all [constO]
      · cases h
    · cases h
      cases ix
      cases iy
      exact key _ _ hva hvb (gpair _ _ (by simp) (by simp)) (equalIn_nil1 hu 9999 _ _) (by simp) (by simp) (by simp) (by simp)
    · cases h
      cases ix
      cases iy
      exact key _ _ hva hvb (gpair _ _ (by simp) (by simp)) (equalIn_nil2 hu 9999 _ _) (by simp) (by simp) (by simp) (by simp)
    · cases h
      cases ix
      cases iy
      exact key _ _ hva hvb (gpair _ _ (by simp) (by simp)) (equalIn_nil1 hu 9999 _ _) (by simp) (by simp) (by simp) (by simp)
    · cases h
      cases ix
      cases iy
      exact key _ _ hva hvb (gpair _ _ (by simp) (by simp)) (equalIn_nil2 hu 9999 _ _) (by simp) (by simp) (by simp) (by simp)
    · rename_i t1 k1 n1 t2 k2 n2
      cases ix
      cases iy
      split at h
      · rename_i ht
        subst ht
        split at h
        · rename_i i k0 hi hux
          split at h
          · rename_i hc
            obtain ⟨hc, rfl⟩ := hc
            cases h
            exact key _ _ hva hvb (gpair _ _ (by simp) (by simp)) (equalIn_int hu 9998 hi hc hux _ _ _) (by simp) (by simp) (by simp) (by simp)
          · cases h
        · cases h
      · rename_i ht
        cases h
        exact key _ _ hva hvb (gpair _ _ (by simp) (by simp)) (equalIn_ne hu 9999 ht _ _) (by simp) (by simp) (by simp) (by simp)
    · cases h
  · rename_i el hu
    split at h
    · cases h
      cases ix
      cases iy
      exact key _ _ hva hvb (gpair _ _ (by simp) (by simp)) (equalIn_ptr hu 9999) (by simp) (by simp) (by simp) (by simp)
    · cases h
      cases ix
      cases iy
      exact key _ _ hva hvb (gpair _ _ (by simp) (by simp)) (equalIn_ptr1 hu 9999 _) (by simp) (by simp) (by simp) (by simp)
    · cases h
      cases ix
      cases iy
      exact key _ _ hva hvb (gpair _ _ (by simp) (by simp)) (equalIn_ptr2 hu 9999 _) (by simp) (by simp) (by simp) (by simp)
    · cases h
  · cases h
theorem out_makeIface (I : Inv B Fz e (tmOf B a) w ob S) {o : Oper} {d : Nat} {t : TypeId} {x : Operand} (ho : o.op = .makeInterface t x) {D : TypeDesc} (hD : P.underlying t = some D) (hni : ∀ ms, D ≠ .interface ms) {v : PV}
    (hv : v = .erri ∨ ∃ k n, (res e x).1 = .int k n ∧ v = .ifi t k n) : Out P B e a w S p o d [(d, v)] := by
  have hrun : (execOp a.eval o).run P w = .ok (.value (.iface t (a.eval x))) w := by
    have : (Instr.makeInterface t (a.eval x)).run P w = .ok (.iface t (a.eval x)) w := by
      unfold Instr.makeInterface
      simp only [Sem.run_bind, run_underlying hD, Result.andThen_ok]
      cases D <;> first | rfl | exact absurd rfl (hni _)
    simp only [execOp, ho, Sem.run_bind, this, Result.andThen_ok, Sem.run_pure]
  rcases hv with rfl | ⟨k, n, hx, rfl⟩
  · exact out_plain I hrun (.inl (.erri t _))
  · rw [I.int hx] at hrun
    exact out_plain I hrun (.inl (.ifi t k n))
variable {Φ : FuncId → List PV → Option (PV × List (List PV))} {keep : List Nat}
theorem out_callOf (I : Inv B Fz e (tmOf B a) w ob S) (hp : ¬ S p) (hM : ∀ g, Meets P g (Φ g)) {o : Oper} {c : Call} (ho : o.op = .call c) {ups : Ups}
    (h : callOf P Φ p o c (res e) = some ups) : OutC P B e a w S p o ups := by
  unfold callOf at h
  simp only at h
  split at h
  · rename_i x hc
    split at h
    · rename_i g caps hx
      split at h
      · rename_i g' hg'
        refine out_callB I ho hc hx ((hM g).2.2.2 g' hg').1 (c.args.toList.zipIdx.map fun q => (c.argTypes.getD q.2 0, q.1)) (by simp [List.map_map, Function.comp_def]) (ups := ups) ?_
        rw [List.map_map]
        exact h
      by_cases hw : wrB g = true
      · rw [if_pos hw] at h
        refine out_callW I hp ho hc hx ((hM g).2.1 hw) (c.args.toList.zipIdx.map fun q => (c.argTypes.getD q.2 0, q.1)) (by simp [List.map_map, Function.comp_def]) (ups := ups) ?_
        rw [List.map_map]
        exact h
      · rw [if_neg hw] at h
        by_cases hw2 : prB g = true
        · rw [if_pos hw2] at h
          refine out_callP I hp ho hc hx ((hM g).2.2.1 (by simpa using hw) hw2) (c.args.toList.zipIdx.map fun q => (c.argTypes.getD q.2 0, q.1)) (by simp [List.map_map, Function.comp_def]) (ups := ups) ?_
          rw [List.map_map]
          exact h
        · rw [if_neg hw2] at h
          refine out_call I hp ho hc hx ((hM g).1 (by simpa using hw) (by simpa using hw2)) (c.args.toList.zipIdx.map fun q => (c.argTypes.getD q.2 0, q.1)) (by simp [List.map_map, Function.comp_def]) (ups := ups) ?_
          rw [List.map_map]
          exact h
    · cases h
  · cases h
  · -- len
    rename_i hc
    split at h
    · rename_i d x0 vr hd hl
      split at h
      · rename_i n hn
        split at h
        · rename_i hok
          cases h
          refine Out.toC hd ?_
          have hlen : ∃ x, c.args = #[x] ∧ vr = hint P (c.argTypes.getD 0 0) x (res e x) := by
            cases ha : c.args.toList with
            | nil => rw [ha] at hl; simp at hl
            | cons x l =>
              cases l with
              | nil =>
                rw [ha] at hl
                simp only [List.zipIdx_cons, List.zipIdx_nil, List.map_cons, List.map_nil, List.cons.injEq, Prod.mk.injEq, and_true] at hl
                exact ⟨x, by rw [← Array.toArray_toList (xs := c.args), ha], by rw [← hl.2]⟩
              | cons y l => rw [ha] at hl; simp at hl
          obtain ⟨x, hargs, rfl⟩ := hlen
          cases ht : c.argTypes[0]? with
          | none => rw [ht] at hok; simp [lenOK] at hok
          | some t =>
            have ht0 : c.argTypes.getD 0 0 = t := by simp [Array.getD_eq_getD_getElem?, ht]
            rw [ht0] at hn hok
            rw [ht, Option.bind_some] at hok
            refine out_len I ho hc hargs ht hn ?_
            unfold lenOK at hok
            split at hok
            · rename_i hu
              split at hok
              · rename_i s hs
                exact .inl ⟨hu, s, hs⟩
              · cases hok
            · rename_i el hu
              split at hok
              · cases hok
              · rename_i hs
                exact .inr ⟨⟨el, hu⟩, fun s h => hs s h⟩
            · cases hok
        · cases h
      · cases h
    · cases h
  · -- append
    rename_i hc
    split at h
    · rename_i d x0 vx y0 vy hd hl
      split at h
      · rename_i t zs ht hz
        split at h
        · rename_i hcond
          obtain ⟨h2, h3, h4⟩ := hcond
          refine Out.toC hd ?_
          obtain ⟨t1, t2, hts⟩ : ∃ t1 t2, c.argTypes = #[t1, t2] := by
            cases hl2 : c.argTypes.toList with
            | nil => rw [← Array.length_toList, hl2] at h2; simp at h2
            | cons t1 l =>
              cases l with
              | nil => rw [← Array.length_toList, hl2] at h2; simp at h2
              | cons t2 l =>
                cases l with
                | nil => exact ⟨t1, t2, by rw [← Array.toArray_toList (xs := c.argTypes), hl2]⟩
                | cons _ _ => rw [← Array.length_toList, hl2] at h2; simp at h2
          obtain ⟨x, y, hargs, rfl, rfl, rfl, rfl⟩ : ∃ x y, c.args = #[x, y] ∧ x0 = x ∧ y0 = y ∧ vx = hint P (c.argTypes.getD 0 0) x (res e x) ∧ vy = hint P (c.argTypes.getD 1 0) y (res e y) := by
            cases ha : c.args.toList with
            | nil => rw [ha] at hl; simp at hl
            | cons x l =>
              cases l with
              | nil => rw [ha] at hl; simp at hl
              | cons y l =>
                cases l with
                | nil =>
                  rw [ha] at hl
                  simp only [List.zipIdx_cons, List.zipIdx_nil, List.map_cons, List.map_nil, List.cons.injEq, Prod.mk.injEq, and_true] at hl
                  exact ⟨x, y, by rw [← Array.toArray_toList (xs := c.args), ha], hl.1.1.symm, hl.2.1.symm, hl.1.2.symm, hl.2.2.symm⟩
                | cons _ _ => rw [ha] at hl; simp at hl
          have g0 : c.argTypes.getD 0 0 = t1 := by rw [hts]; rfl
          have g1 : c.argTypes.getD 1 0 = t2 := by rw [hts]; rfl
          rw [g0] at ht hz h
          rw [g1] at h
          obtain ⟨n, b⟩ := t
          obtain ⟨el, hel, hzt⟩ := Option.bind_eq_some_iff.1 hz
          refine out_append I hp ho hc hargs hts ht hel hzt h3 ?_ h
          rw [hts] at h4
          exact h4
        · cases h
      · cases h
    · cases h
  · -- max
    rename_i hc
    split at h
    · rename_i d x0 vx y0 vy hd hl
      split at h
      · rename_i k n k' m hx hy
        cases h
        refine Out.toC hd ?_
        obtain ⟨x, y, hargs, rfl, rfl⟩ : ∃ x y, c.args = #[x, y] ∧ vx = hint P (c.argTypes.getD 0 0) x (res e x) ∧ vy = hint P (c.argTypes.getD 1 0) y (res e y) := by
          cases ha : c.args.toList with
          | nil => rw [ha] at hl; simp at hl
          | cons x l =>
            cases l with
            | nil => rw [ha] at hl; simp at hl
            | cons y l =>
              cases l with
              | nil =>
                rw [ha] at hl
                simp only [List.zipIdx_cons, List.zipIdx_nil, List.map_cons, List.map_nil, List.cons.injEq, Prod.mk.injEq, and_true] at hl
                exact ⟨x, y, by rw [← Array.toArray_toList (xs := c.args), ha], hl.1.2.symm, hl.2.2.symm⟩
              | cons _ _ => rw [ha] at hl; simp at hl
        have hx' : (res e x).1 = .int k n := by
          rcases hint_cases P (c.argTypes.getD 0 0) x (res e x) with hh | ⟨_, _, hh⟩
          · rwa [hh] at hx
          · rw [hh] at hx; cases hx
        have hy' : (res e y).1 = .int k' m := by
          rcases hint_cases P (c.argTypes.getD 1 0) y (res e y) with hh | ⟨_, _, hh⟩
          · rwa [hh] at hy
          · rw [hh] at hy; cases hy
        exact out_max I ho hc hargs hx' hy'
      · cases h
    · cases h
  · -- min
    rename_i hc
    split at h
    · rename_i d x0 vx y0 vy hd hl
      split at h
      · rename_i k n k' m hx hy
        cases h
        refine Out.toC hd ?_
        obtain ⟨x, y, hargs, rfl, rfl⟩ : ∃ x y, c.args = #[x, y] ∧ vx = hint P (c.argTypes.getD 0 0) x (res e x) ∧ vy = hint P (c.argTypes.getD 1 0) y (res e y) := by
          cases ha : c.args.toList with
          | nil => rw [ha] at hl; simp at hl
          | cons x l =>
            cases l with
            | nil => rw [ha] at hl; simp at hl
            | cons y l =>
              cases l with
              | nil =>
                rw [ha] at hl
                simp only [List.zipIdx_cons, List.zipIdx_nil, List.map_cons, List.map_nil, List.cons.injEq, Prod.mk.injEq, and_true] at hl
                exact ⟨x, y, by rw [← Array.toArray_toList (xs := c.args), ha], hl.1.2.symm, hl.2.2.symm⟩
              | cons _ _ => rw [ha] at hl; simp at hl
        have hx' : (res e x).1 = .int k n := by
          rcases hint_cases P (c.argTypes.getD 0 0) x (res e x) with hh | ⟨_, _, hh⟩
          · rwa [hh] at hx
          · rw [hh] at hx; cases hx
        have hy' : (res e y).1 = .int k' m := by
          rcases hint_cases P (c.argTypes.getD 1 0) y (res e y) with hh | ⟨_, _, hh⟩
          · rwa [hh] at hy
          · rw [hh] at hy; cases hy
        exact out_min I ho hc hargs hx' hy'
      · cases h
    · cases h
  · cases h
theorem step_sound (I : Inv B Fz e (tmOf B a) w ob S) (hp : ¬ S p) (hM : ∀ g, Meets P g (Φ g)) {o : Oper} {ups : Ups} (h : sem P Φ keep p o (res e) = some ups) : OutC P B e a w S p o ups := by
  unfold sem at h
  split at h
  · rename_i d0 c ho
    split at h
    · exact out_callR I hp hM ho h
    · exact out_callOf I hp hM ho h
  · rename_i t x y ho hd
    split at h
    · rename_i n hs
      exact OutS.toC hd (out_storeQ I hp ho hs h)
    · cases h
  · rename_i t m k v ho hd
    split at h
    · rename_i ag zs hm
      exact OutS.toC hd (out_mapUpdate I ho hm h)
    · cases h
  · cases h
  · rename_i x d ho hd
    exact Out.toC hd (out_move I hp false (.inl ho) h)
  · rename_i x d ho hd
    exact Out.toC hd (out_assign I hp ho h)
  · rename_i t d ho hd
    split at h
    · rename_i ag zs hm
      cases h
      exact Out.toC hd (out_makeMap I hp ho ag)
    · cases h
  · rename_i t x k ok d ho hd
    split at h
    · rename_i m hm
      exact Out.toC hd (out_lookup I ho hm h)
    · cases h
  · -- pick
    rename_i c x y d ho hd
    refine Out.toC hd ?_
    split at h
    · rename_i t hc
      cases t with
      | true =>
        simp only [if_true] at h
        split at h
        · rename_i v hv
          cases h
          exact out_pick I ho hc (t := true) hv rfl
        · cases h
      | false =>
        simp only [Bool.false_eq_true, if_false] at h
        split at h
        · rename_i v hv
          cases h
          exact out_pick I ho hc (t := false) hv rfl
        · cases h
    · cases h
  · -- alloc
    rename_i t d ho hd
    split at h
    · rename_i cs hz
      cases h
      exact Out.toC hd (out_alloc I hp ho hz)
    · cases h
  · -- box
    rename_i t x d ho hd
    split at h
    · rename_i n cs u hs hx
      split at h
      · rename_i hc
        cases h
        exact Out.toC hd (out_box I hp ho hx)
      · cases h
    · exact Out.toC hd (out_boxO I hp ho h)
    · cases h
  · -- build
    rename_i t parts d ho hd
    split at h
    · cases h
    · rename_i zs hz
      split at h
      · exact Out.toC hd (out_buildO I hp ho hz h)
      split at h
      · rename_i cs u hb
        split at h
        · rename_i hnd
          cases h
          exact Out.toC hd (out_build I ho hz hb hnd)
        · cases h
      · cases h
  · -- buildSlice
    rename_i t len parts d ho hd
    split at h
    · rename_i n b zs ht hz
      obtain ⟨el, hel, hzt⟩ := Option.bind_eq_some_iff.1 hz
      split at h
      · rename_i hc
        split at h
        · rename_i xs u hx
          split at h
          · rename_i hnd
            cases h
            rw [hel, Option.getD_some] at hx
            exact Out.toC hd (out_buildSlice I hp ho ht hel hzt hc hx hnd)
          · cases h
        · cases h
      · cases h
    · cases h
  · -- load
    rename_i t x d ho hd
    split at h
    · rename_i n ag hs ha
      split at h
      · rename_i h1
        exact Out.toC hd (out_load I ho hs ha h1 h)
      · cases h
    · cases h
  · -- nilCheck
    rename_i x d ho hd
    exact Out.toC hd (out_nilCheck I ho h)
  · -- fieldAddr
    rename_i t x f d ho hd
    split at h
    · rename_i off n ag ft hf
      split at h
      · cases h
      · rename_i hn
        exact Out.toC hd (out_fieldAddr I ho hf hn h)
    · cases h
  · -- indexAddr
    rename_i t x i d ho hd
    split at h
    · rename_i k n hi
      split at h
      · rename_i len s ag ha
        split at h
        · rename_i hb
          exact Out.toC hd (out_indexAddr_arr I ho hi ha hb h)
        · cases h
      · split at h
        · rename_i s b ht
          exact Out.toC hd (out_indexAddr_row I ho hi ht h)
        · cases h
    · cases h
  · -- index
    rename_i t x i d ho hd
    split at h
    · rename_i k n hi
      split at h
      · rename_i s hx ht
        split at h
        · rename_i h0
          split at h
          · rename_i b hb
            cases h
            exact Out.toC hd (out_index_str I ho ht hi hx h0 hb)
          · cases h
        · cases h
      · split at h
        · rename_i len s ag ha
          split at h
          · rename_i hb
            exact Out.toC hd (out_index_arr I ho hi ha hb h)
          · cases h
        · cases h
      · cases h
    · cases h
  · -- slice
    rename_i t x lo hi d ho hd
    split at h
    · rename_i ht
      exact Out.toC hd (out_slice_str I ho ht h)
    · split at h
      · rename_i n b ht
        exact Out.toC hd (out_slice_row I ho ht h)
      · cases h
    · cases h
  · -- field
    rename_i t x f d ho hd
    split at h
    · rename_i off n ag ft hf
      split at h
      · rename_i h1
        exact Out.toC hd (out_field I ho hf h1 h)
      · cases h
    · cases h
  · -- extract
    rename_i x i d ho hd
    exact Out.toC hd (out_extract I hp ho h)
  · -- binOp
    rename_i op t x y ty d ho hd
    split at h
    · rename_i v hv
      cases h
      exact Out.toC hd (out_bin I ho hv)
    · split at h
      · cases h
        exact Out.toC hd (by simpa using out_ifc (d := d) I ho (by assumption) (.inl rfl))
      · cases h
        exact Out.toC hd (by simpa using out_ifc (d := d) I ho (by assumption) (.inr rfl))
      · cases h
  · -- makeInterface
    rename_i t x d ho hd
    split at h
    · cases h
    · cases h
    · rename_i k0 hu
      split at h
      · rename_i k n hx
        cases h
        exact Out.toC hd (out_makeIface I ho hu (by simp) (.inr ⟨k, n, hx, rfl⟩))
      · cases h
        exact Out.toC hd (out_makeIface I ho hu (by simp) (.inl rfl))
    · rename_i D hni _ hu
      cases h
      exact Out.toC hd (out_makeIface I ho hu (fun ms hms => by subst hms; simp_all) (.inl rfl))
  · -- unOp
    rename_i op t x d ho hd
    split at h
    · rename_i v hv
      cases h
      exact Out.toC hd (out_un I ho hv)
    · cases h
  · -- convert
    rename_i s t x d ho hd
    split at h
    · rename_i v hv
      split at h
      · rename_i v' hv'
        cases h
        exact Out.toC hd (out_convert I ho hv hv')
      · cases h
    · cases h
  · -- makeSlice
    rename_i t l c d ho hd
    split at h
    · rename_i n b zs kl nl kc nc ht hz hl hc
      obtain ⟨el, hel, hzt⟩ := Option.bind_eq_some_iff.1 hz
      split at h
      · rename_i hcond
        cases h
        exact Out.toC hd (out_makeSlice I hp ho ht hel hzt hl hc hcond)
      · cases h
    · cases h
  · -- makeFunc
    rename_i f first caps d ho hd
    split at h
    · rename_i hfirst
      split at h
      · rename_i cs u hc
        split at h
        · rename_i hnd
          cases h
          have hf : first = #[] := by simpa using hfirst
          subst hf
          exact Out.toC hd (out_makeFunc I ho hc hnd)
        · cases h
      · cases h
    · cases h
  · cases h
end
end Go.PE
namespace Go.PE
open Go.RowKit
/-- What stays the same while a function runs: where it began, how many slots, the slots that are never written. -/
structure Ctx where
  B : Base
  nt : Nat
  K : Nat → Prop
  T : Tm
  l : Option Nat := none
/-- The blocks for the deferred calls of the rounds of loops over functions that have ended: no call is in them. -/
def dsOf : List Deferred → List Nat
  | [] => []
  | d :: l => match d.target with | .collected D => D :: dsOf l | _ => dsOf l
def Base.wd (B : Base) (D : List Nat) : Base := { B with D0 := D }
structure Sat (C : Ctx) (S : Stamp → Prop) (e : Env) (a : Act) (w : World) : Prop where
  inv : ∃ Fz ob, Inv (C.B.wd (dsOf a.defers)) Fz e (tmOf C.B a) w ob S
  size : a.tmps.size = C.nt
  lt : C.nt ≤ VS
  defs : (∀ d ∈ a.defers, ∃ D, d = { target := .collected D, args := #[] }) ∧ (dsOf a.defers).Nodup ∧ (C.l ≠ none → a.defers = [])
  kept : ∀ t, C.K t → tmOf C.B a t = C.T t
section
variable {P : Program} {C : Ctx} {e : Env} {a : Act} {w : World} {S S' : Stamp → Prop} {p : Stamp}
variable {Φ : FuncId → List PV → Option (PV × List (List PV))} {keep : List Nat}
theorem tmOf_put {B : Base} {d : Nat} {u : Value} (h : d < a.tmps.size) (hv : d ≠ VS) : tmOf B (a.put (some d) u) = upd (tmOf B a) d u := by
  funext t
  by_cases htv : t = VS
  · subst htv
    unfold tmOf upd
    simp [Ne.symm hv]
  unfold tmOf Act.put upd
  simp only [if_neg htv]
  simp only [Array.getD_eq_getD_getElem?, Array.getElem?_setIfInBounds]
  by_cases ht : d = t
  · subst ht; simp [h]
  · simp [ht, Ne.symm ht]
theorem Sat.put {S' : Stamp → Prop} (H : Sat C S e a w) {dst : Option Nat} (hd : ∀ d, dst = some d → d < C.nt ∧ ¬ C.K d) {u : Value} {w' : World} {e' : Env}
    (I : ∃ Fz ob, Inv (C.B.wd (dsOf a.defers)) Fz e' (dstTm dst u (tmOf C.B a)) w' ob S') : Sat C S' e' (a.put dst u) w' := by
  cases dst with
  | none => exact ⟨I, H.size, H.lt, H.defs, H.kept⟩
  | some d =>
    obtain ⟨h1, h2⟩ := hd d rfl
    have ht := tmOf_put (B := C.B) (a := a) (d := d) (u := u) (by rw [H.size]; exact h1) (by have := H.lt; omega)
    refine ⟨by rw [ht]; exact I, by simpa [Act.put] using H.size, H.lt, H.defs, fun t hk => ?_⟩
    rw [ht, upd_other (fun h : t = d => h2 (h ▸ hk))]
    exact H.kept t hk
theorem wanted_of {ops : Array Oper} {o : Oper} {b : Bool} (H : Sat C S e a w) (h : guardOf ops o e = some b) : Region.wanted o (yielded ops a.tmps) = b := by
  unfold guardOf at h
  unfold Region.wanted
  cases hg : o.guard with
  | none => rw [hg] at h; simp only [Option.some.injEq] at h; exact h
  | some q =>
    obtain ⟨j, want⟩ := q
    rw [hg] at h
    simp only at h ⊢
    split at h
    · rename_i d hd
      obtain ⟨Fz, ob, I⟩ := H.inv
      unfold yielded
      rw [hd, Option.bind_some]
      split at h
      · rename_i c hc
        cases h
        obtain ⟨hdv, hc⟩ := tmp_val hc (by simp)
        have hR := I.slot d (by rw [hc]; rfl)
        rw [hc] at hR
        have hv : tmOf C.B a d = .bool c := by
          generalize tmOf C.B a d = val at hR
          generalize ob d = obd at hR
          cases hR with
          | plain h => cases h; rfl
        have : a.tmps[d]? = some (.bool c) := by
          rw [tmOf_ne _ a hdv] at hv
          change a.tmps.getD d undef = _ at hv
          rw [Array.getD_eq_getD_getElem?] at hv
          cases ht : a.tmps[d]? with
          | none => rw [ht] at hv; simp [undef] at hv
          | some x => rw [ht] at hv; simpa using hv
        rw [this]
        cases c <;> cases want <;> rfl
      · rename_i hc
        cases h
        obtain ⟨hdv, hc⟩ := tmp_val hc (by simp)
        have hR := I.slot d (by rw [hc]; rfl)
        rw [hc] at hR
        obtain ⟨arr, hv⟩ : ∃ arr, tmOf C.B a d = .tuple arr := by
          generalize tmOf C.B a d = val at hR
          generalize ob d = obd at hR
          cases hR with
          | plain h => cases h
          | tup arr _ _ _ => exact ⟨arr, rfl⟩
        rw [tmOf_ne _ a hdv] at hv
        change a.tmps.getD d undef = _ at hv
        rw [Array.getD_eq_getD_getElem?] at hv
        cases ht : a.tmps[d]? with
        | none => rfl
        | some x =>
          rw [ht] at hv
          simp only [Option.getD_some] at hv
          subst hv
          rfl
      · cases h
    · cases h
/-- The fence of every frame, or of a round's frame. -/
def FW (l : Option Nat) : Fence := { Fence.wide with round := l }
theorem sem_defer {o : Oper} {rs : Operand → PV × PV} {ups : Ups} (h : sem P Φ keep p o rs = some ups) : ∀ c, o.op ≠ .defer c := by
  intro c hc
  obtain ⟨dst, op, _, _, _, _⟩ := o
  simp only at hc
  subst hc
  cases dst <;> simp [sem] at h
theorem upon_in {l : Option Nat} {m : Nat} {o : Oper} (hd : ∀ c, o.op ≠ .defer c) {K : Act → World → Prop} {Q : Exit → Act → World → Prop} (h : o.wp P a w K Q) : o.wpIn (FW l) m P a w K Q := by
  refine ⟨fun _ _ => trivial, ?_⟩
  show o.uponIn (FW l) m P a K Q ((o.semAt l a.eval).run P w)
  rw [Oper.semAt_eq _ _ _ hd]
  unfold Oper.wp at h
  generalize (execOp a.eval o).run P w = r at *
  cases r with
  | ok x w' =>
    cases x <;> simp only [Oper.upon, Oper.uponIn] at h ⊢
    case value => exact h
    case skip => exact h
    case defer => exact h
    case enter => exact ⟨fun h => (by simp [FW, Fence.wide] at h), callsIn_wide.2 h⟩
    case row => exact ⟨fun h => (by simp [FW, Fence.wide] at h), fun c cs _ => (h c cs).imp fun v h => h.imp fun w' h => ⟨h.1, stepsIn_wide.2 h.2⟩⟩
  | halt x w' => cases x <;> simp only [Oper.upon, Oper.uponIn] at h ⊢ <;> exact h
/-- One operation of a region. -/
theorem wpOp_step {l : Option Nat} {m : Nat} {ops : Array Oper} {rid i : Nat} {o : Oper} (hi : ops[i]? = some o) (hM : ∀ g, Meets P g (Φ g)) (H : Sat C S e a w) (hp : ¬ S (rid, i))
    (hd : ∀ d, o.dst = some d → d < C.nt ∧ ¬ C.K d) {ups : Ups} (h : stepO P Φ keep ops rid i o e = some ups) {K : Act → World → Prop} {Q : Exit → Act → World → Prop}
    (hK : ∀ a' w', Sat C (fun s => S s ∨ s = (rid, i)) (apply ups e) a' w' → K a' w') : wpOpIn (FW l) m P ops Q i K a w := by
  unfold wpOpIn
  rw [hi]
  simp only
  unfold stepO at h
  split at h
  · cases h
  · rename_i hg
    rw [wanted_of H hg, if_pos rfl]
    obtain ⟨Fz, ob, I⟩ := H.inv
    exact upon_in (sem_defer h) (step_sound I hp hM h K Q fun u w' Fz' ob' I' => hK _ _ (H.put hd ⟨Fz', ob', I'⟩))
  · rename_i hg
    rw [wanted_of H hg, if_neg (by simp)]
    cases h
    refine ⟨fun _ _ => trivial, ?_⟩
    obtain ⟨Fz, ob, I⟩ := H.inv
    refine hK _ _ (H.put hd ?_)
    cases hdst : o.dst with
    | none => exact ⟨Fz, ob, I.weaken fun s h => .inl h⟩
    | some d =>
      refine ⟨Fz, _, I.put1 d (.tup []) undef [] (fun _ h => .inl h) rfl rfl rfl (Nat.le_refl _) (fun _ _ => rfl) (by simp) (by simp) (by simp [stampsOf]) (by simp [stamps1]) ?_⟩
      rw [if_neg (by simp [isRef])]
      exact .tup #[] [] [] .nil
theorem lookup_applyL (u : Ups) (l : List (Nat × PV)) : lookup (applyL u l) = apply u (lookup l) := by
  unfold applyL apply
  induction u generalizing l with
  | nil => rfl
  | cons q u ih =>
    rw [List.foldl_cons, List.foldl_cons, ih]
    congr 1
/-- The stamps that may be there: of earlier regions, and of this one's operations that are done. -/
def seen (rid : Nat) (D : Nat → Prop) : Stamp → Prop := fun s => s.1 ≤ rid ∨ s.1 = rid + 1 ∧ D s.2
/-- A region in the text's order. -/
theorem wpOps_text {lr : Option Nat} {m0 : Nat} {ops : Array Oper} {rid : Nat} (hM : ∀ g, Meets P g (Φ g)) (hd : ∀ o ∈ ops.toList, ∀ d, o.dst = some d → d < C.nt ∧ ¬ C.K d) {Q : Exit → Act → World → Prop} {eN : List (Nat × PV)}
    (hQ : ∀ a w, Sat C (seen rid fun j => j < ops.size) (lookup eN) a w → Q .normal a w) :
    ∀ (l : List Oper) (i : Nat) (e : List (Nat × PV)) (a : Act) (w : World), ops.toList.drop i = l → i ≤ ops.size → runOps P Φ keep ops (rid + 1) i l e = some eN → Sat C (seen rid fun j => j < i) (lookup e) a w →
      wpOpsIn (FW lr) m0 P ops Q (List.range' i (ops.size - i)) a w
  | [], i, e, a, w, hl, hle, h, H => by
    have : ops.size ≤ i := by
      have h2 := congrArg List.length hl
      simp at h2
      omega
    obtain rfl : i = ops.size := by omega
    rw [Nat.sub_self]
    simp only [runOps, Option.some.injEq] at h
    subst h
    exact hQ a w H
  | o :: l, i, e, a, w, hl, hle, h, H => by
    have hlt : i < ops.size := by
      have h2 := congrArg List.length hl
      simp at h2
      omega
    have ho : ops.toList[i]? = some o := by
      have : (ops.toList.drop i)[0]? = some o := by rw [hl]; rfl
      simpa using this
    have hi : ops[i]? = some o := by simpa using ho
    simp only [runOps] at h
    split at h
    · rename_i u hu
      obtain ⟨m, hm⟩ : ∃ m, ops.size - i = m + 1 := ⟨ops.size - i - 1, by omega⟩
      rw [hm, List.range'_succ, wpOpsIn_cons]
      refine wpOp_step hi hM H (by simp [seen]) (fun d hd' => hd o (List.mem_of_getElem? ho) d hd') hu fun a' w' H' => ?_
      have hm' : m = ops.size - (i + 1) := by omega
      rw [hm']
      refine wpOps_text hM hd hQ l (i + 1) (applyL u e) a' w' ?_ (by omega) h ?_
      · rw [← List.drop_drop, hl]; rfl
      · obtain ⟨⟨Fz, ob, I⟩, h2, hlt, h3, h4⟩ := H'
        rw [lookup_applyL]
        refine ⟨⟨Fz, ob, I.weaken fun s hs => ?_⟩, h2, hlt, h3, h4⟩
        rcases hs with hs | rfl
        · rcases hs with hs | ⟨hs, hj⟩
          · exact .inl hs
          · exact .inr ⟨hs, by omega⟩
        · exact .inr ⟨rfl, by simp⟩
    · cases h
theorem wp_region_text {lr : Option Nat} {m0 : Nat} {ops : Array Oper} {rid id : Nat} (hM : ∀ g, Meets P g (Φ g)) (hd : ∀ o ∈ ops.toList, ∀ d, o.dst = some d → d < C.nt ∧ ¬ C.K d) {Q : Exit → Act → World → Prop} {e eN : List (Nat × PV)}
    (h : runOps P Φ keep ops (rid + 1) 0 ops.toList e = some eN) (H : Sat C (fun s => s.1 ≤ rid) (lookup e) a w)
    (hQ : ∀ a w, Sat C (fun s => s.1 ≤ rid + 1) (lookup eN) a w → Q .normal a w) : (Code.region id ops false).wpIn (FW lr) m0 P Q a w := by
  refine wpIn_region ?_
  have := wpOps_text (lr := lr) (m0 := m0) (Q := Q) (eN := eN) hM hd (fun a w H => hQ a w (by
    obtain ⟨⟨Fz, ob, I⟩, h2, hlt, h3, h4⟩ := H
    exact ⟨⟨Fz, ob, I.weaken fun s hs => by rcases hs with hs | hs <;> omega⟩, h2, hlt, h3, h4⟩)) ops.toList 0 e a w rfl (Nat.zero_le _) h (by
    obtain ⟨⟨Fz, ob, I⟩, h2, hlt, h3, h4⟩ := H
    exact ⟨⟨Fz, ob, I.weaken fun s hs => .inl hs⟩, h2, hlt, h3, h4⟩)
  rwa [Nat.sub_zero, ← List.range_eq_range'] at this
end
end Go.PE
namespace Go.PE
open Go.RowKit
section
variable {P : Program} {Φ : FuncId → List PV → Option (PV × List (List PV))} {keep : List Nat} {p : Stamp}
theorem buildS_congr {place : Nat → Option (Nat × Nat × TypeId)} {rs rs' : TypeId → Operand → PV × PV} : ∀ (l : List (Nat × Operand)) (cells : List PV), (∀ q ∈ l, ∀ t, rs t q.2 = rs' t q.2) →
    buildS place rs l cells = buildS place rs' l cells
  | [], _, _ => rfl
  | (i, x) :: l, cells, h => by
    simp only [buildS]
    split
    · rfl
    · rename_i o n t _
      have h0 : rs t x = rs' t x := h (i, x) (by simp) t
      rw [h0]
      split
      · rfl
      · split
        · rw [buildS_congr l _ fun q hq => h q (List.mem_cons_of_mem _ hq)]
        · rfl
theorem elemsS_congr {n : Nat} {rs rs' : Operand → PV × PV} : ∀ (l : List (Nat × Operand)) (xs : List (List PV)), (∀ q ∈ l, rs q.2 = rs' q.2) → elemsS n rs l xs = elemsS n rs' l xs
  | [], _, _ => rfl
  | (i, x) :: l, xs, h => by
    simp only [elemsS]
    have h0 : rs x = rs' x := h (i, x) (by simp)
    rw [h0]
    split
    · rfl
    · split
      · rw [elemsS_congr l _ fun q hq => h q (List.mem_cons_of_mem _ hq)]
      · rfl
theorem fillO_congr {place : Nat → Option (Nat × Nat × TypeId)} {rs rs' : TypeId → Operand → PV × PV} : ∀ (l : List (Nat × Operand)) (cells : List PV), (∀ q ∈ l, ∀ t, rs t q.2 = rs' t q.2) → fillO place rs l cells = fillO place rs' l cells
  | [], _, _ => rfl
  | (i, x) :: l, cells, h => by
    simp only [fillO]
    split
    · rfl
    · rename_i o n t _
      have h0 : rs t x = rs' t x := h (i, x) (by simp) t
      rw [h0]
      split
      · rfl
      · split
        · rw [fillO_congr l _ fun q hq => h q (List.mem_cons_of_mem _ hq)]
        · rfl
theorem fillO_src {place : Nat → Option (Nat × Nat × TypeId)} {P : Program} {rs : Operand → PV × PV} : ∀ (l : List (Nat × Operand)) (cells cs : List PV), fillO place (fun t x => hint P t x (rs x)) l cells = some cs →
    ∀ c ∈ cs, c ∈ cells ∨ (∃ s, c = .loc s (0, 0) 0 ∧ ∃ i, (i, Operand.tmp s) ∈ l) ∨ (∀ s a b, c ≠ .loc s a b)
  | [], cells, cs, h => fun c hc => by simp only [fillO, Option.some.injEq] at h; subst h; exact .inl hc
  | (i, x) :: l, cells, cs, h => fun c hc => by
    simp only [fillO] at h
    split at h
    · cases h
    · split at h
      · cases h
      · rename_i new hnew
        split at h
        · rcases fillO_src l _ cs h c hc with h1 | ⟨s, h1, j, h2⟩ | h1
          · unfold splice at h1
            simp only [List.mem_append] at h1
            rcases h1 with (h1 | h1) | h1
            · exact .inl (List.mem_of_mem_take h1)
            · refine .inr ?_
              unfold partO at hnew
              split at hnew
              · split at hnew
                · cases hnew
                  simp only [List.mem_singleton] at h1
                  exact .inl ⟨_, h1, i, List.mem_cons_self ..⟩
                · cases hnew
              · split at hnew
                · cases hnew
                  simp only [List.mem_singleton] at h1
                  exact .inl ⟨_, h1, i, List.mem_cons_self ..⟩
                · cases hnew
              · split at hnew
                · rename_i hok
                  cases hnew
                  exact .inr fun s a b h => by have := List.all_eq_true.1 hok c h1; rw [h] at this; simp [okC] at this
                · cases hnew
              · split at hnew
                · rename_i hok
                  cases hnew
                  simp only [List.mem_singleton] at h1
                  exact .inr fun s a b h => by rw [← h1, h] at hok; simp [okC] at hok
                · cases hnew
            · exact .inl (List.mem_of_mem_drop h1)
          · exact .inr (.inl ⟨s, h1, j, List.mem_cons_of_mem _ h2⟩)
          · exact .inr (.inr h1)
        · cases h
theorem sem_congr {o : Oper} {rs rs' : Operand → PV × PV} (h : ∀ x ∈ o.op.operands, rs x = rs' x) : sem P Φ keep p o rs = sem P Φ keep p o rs' := by
  obtain ⟨dst, op, type, pos, after, guard⟩ := o
  cases op with
  | call c =>
    simp only [Op.operands] at h
    simp only [sem, callOf, callR]
    have hargs : (c.args.toList.zipIdx.map fun (x, i) => (x, hint P (c.argTypes.getD i 0) x (rs x))) = (c.args.toList.zipIdx.map fun (x, i) => (x, hint P (c.argTypes.getD i 0) x (rs' x))) := by
      refine List.map_congr_left fun q hq => ?_
      obtain ⟨x, i⟩ := q
      have : x ∈ c.args := by
        have := List.mem_zipIdx hq
        simp at this
        rw [this.2]; simp
      simp only [h x (by simp [Call.operands, this])]
    rw [hargs]
    cases hc : c.callee with
    | value f => simp only [h f (by simp [Call.operands, hc])]
    | invoke r m => rfl
    | builtin b => cases b <;> rfl
  | store t x y =>
    simp only [Op.operands] at h
    cases dst <;> simp only [sem]
    rw [h x (by simp), h y (by simp)]
  | move x => cases dst <;> simp only [sem]; simp only [Op.operands] at h; rw [h x (by simp)]
  | assign x => cases dst <;> simp only [sem]; simp only [Op.operands] at h; rw [h x (by simp)]
  | pick c x y => cases dst <;> simp only [sem]; simp only [Op.operands] at h; rw [h c (by simp), h x (by simp), h y (by simp)]
  | alloc t => cases dst <;> simp only [sem]
  | box t x => cases dst <;> simp only [sem]; simp only [Op.operands] at h; rw [h x (by simp)]
  | makeMap t r => cases dst <;> cases r <;> simp only [sem]
  | lookup t x k ok => cases dst <;> simp only [sem]; simp only [Op.operands] at h; rw [h x (by simp), h k (by simp)]
  | mapUpdate t m k v => cases dst <;> simp only [sem]; simp only [Op.operands] at h; rw [h m (by simp), h k (by simp), h v (by simp)]
  | build t parts =>
    cases dst <;> simp only [sem]
    simp only [Op.operands] at h
    have hp : ∀ q ∈ parts.toList, rs q.2 = rs' q.2 := fun q hq => h q.2 (by
      simp only [List.mem_toArray, List.mem_map]
      exact ⟨q, hq, rfl⟩)
    have ho : ∀ d zs, zs.all okC = true → buildO p d (placesT P t) rs (fun t x => hint P t x (rs x)) parts.toList zs = buildO p d (placesT P t) rs' (fun t x => hint P t x (rs' x)) parts.toList zs := by
      intro d zs hz
      unfold buildO
      have : ∀ pl, fillO pl (fun t x => hint P t x (rs x)) parts.toList zs = fillO pl (fun t x => hint P t x (rs' x)) parts.toList zs := fun pl => fillO_congr _ _ fun q hq t => by rw [hp q hq]
      simp only [this]
      split
      · split
        · rename_i l cs hcs
          have hput : cs.map (putO p rs) = cs.map (putO p rs') := List.map_congr_left fun c hc => by
            rcases fillO_src parts.toList zs cs hcs c hc with h | ⟨s, h1, i, h2⟩ | h
            · have := List.all_eq_true.1 hz c h
              cases c <;> simp_all [okC, putO]
            · rw [h1]
              simp only [putO]
              rw [hp (i, .tmp s) h2]
            · cases c <;> simp_all [okC, putO]
          rw [hput]
        · rfl
      · rfl
    have : ∀ zs, buildP P t parts.toList rs zs = buildP P t parts.toList rs' zs := by
      intro zs
      unfold buildP
      split
      · exact buildS_congr _ _ fun q hq t => hp q hq
      · split
        · exact buildS_congr _ _ fun q hq t => by rw [hp q hq]
        · rfl
    cases hz : zeroT P t with
    | none => rfl
    | some zs =>
      have hzk : zs.all okC = true := by
        obtain ⟨_, _, _, _, hf⟩ := zeroT_spec hz
        exact (zero_imm (w := default) (Fz := fun _ => False) hf).2
      simp only [this, ho _ _ hzk]
  | buildSlice t len parts =>
    cases dst <;> simp only [sem]
    simp only [Op.operands] at h
    have hp : ∀ q ∈ parts.toList, rs q.2 = rs' q.2 := fun q hq => h q.2 (by
      simp only [List.mem_toArray, List.mem_map]
      exact ⟨q, hq, rfl⟩)
    have : ∀ n xs, elemsS n (fun x => hint P ((elemT P t).getD 0) x (rs x)) parts.toList xs = elemsS n (fun x => hint P ((elemT P t).getD 0) x (rs' x)) parts.toList xs :=
      fun n xs => elemsS_congr _ _ fun q hq => by rw [hp q hq]
    simp only [this]
  | load t x => cases dst <;> simp only [sem]; simp only [Op.operands] at h; rw [h x (by simp)]
  | nilCheck x => cases dst <;> simp only [sem]; simp only [Op.operands] at h; rw [h x (by simp)]
  | fieldAddr t x f => cases dst <;> simp only [sem]; simp only [Op.operands] at h; rw [h x (by simp)]
  | indexAddr t x i => cases dst <;> simp only [sem]; simp only [Op.operands] at h; rw [h x (by simp), h i (by simp)]
  | index t x i => cases dst <;> simp only [sem]; simp only [Op.operands] at h; rw [h x (by simp), h i (by simp)]
  | slice t x lo hi mx =>
    cases dst <;> cases mx <;> simp only [sem]
    simp only [Op.operands] at h
    rw [h x (by simp)]
    cases lo with
    | none =>
      cases hi with
      | none => rfl
      | some y => simp only [Option.map_some, Option.map_none]; rw [h y (by simp)]
    | some y0 =>
      cases hi with
      | none => simp only [Option.map_some, Option.map_none]; rw [h y0 (by simp)]
      | some y => simp only [Option.map_some]; rw [h y (by simp), h y0 (by simp)]
  | field t x f => cases dst <;> simp only [sem]; simp only [Op.operands] at h; rw [h x (by simp)]
  | extract x i => cases dst <;> simp only [sem]; simp only [Op.operands] at h; rw [h x (by simp)]
  | binOp op t x y ty => cases dst <;> simp only [sem]; simp only [Op.operands] at h; rw [h x (by simp), h y (by simp)]
  | makeInterface t x => cases dst <;> simp only [sem]; simp only [Op.operands] at h; rw [h x (by simp)]
  | unOp op t x => cases dst <;> simp only [sem]; simp only [Op.operands] at h; rw [h x (by simp)]
  | convert s t x => cases dst <;> simp only [sem]; simp only [Op.operands] at h; rw [h x (by simp)]
  | makeSlice t l c => cases dst <;> simp only [sem]; simp only [Op.operands] at h; rw [h l (by simp), h c (by simp)]
  | makeFunc fn first caps =>
    cases dst <;> cases fn <;> simp only [sem]
    simp only [Op.operands] at h
    have : (caps.toList.map fun x => (x, rs x)) = (caps.toList.map fun x => (x, rs' x)) := List.map_congr_left fun x hx => by rw [h x (by simp; exact .inr (by simpa using hx))]
    rw [this]
  | _ => cases dst <;> rfl
theorem res_congr {e e' : Env} {x : Operand} (h1 : ∀ t, x = .tmp t → e' t = e t) (h2 : ∀ r, rootOf (opv e x) = some r → e' r = e r) : res e' x = res e x := by
  have hv : opv e' x = opv e x := by
    cases x with
    | tmp t => exact (by simp only [opv]; rw [h1 t rfl])
    | _ => rfl
  unfold res
  simp only [hv]
  cases hr : rootOf (opv e x) with
  | none => rfl
  | some r => simp only [h2 r hr]
theorem stepO_congr {ops : Array Oper} {rid i : Nat} {o : Oper} {e e' : Env} (h : ∀ s ∈ foot ops o e, e' s = e s) : stepO P Φ keep ops rid i o e' = stepO P Φ keep ops rid i o e := by
  have hg : guardOf ops o e' = guardOf ops o e := by
    unfold guardOf
    cases hgd : o.guard with
    | none => rfl
    | some q =>
      obtain ⟨j, want⟩ := q
      simp only
      cases hd : (ops[j]?).bind (·.dst) with
      | none => rfl
      | some d =>
        simp only
        simp only [opv]; rw [h d (by simp [foot, hgd, hd])]
  have hr : ∀ x ∈ o.op.operands, res e' x = res e x := fun x hx => by
    refine res_congr (fun t ht => h t ?_) (fun r hr => h r ?_)
    · subst ht
      unfold foot
      exact List.mem_append.2 (.inl (List.mem_flatMap.2 ⟨.tmp t, by simpa using hx, by simp⟩))
    · unfold foot
      exact List.mem_append.2 (.inl (List.mem_flatMap.2 ⟨x, by simpa using hx, by simp [hr]⟩))
  unfold stepO
  rw [hg, sem_congr hr]
end
end Go.PE
