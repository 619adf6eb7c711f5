/-
  A part of the proof that the law's function returns true and leaves its arguments as they were, for every input (no condition): own lemmas of the proof, in the order of their use.
-/
import Derived.Test.YtkfppicmdgbfjaaGreatDoorU06
import Derived.Laws.IdiomStrings
import Derived.RangeFuncSeq
import Derived.RangeFuncRecord
import Derived.RangeFuncCalls
import Derived.OrdersIn
set_option linter.all false
namespace Go.PE
open Go.RowKit
section
variable {P : Program} {B : Base} {Fz : Nat → Prop} {e : Env} {a : Act} {tm : Tm} {w : World} {ob : Nat → List Nat} {S S' : Stamp → Prop} {p : Stamp}
/-- A plain value that may speak of new memory, which nobody writes. -/
theorem Inv.putPlainF (I : Inv B Fz e tm w ob S) (d : Nat) (u : Value) (v : PV) (w' : World) (Fz' : Nat → Prop) (hos : w'.os = w.os) (htape : w'.tape = w.tape) (hout : w'.output = w.output)
    (hsize : w.heap.size ≤ w'.heap.size) (hheap : ∀ b, b < w.heap.size → w'.heap[b]? = w.heap[b]?) (hFF : ∀ b, Fz b → Fz' b) (hF : ∀ b, Fz' b → Fz b ∨ w.heap.size ≤ b ∧ b < w'.heap.size) (h : Plain w' Fz' u v) :
    Inv B Fz' (upd e d v) (upd tm d u) w' (upd ob d []) (fun st => S st ∨ st = p) := by
  refine I.step (fun s => s = d) (fun _ h => .inl h) hos htape hout hsize (fun b hb _ => hheap b hb) (fun s hs => ⟨upd_other hs, upd_other hs, upd_other hs⟩)
    hFF (fun b hb => (hF b hb).imp_right .inr) ?_ ?_ ?_ ?_ ?_ ?_
  · rintro s rfl b hb
    rw [upd_same] at hb
    cases hb
  · rintro s rfl; rw [upd_same]; exact List.nodup_nil
  · rintro s t rfl rfl hne; exact absurd rfl hne
  · rintro s rfl st hs
    rw [upd_same, okV_stampsOf h.okV] at hs
    cases hs
  · rintro s rfl
    refine RootStep.fresh ?_
    rw [upd_same, okV_stamps1 h.okV]
    simp
  · rintro _ s rfl
    unfold SlotRep
    rw [upd_same, upd_same, upd_same, if_neg (by simp [okV_not_ref h.okV])]
    exact h.rep
theorem Inv.len (I : Inv B Fz e (tmOf B a) w ob S) {t : TypeId} {x : Operand} {n : Nat} (h : lenV (hint P t x (res e x)) = some n) :
    (∃ s, a.eval x = .string s ∧ s.size = n ∧ ∃ s', (hint P t x (res e x)).1 = .str s') ∨ (∃ A cap, a.eval x = .slice A n cap ∧ ∀ s', (hint P t x (res e x)).1 ≠ .str s') := by
  by_cases hok : okC (hint P t x (res e x)).1 = true
  · have hi := I.immH P t x hok
    generalize hint P t x (res e x) = vr at *
    generalize a.eval x = val at *
    obtain ⟨v1, v2⟩ := vr
    simp only at hok hi
    unfold lenV at h
    cases hi with
    | str s =>
      simp only [Option.some.injEq] at h
      exact .inl ⟨s, rfl, by rw [← h]; simp, _, rfl⟩
    | imm A n' cap sz' xs c hn hc hu hcell hr =>
      simp only [Option.some.injEq] at h
      exact .inr ⟨A, cap, by rw [← h, hn], by simp⟩
    | nils sz' =>
      simp only [Option.some.injEq] at h
      exact .inr ⟨none, 0, by rw [← h], by simp⟩
    | _ => simp at h
  · have hne := hint_ne P t x (res e x) (by simpa using hok)
    rw [hne] at h hok ⊢
    have h1 : (res e x).1 = opv e x := rfl
    unfold lenV at h
    rw [h1] at h hok ⊢
    split at h
    · rename_i he
      rw [he] at hok; simp [okC] at hok
    · rename_i he
      rw [he] at hok; simp [okC] at hok
    · rename_i st sz xs he
      cases h
      obtain ⟨r, rfl⟩ := opv_own_tmp (e := e) (x := x) (by rw [he]; rfl) (by rw [he]; simp)
      obtain ⟨hvs, he'⟩ := tmp_val he (by simp)
      have hR := I.slot r (by rw [he']; rfl)
      rw [he'] at hR
      obtain ⟨A, cap, hu, _⟩ := hR.rowAt
      exact .inr ⟨A, cap, (tmOf_ne B a hvs).symm.trans hu, by rw [he]; simp⟩
    · rename_i he
      rw [he] at hok; simp [okC] at hok
    · rename_i r pl st off len he
      obtain ⟨s, rfl⟩ := opv_own_tmp (e := e) (x := x) (by rw [he]; rfl) (by rw [he]; simp)
      obtain ⟨hvs, he'⟩ := tmp_val he (by simp)
      split at h
      · rename_i q hrow
        cases h
        obtain ⟨sz, xs⟩ := q
        have hr2 : (res e (.tmp s)).2 = e r := by simp [res, opv, hvs, he', rootOf]
        rw [hr2] at hrow
        have href := I.ref s (by rw [he']; rfl)
        rw [he'] at href
        obtain ⟨_, _, _, _, A', cap', _, hus, _⟩ := href _ _ hrow
        exact .inr ⟨A', cap', (tmOf_ne B a hvs).symm.trans hus, by rw [he]; simp⟩
      · cases h
    · cases h
theorem out_len (I : Inv B Fz e (tmOf B a) w ob S) {o : Oper} {d : Nat} {c : Call} (ho : o.op = .call c) (hc : c.callee = .builtin .len) {x : Operand} (hargs : c.args = #[x])
    {t : TypeId} (hts : c.argTypes[0]? = some t) {n : Nat} (h : lenV (hint P t x (res e x)) = some n)
    (ht : (P.underlying t = some .string ∧ (∃ s, (hint P t x (res e x)).1 = .str s)) ∨ ((∃ el, P.underlying t = some (.slice el)) ∧ ∀ s, (hint P t x (res e x)).1 ≠ .str s)) :
    Out P B e a w S p o d [(d, .int .i64 n)] := by
  refine out_plain I (u := .int .i64 n) ?_ (.inl (.int _ _))
  obtain ⟨cs, hcs⟩ := run_builtin (P := P) (a := a) (w := w) ho hc
  rw [hcs, hargs]
  simp only [builtin, Sem.run_bind]
  have : (Builtin.len_ c.argTypes o.type (Array.map a.eval #[x])).run P w = .ok (.int .i64 n) w := by
    rcases I.len h with ⟨s, hv, hn, s', hs'⟩ | ⟨A, cap, hv, hns⟩
    · rcases ht with ⟨hu, _⟩ | ⟨_, hno⟩
      · simp [Builtin.len_, hts, hv, run_underlying hu, goInt, hn]
      · exact absurd hs' (hno s')
    · rcases ht with ⟨_, s', hs'⟩ | ⟨⟨el, hu⟩, _⟩
      · exact absurd hs' (hns s')
      · simp [Builtin.len_, hts, hv, run_underlying hu, goInt]
  rw [this]
  rfl
theorem out_max (I : Inv B Fz e (tmOf B a) w ob S) {o : Oper} {d : Nat} {c : Call} (ho : o.op = .call c) (hc : c.callee = .builtin .max) {x y : Operand} (hargs : c.args = #[x, y])
    {k k' : IntKind} {n m : Int} (hx : (res e x).1 = .int k n) (hy : (res e y).1 = .int k' m) : Out P B e a w S p o d [(d, .int k (if m > n then m else n))] := by
  refine out_plain I (u := .int k (if m > n then m else n)) ?_ (.inl (.int _ _))
  obtain ⟨cs, hcs⟩ := run_builtin (P := P) (a := a) (w := w) ho hc
  rw [hcs, hargs]
  simp [builtin, Builtin.max_, Builtin.max2, I.int hx, I.int hy]
theorem out_min (I : Inv B Fz e (tmOf B a) w ob S) {o : Oper} {d : Nat} {c : Call} (ho : o.op = .call c) (hc : c.callee = .builtin .min) {x y : Operand} (hargs : c.args = #[x, y])
    {k k' : IntKind} {n m : Int} (hx : (res e x).1 = .int k n) (hy : (res e y).1 = .int k' m) : Out P B e a w S p o d [(d, .int k (if m < n then m else n))] := by
  refine out_plain I (u := .int k (if m < n then m else n)) ?_ (.inl (.int _ _))
  obtain ⟨cs, hcs⟩ := run_builtin (P := P) (a := a) (w := w) ho hc
  rw [hcs, hargs]
  simp [builtin, Builtin.min_, Builtin.min2, I.int hx, I.int hy]
theorem bytesOf_spec : ∀ {xs : List (List PV)} {bs : List UInt8}, bytesOf? xs = some bs → xs.length = bs.length ∧ (∀ x ∈ xs, x.length = 1) ∧ ∀ j (hj : j < bs.length), cell2 xs j 0 = some (.int .u8 (bs[j].toNat : Int))
  | [], bs, h => by
    simp only [bytesOf?, Option.some.injEq] at h
    subst h
    exact ⟨rfl, by simp, fun j hj => absurd hj (by simp)⟩
  | x :: r, bs, h => by
    unfold bytesOf? at h
    split at h
    · cases ‹x :: r = []›
    · rename_i n r' heq
      cases heq
      split at h
      · rename_i hn
        obtain ⟨bs', hb, rfl⟩ := Option.map_eq_some_iff.1 h
        obtain ⟨h1, h0, h2⟩ := bytesOf_spec hb
        refine ⟨by simp [h1], by simpa using h0, fun j hj => ?_⟩
        cases j with
        | zero =>
          simp only [cell2, List.getElem?_cons_zero, Option.bind_some, List.getElem_cons_zero, Option.some.injEq, PV.int.injEq, true_and]
          have : n.toNat < 256 := by omega
          simp [UInt8.toNat_ofNat, Nat.mod_eq_of_lt this]
          omega
        | succ j =>
          have := h2 j (by simpa using hj)
          simpa [cell2] using this
      · cases h
    · cases h
theorem bytesRow_cell (s : ByteArray) (cap j : Nat) (b : UInt8) (hb : s.data.toList[j]? = some b) : (bytesRow s cap)[j]? = some (.int .u8 b.toNat) := by
  have hb' : s.data[j]? = some b := by simpa using hb
  obtain ⟨h1, h2⟩ := Array.getElem?_eq_some_iff.1 hb'
  unfold bytesRow
  rw [Array.getElem?_append_left (by simpa using h1)]
  simp [hb']
theorem out_convert (I : Inv B Fz e (tmOf B a) w ob S) {o : Oper} {d : Nat} {s t : TypeId} {x : Operand} (ho : o.op = .convert s t x) {v v' : PV} (hv : PE.view (res e x) = some v) (h : convS P s t v = some v') :
    Out P B e a w S p o d [(d, v')] := by
  obtain ⟨bs, hpl, _⟩ := I.view P 0 x (v := v) (by
    rcases hint_cases P 0 x (res e x) with hh | ⟨rfl, n, hh⟩
    · rw [hh]; exact hv
    · simp [PE.view, res, opv, constPV, okC] at hv)
  have hrun : ∀ {u w'}, (Go.convert s t (a.eval x)).run P w = .ok u w' → (execOp a.eval o).run P w = .ok (.value u) w' := by
    intro u w' hr
    simp only [execOp, ho, Sem.run_bind, hr, Result.andThen_ok, Sem.run_pure]
  generalize a.eval x = val at *
  unfold convS at h
  split at h
  · -- int to int
    rename_i k0 k k' n hs ht
    cases h
    rcases hpl with hpl | ⟨_, _, _, hc, _⟩
    · cases hpl
      refine out_plain I (hrun (u := .int k (k.wrap n)) ?_) (.inl (.int _ _))
      simp [Go.convert, run_underlying hs, run_underlying ht, Conv.intToInt]
    · cases hc
  · -- string to string
    rename_i s0 hs ht
    cases h
    rcases hpl with hpl | ⟨_, _, _, hc, _⟩
    · cases hpl
      refine out_plain I (hrun (u := .string _) ?_) (.inl (.str _))
      simp [Go.convert, run_underlying hs, run_underlying ht]
    · cases hc
  · -- string to bytes
    rename_i el s0 hs ht
    split at h
    · rename_i hel
      split at h
      · rename_i hlen
        cases h
        rcases hpl with hpl | ⟨_, _, _, hc, _⟩
        · cases hpl with
          | str s1 =>
          have hr := run_bytes_of_string (P := P) w s t el s1 hs ht hel
          generalize hgc : grownCap w s1.size 0 el = gc at hr
          have hge : s1.size ≤ gc := hgc ▸ grownCap_ge w _ _ el
          have hold : ∀ b, b < w.heap.size → (w.drew.alloc (.cells (bytesRow s1 gc) el ((bytesRow s1 gc).size, (bytesRow s1 gc).size + 1))).heap[b]? = w.heap[b]? := fun b hb => alloc_heap_old w.drew _ b hb
          refine out_of (hrun hr) (I.putPlainF d _ _ _ (fun b => Fz b ∨ b = w.heap.size) rfl rfl rfl (by simp) hold (fun _ h => .inl h) (fun b hb => hb.imp_right fun h => by subst h; simp) (.inl ?_))
          refine .imm _ _ _ 1 _ (fun i j => (bytesRow s1 gc).getD i undef) (by simp [bytesPV]) hge (by simp [bytesPV]) ?_ ?_
          · intro i j q hq
            have hij := cell2_len (n := 1) (by simp [bytesPV]) hq
            have hnew := alloc_heap_new w.drew (.cells (bytesRow s1 gc) el ((bytesRow s1 gc).size, (bytesRow s1 gc).size + 1))
            have hsz : i < (bytesRow s1 gc).size := by
              have : s1.size = s1.data.toList.length := by simp
              simp [bytesRow, bytesPV] at hij ⊢
              omega
            refine ⟨_, rfl, .inr rfl, ?_⟩
            rw [add_lit]
            have hnew' : (w.drew.alloc (.cells (bytesRow s1 gc) el ((bytesRow s1 gc).size, (bytesRow s1 gc).size + 1))).heap[w.heap.size]? = some (.cells (bytesRow s1 gc) el ((bytesRow s1 gc).size, (bytesRow s1 gc).size + 1)) := hnew
            simp only [World.cell?, hnew', Option.isSome_none, Bool.false_eq_true, if_false, Nat.zero_add]
            rw [show i * 1 + j = i by omega]
            simp [hsz]
          · intro i j q hq
            unfold cell2 bytesPV at hq
            rw [List.getElem?_map] at hq
            obtain ⟨c, hc, hq⟩ := Option.bind_eq_some_iff.1 hq
            obtain ⟨b, hb, rfl⟩ := Option.map_eq_some_iff.1 hc
            cases j with
            | zero =>
              simp only [List.getElem?_cons_zero, Option.some.injEq] at hq
              subst hq
              have := bytesRow_cell s1 gc i b hb
              have h2 : (bytesRow s1 gc).getD i undef = .int .u8 b.toNat := by simp [Array.getD_eq_getD_getElem?, this]
              rw [h2]
              exact .int _ _
            | succ j => simp at hq
        · cases hc
      · cases h
    · cases h
  · -- bytes to string
    rename_i el sz xs hs ht
    split at h
    · rename_i hel
      obtain ⟨l, hl, rfl⟩ := Option.map_eq_some_iff.1 h
      rcases hpl with hpl | ⟨_, _, _, hc, _⟩
      · obtain ⟨hlen, hone, hcl⟩ := bytesOf_spec hl
        cases hpl with
        | imm A n cap _ _ c hn hc hu hcell hr =>
          have hsz : ∀ j (hj : j < l.length), sz = 1 := by
            intro j hj
            obtain ⟨x, hx⟩ : ∃ x, x ∈ xs := ⟨xs[j]'(by omega), List.getElem_mem _⟩
            rw [← hu x hx, hone x hx]
          cases A with
          | none =>
            have : l = [] := by
              cases l with
              | nil => rfl
              | cons b l =>
                obtain ⟨_, h1, _⟩ := hcell _ _ _ (hcl 0 (by simp))
                cases h1
            subst this
            have hr2 : (Go.convert s t (.slice none n cap)).run P w = .ok (.string .empty) w := by
              rw [run_convert_bytes_string w s t el none n cap hs hel ht]
              simp [Conv.bytesToString]
            exact out_plain I (hrun hr2) (.inl (.str _))
          | some ad =>
            have hr2 := run_convert_bytes_back (P := P) w s t el ad cap l hs hel ht (fun j hj => by
              obtain ⟨ad', h1, _, h2⟩ := hcell _ _ _ (hcl j hj)
              cases h1
              have h3 := hr _ _ _ (hcl j hj)
              generalize c j 0 = cv at *
              cases h3
              rw [hsz j hj] at h2
              simpa using h2)
            rw [← hlen, hn] at hr2
            exact out_plain I (hrun hr2) (.inl (.str _))
      · cases hc
    · cases h
  · cases h
end
end Go.PE
namespace Go.PE
open Go.RowKit
section
variable {P : Program} {B : Base} {Fz : Nat → Prop} {e : Env} {a : Act} {tm : Tm} {w : World} {ob : Nat → List Nat} {S S' : Stamp → Prop} {p : Stamp}
/-- The arguments of a call: plain values, and variables that the callee may write. -/
inductive ArgsRel (w : World) (Fz : Nat → Prop) (tm : Tm) (e : Env) : List Value → List PV → List (Nat × Stamp) → Prop
  | nil : ArgsRel w Fz tm e [] [] []
  | plain {v q vs ps bs} (h : Plain w Fz v q) (t : ArgsRel w Fz tm e vs ps bs) : ArgsRel w Fz tm e (v :: vs) (q :: ps) bs
  | box {r st cs vs ps bs} (he : e r = .box st cs) (t : ArgsRel w Fz tm e vs ps bs) : ArgsRel w Fz tm e (tm r :: vs) (.box (0, 0) (cs.map (stC (0, 0))) :: ps) ((r, st) :: bs)
theorem ArgsRel.mono {Fz' : Nat → Prop} {vs : List Value} {ps : List PV} {bs : List (Nat × Stamp)} (h : ArgsRel w Fz tm e vs ps bs) (hF : ∀ b, Fz b → Fz' b) : ArgsRel w Fz' tm e vs ps bs := by
  induction h with
  | nil => exact .nil
  | plain h _ ih => exact .plain (h.mono hF fun _ _ => rfl) ih
  | box he _ ih => exact .box he ih
theorem argS_cases {x : Operand} {vr : PV × PV} {v : PV} {u : Ups} {b : Option (Nat × Stamp)} (h : argS x vr = some (v, u, b)) :
    (∃ st cs t, vr.1 = .box st cs ∧ x = .tmp t ∧ v = .box (0, 0) (cs.map (stC (0, 0))) ∧ u = [] ∧ b = some (t, st)) ∨
    (∃ r st cs, vr.1 = .loc r st 0 ∧ vr.2 = .box st cs ∧ v = .box (0, 0) (cs.map (stC (0, 0))) ∧ u = [] ∧ b = some (r, st)) ∨
    (PE.view vr = some v ∧ freezeUps x vr = some u ∧ b = none) := by
  unfold argS at h
  split at h
  · rename_i st cs hv
    split at h
    · cases h
      exact .inl ⟨st, cs, _, hv, rfl, rfl, rfl, rfl⟩
    · cases h
  · rename_i r st hv
    split at h
    · rename_i st' cs hv2
      split at h
      · rename_i hst
        subst hst
        cases h
        exact .inr (.inl ⟨r, st', cs, hv, hv2, rfl, rfl, rfl⟩)
      · cases h
    · cases h
  · split at h
    · rename_i v' u' h1 h2
      cases h
      exact .inr (.inr ⟨h1, h2, rfl⟩)
    · cases h
theorem Inv.args {e0 : Env} :
    ∀ (l : List (TypeId × Operand)) (u1 : Ups) (Fz : Nat → Prop) (ob : Nat → List Nat) (vs : List PV) (us : Ups) (bs : List (Nat × Stamp)),
    Inv B Fz (apply u1 e0) (tmOf B a) w ob S → Frz e0 u1 → argsS (l.map fun q => (q.2, hint P q.1 q.2 (res e0 q.2))) = some (vs, us, bs) → ((u1 ++ us).map (·.1) ++ bs.map (·.1)).Nodup →
    ∃ Fz' ob', Inv B Fz' (apply (u1 ++ us) e0) (tmOf B a) w ob' S ∧ (∀ b, Fz b → Fz' b) ∧ ArgsRel w Fz' (tmOf B a) e0 (l.map fun q => a.eval q.2) vs bs
  | [], u1, Fz, ob, vs, us, bs, I, hF, h, hnd => by
    simp only [List.map_nil, argsS, Option.some.injEq, Prod.mk.injEq] at h
    obtain ⟨rfl, rfl, rfl⟩ := h
    rw [List.append_nil]
    exact ⟨Fz, ob, I, fun _ h => h, .nil⟩
  | (t, x) :: l, u1, Fz, ob, vs, us, bs, I, hF, h, hnd => by
    simp only [List.map_cons, argsS] at h
    split at h
    · rename_i v u b vs' us' bs' h1 h2
      cases h
      rcases argS_cases h1 with ⟨st, cs, s, hv, rfl, rfl, rfl, rfl⟩ | ⟨r, st, cs, hv, hv2, rfl, rfl, rfl⟩ | ⟨hv, hu, rfl⟩
      · have hne := hint_ne P t (.tmp s) (res e0 (.tmp s)) (by rw [hv]; rfl)
        rw [hne] at hv
        obtain ⟨Fz', ob', I', hFF, hA⟩ := Inv.args l u1 Fz ob vs' us' bs' I hF h2 (by
          simp only [Option.toList_some, List.nil_append, List.singleton_append, List.map_cons] at hnd
          rw [List.nodup_append] at hnd ⊢
          refine ⟨hnd.1, (List.nodup_cons.1 hnd.2.1).2, fun q hq q' hq' => hnd.2.2 q hq q' (List.mem_cons_of_mem _ hq')⟩)
        rw [List.nil_append]
        obtain ⟨hvs, he⟩ := tmp_val hv (by simp)
        refine ⟨Fz', ob', I', hFF, ?_⟩
        rw [List.map_cons, ← tmOf_ne B a hvs]
        exact .box (r := s) he hA
      · have hne := hint_ne P t x (res e0 x) (by rw [hv]; rfl)
        rw [hne] at hv hv2
        have h1' : (res e0 x).1 = opv e0 x := rfl
        obtain ⟨s, rfl⟩ := opv_own_tmp (e := e0) (x := x) (by rw [← h1', hv]; rfl) (by rw [← h1', hv]; simp)
        obtain ⟨hvs, he⟩ := tmp_val hv (by simp)
        have hr2 : (res e0 (.tmp s)).2 = e0 r := by simp [res, opv, hvs, he, rootOf]
        rw [hr2] at hv2
        have hs1 : apply u1 e0 s = e0 s := apply_other u1 e0 s fun q hq hqs => by
          obtain ⟨pl, st', sz, xs, hrow⟩ := hF q hq
          rw [hqs, he] at hrow
          rcases rowIf_root hrow with ⟨_, _, _, h⟩ | ⟨_, _, h⟩ <;> cases h
        have hr1 : apply u1 e0 r = e0 r := apply_other u1 e0 r fun q hq hqr => by
          rw [List.nodup_append] at hnd
          exact hnd.2.2 q.1 (List.mem_map.2 ⟨q, List.mem_append.2 (.inl hq), rfl⟩) r (by simp) hqr
        have href := I.ref s (by rw [hs1, he]; rfl)
        rw [hs1, he] at href
        obtain ⟨g, hg1, hg2⟩ := href cs (by rw [hr1, hv2])
        obtain ⟨Fz', ob', I', hFF, hA⟩ := Inv.args l u1 Fz ob vs' us' bs' I hF h2 (by
          simp only [Option.toList_some, List.nil_append, List.singleton_append, List.map_cons] at hnd
          rw [List.nodup_append] at hnd ⊢
          refine ⟨hnd.1, (List.nodup_cons.1 hnd.2.1).2, fun q hq q' hq' => hnd.2.2 q hq q' (List.mem_cons_of_mem _ hq')⟩)
        rw [List.nil_append]
        have hev : a.eval (.tmp s) = tmOf B a r := by rw [hg1, ← tmOf_ne B a hvs]; exact hg2
        refine ⟨Fz', ob', I', hFF, ?_⟩
        rw [List.map_cons, hev]
        exact .box (r := r) hv2 hA
      · have hd : ∀ q ∈ u1, ∀ q' ∈ u, q.1 ≠ q'.1 := by
          intro q hq q' hq' hqq
          rw [List.map_append, List.nodup_append, List.nodup_append] at hnd
          exact hnd.1.2.2 q.1 (List.mem_map.2 ⟨q, hq, rfl⟩) q'.1 (List.mem_map.2 ⟨q', List.mem_append.2 (.inl hq'), rfl⟩) hqq
        have hres := frozen_apart (P := P) hF rfl hv hu hd
        obtain ⟨Fz1, ob1, I1, hF1, hpl, _, h4⟩ := I.frozen (t := t) (by rw [hres]; exact hv) (by rw [hres]; exact hu)
        rw [← apply_append] at I1
        have hFr1 : Frz e0 (u1 ++ u) := by
          intro q hq
          rcases List.mem_append.1 hq with hq | hq
          · exact hF q hq
          · rcases h4 with rfl | ⟨r, c, rfl, _, pl, st, sz, xs, hrow, _⟩
            · cases hq
            · simp only [List.mem_singleton] at hq
              subst hq
              have hr : apply u1 e0 r = e0 r := apply_other u1 e0 r fun q' hq' => hd q' hq' _ (List.mem_singleton.2 rfl)
              rw [hr] at hrow
              exact ⟨pl, st, sz, xs, hrow⟩
        obtain ⟨Fz2, ob2, I2, hF2, hA⟩ := Inv.args l (u1 ++ u) Fz1 ob1 vs' us' bs' I1 hFr1 h2 (by rw [List.append_assoc]; simpa using hnd)
        rw [List.append_assoc] at I2
        exact ⟨Fz2, ob2, I2, fun b hb => hF2 b (hF1 b hb), .plain (hpl.mono hF2 fun _ _ => rfl) hA⟩
    · cases h
theorem ArgsRel.reps {e1 : Env} (I : Inv B Fz e1 tm w ob S) {vs : List Value} {ps : List PV} {bs : List (Nat × Stamp)} (h : ArgsRel w Fz tm e vs ps bs) (hb : ∀ q ∈ bs, e1 q.1 = e q.1) :
    Reps w Fz vs ps (bs.flatMap fun q => ob q.1) := by
  induction h with
  | nil => exact .nil
  | plain h _ ih => simpa using Reps.cons h.rep (ih hb)
  | @box r st cs vs ps bs he _ ih =>
    have h1 : e1 r = .box st cs := (hb (r, st) (by simp)).trans he
    have hR := I.slot r (by rw [h1]; rfl)
    rw [h1] at hR
    exact .cons (hR.st1 (0, 0)) (ih fun q hq => hb q (List.mem_cons_of_mem _ hq))
/-- The variables among the arguments. -/
def boxVals : List Value → List PV → List Value
  | v :: vs, .box .. :: ps => v :: boxVals vs ps
  | _ :: vs, _ :: ps => boxVals vs ps
  | _, _ => []
theorem boxVals_plain {v : Value} {q : PV} {vs : List Value} {ps : List PV} (h : okV q = true) : boxVals (v :: vs) (q :: ps) = boxVals vs ps := by
  cases q <;> first | rfl | simp [okV, okC] at h
theorem ArgsRel.boxVals {vs : List Value} {ps : List PV} {bs : List (Nat × Stamp)} (h : ArgsRel w Fz tm e vs ps bs) (vs' : List Value) (ps' : List PV) :
    PE.boxVals (vs ++ vs') (ps ++ ps') = bs.map (fun q => tm q.1) ++ PE.boxVals vs' ps' := by
  induction h with
  | nil => rfl
  | plain h _ ih => rw [List.cons_append, List.cons_append, boxVals_plain h.okV]; exact ih
  | box he _ ih => simpa [PE.boxVals] using ih
theorem boxVals_ok : ∀ {vs : List Value} {ps : List PV}, (∀ q ∈ ps, okV q = true) → boxVals vs ps = []
  | [], ps, _ => by cases ps <;> rfl
  | v :: vs, [], _ => rfl
  | v :: vs, q :: ps, h => by
    rw [boxVals_plain (h q (by simp))]
    exact boxVals_ok fun q' hq' => h q' (List.mem_cons_of_mem _ hq')
theorem Inv.flat_nodup (I : Inv B Fz e tm w ob S) : ∀ (l : List (Nat × Stamp)), (l.map (·.1)).Nodup → (l.flatMap fun q => ob q.1).Nodup
  | [], _ => List.nodup_nil
  | q :: l, h => by
    rw [List.map_cons, List.nodup_cons] at h
    rw [List.flatMap_cons, List.nodup_append]
    refine ⟨I.nodup q.1, I.flat_nodup l h.2, fun x hx y hy hxy => ?_⟩
    subst hxy
    obtain ⟨q', hq', hx'⟩ := List.mem_flatMap.1 hy
    refine I.disj q.1 q'.1 (fun hqq => h.1 (List.mem_map.2 ⟨q', hq', hqq.symm⟩)) x hx hx'
/-- What a call leaves behind. -/
def Post (w : World) (Fz : Nat → Prop) (bs : List Nat) (boxes : List Value) (r : PV) (outs : List (List PV)) (u : Value) (w' : World) : Prop :=
  w'.os = w.os ∧ w'.tape = w.tape ∧ w'.output = w.output ∧ w.heap.size ≤ w'.heap.size ∧ (∀ b, b < w.heap.size → b ∉ bs → w'.heap[b]? = w.heap[b]?) ∧ isRef r = false ∧
  ∃ (Fz' : Nat → Prop) (bsr bss : List Nat), (∀ b, Fz b → Fz' b) ∧ (∀ b, Fz' b → Fz b ∨ b ∈ bs ∨ w.heap.size ≤ b ∧ b < w'.heap.size) ∧
    (∀ b ∈ bsr ++ bss, (b ∈ bs ∨ w.heap.size ≤ b ∧ b < w'.heap.size) ∧ ¬ Fz' b) ∧ (bsr ++ bss).Nodup ∧ Rep w' Fz' u r bsr ∧ Reps w' Fz' boxes (outs.map (PV.box (0, 0))) bss
/-- A function's contract. -/
def MeetsN (P : Program) (f : FuncId) (F : List PV → Option (PV × List (List PV))) : Prop :=
  ∀ (w : World) (Fz : Nat → Prop) (args : Array Value) (avs : List PV) (bs : List Nat) (r : PV) (outs : List (List PV)),
    Glob w Fz → (∀ b, Fz b → b < w.heap.size) → bs.Nodup → (∀ b ∈ bs, ¬ Fz b ∧ b < w.heap.size) → Reps w Fz args.toList avs bs → F avs = some (r, outs) →
    ∀ (o : Oper) (a : Act) (next : Act → World → Prop) (Q : Exit → Act → World → Prop),
      (∀ u w', Post w Fz bs (boxVals args.toList avs) r outs u w' → next (a.put o.dst u) w') → o.upon P a next Q ((callFunc f args).run P w)
/-- A part of a row: where it begins, how far it goes. -/
def PartOf (A : Option Addr) (cap sz off len : Nat) (A' : Option Addr) (cap' : Nat) : Prop :=
  len ≤ cap' ∧ (off = 0 → A' = A ∧ cap' = cap) ∧ (∀ ad, A = some ad → 0 < len → A' = some (ad.add (off * sz)))
/-- What a call leaves behind that was given a row: the row's blocks, its new cells. -/
def RowPost (w : World) (bs : List Nat) (A : Option Addr) (n cap sz : Nat) (new : List (List PV)) (w' : World) : Prop :=
  w'.os = w.os ∧ w'.tape = w.tape ∧ w'.output = w.output ∧ w.heap.size ≤ w'.heap.size ∧ (∀ b, b < w.heap.size → b ∉ bs → w'.heap[b]? = w.heap[b]?) ∧
  ∃ Fz', Rep w' Fz' (.slice A n cap) (.own (0, 0) sz new) bs
/-- The contract of a function that writes into the row that is its first argument. -/
def MeetsW (P : Program) (f : FuncId) (F : List PV → Option (PV × List (List PV))) : Prop :=
  ∀ (w : World) (bs : List Nat) (A : Option Addr) (n cap sz : Nat) (xs : List (List PV)) (off len : Nat) (A' : Option Addr) (cap' : Nat) (args : List Value) (avs : List PV) (r : PV) (new : List (List PV)),
    Rep w (fun b => b < w.heap.size ∧ b ∉ bs) (.slice A n cap) (.own (0, 0) sz xs) bs → bs.Nodup → (∀ b ∈ bs, b < w.heap.size) → flat1 xs = true → off + len ≤ xs.length → 0 < len → PartOf A cap sz off len A' cap' →
    Reps w (fun b => b < w.heap.size ∧ b ∉ bs) args avs [] → Glob w (fun b => b < w.heap.size ∧ b ∉ bs) → F (.own (0, 0) sz ((xs.drop off).take len) :: avs) = some (r, new) →
    new.length = len → new.all (fun c => c.length == sz && c.all scalar1) = true →
    ∀ (op : Oper) (a : Act) (next : Act → World → Prop) (Q : Exit → Act → World → Prop),
      (∀ u w', RowPost w bs A n cap sz (xs.take off ++ new ++ xs.drop (off + len)) w' → (scalar r = true → Rep w' (fun _ => False) u r []) → next (a.put op.dst u) w') →
      op.upon P a next Q ((callFunc f (.slice A' len cap' :: args).toArray).run P w)
/-- The contract of a function that returns a first part of its one argument. -/
def MeetsP (P : Program) (f : FuncId) (F : List PV → Option (PV × List (List PV))) : Prop :=
  ∀ (w : World) (bs : List Nat) (A : Option Addr) (n cap sz : Nat) (xs : List (List PV)) (off len : Nat) (A' : Option Addr) (cap' : Nat) (m : Int),
    Rep w (fun b => b < w.heap.size ∧ b ∉ bs) (.slice A n cap) (.own (0, 0) sz xs) bs → bs.Nodup → (∀ b ∈ bs, b < w.heap.size) → flat1 xs = true → off + len ≤ xs.length → PartOf A cap sz off len A' cap' →
    Glob w (fun b => b < w.heap.size ∧ b ∉ bs) → F [.own (0, 0) sz ((xs.drop off).take len)] = some (.int .i64 m, []) → 0 ≤ m → m ≤ len →
    ∀ (op : Oper) (a : Act) (next : Act → World → Prop) (Q : Exit → Act → World → Prop),
      (∀ A2 cap2 w', RowPost w bs A n cap sz xs w' → PartOf A cap sz off m.toNat A2 cap2 → next (a.put op.dst (.slice A2 m.toNat cap2)) w') →
      op.upon P a next Q ((callFunc f #[.slice A' len cap']).run P w)
/-- The contract of slices.Backward: the slice is put into a new block, which the function value captures. -/
def MeetsB (P : Program) (g g' : FuncId) : Prop := ∀ (A : Option Addr) (len cap : Nat) (w : World), ∃ ty, ∀ (o : Oper) (a : Act) (next : Act → World → Prop) (Q : Exit → Act → World → Prop),
  next (a.put o.dst (.func (.func g') #[] #[.pointer (some ⟨w.heap.size, 0, none⟩)])) (w.alloc (.cells #[.slice A len cap] ty)) → o.upon P a next Q ((callFunc g #[.slice A len cap]).run P w)
/-- The contract of an iterator over a slice of integers, last element first: J j: there are j rounds to come. -/
def IterB (P : Program) (g : FuncId) : Prop := (∀ (args : Array Value) (w : World), (callFunc g args).run P w = .ok (.enter g args) w) ∧ ∀ (m l bx len cap : Nat) (A : Option Addr) (J : Nat → World → Prop) (W : World), len ≤ maxLen →
  (∀ j W, J j W → W.cell? ⟨bx, 0, none⟩ = some (.slice A len cap)) →
  (∀ j W, j < len → J (j + 1) W → ∃ b o z, A = some ⟨b, o, none⟩ ∧ W.cell? ⟨b, o + j, none⟩ = some (.int .i64 z) ∧
    YieldAt Fence.wide m P l #[.int .i64 j, .int .i64 z] W fun e W' => e = .returned (.bool true) ∧ J j W') →
  J len W → CallsIn Fence.wide (m + 1) P g #[.func (.yield l) #[] #[], .pointer (some ⟨bx, 0, none⟩)] W fun e W' => (∃ v, e = .returned v) ∧ J 0 W'
/-- Which contract a function has. -/
def Meets (P : Program) (f : FuncId) (F : List PV → Option (PV × List (List PV))) : Prop :=
  (wrB f = false → prB f = false → MeetsN P f F) ∧ (wrB f = true → MeetsW P f F) ∧ (wrB f = false → prB f = true → MeetsP P f F) ∧ (∀ g', bkG f = some g' → MeetsB P f g' ∧ IterB P g')
theorem scalar_rep {w' : World} {F' : Nat → Prop} {u : Value} {r : PV} {bs : List Nat} (h : Rep w' F' u r bs) (hs : scalar r = true) (F : Nat → Prop) : Rep w' F u r [] := by
  have one : ∀ {u : Value} {r : PV} {bs : List Nat}, Rep w' F' u r bs → scalar1 r = true → Rep w' F u r [] := by
    intro u r bs h hs
    cases h with
    | plain h =>
      cases h with
      | int k n => exact .plain (.int k n)
      | bool b => exact .plain (.bool b)
      | str s => exact .plain (.str s)
      | nilp => exact .plain .nilp
      | nilf => exact .plain .nilf
      | nili => exact .plain .nili
      | ifi t k n => exact .plain (.ifi t k n)
      | erri t v => exact .plain (.erri t v)
      | _ => simp [scalar1] at hs
    | _ => simp [scalar1] at hs
  cases r with
  | tup vs =>
    cases h with
    | plain h => exact absurd h.okC (by simp [okC])
    | tup arr ps bs h =>
      refine .tup arr vs [] ?_
      simp only [scalar] at hs
      have many : ∀ (vs : List PV) (l : List Value) (bs : List Nat), Reps w' F' l vs bs → vs.all scalar1 = true → Reps w' F l vs [] := by
        intro vs
        induction vs with
        | nil => intro l bs h _; cases h; exact .nil
        | cons q vs ih =>
          intro l bs h hs
          cases h with
          | cons h1 h2 =>
            rw [List.all_cons, Bool.and_eq_true] at hs
            exact .cons (one h1 hs.1) (ih _ _ h2 hs.2)
      exact many vs _ _ h hs
  | _ => exact one h hs
theorem Rep.plainRow {F F' : Nat → Prop} {u : Value} {st st' : Stamp} {sz : Nat} {xs : List (List PV)} {bs : List Nat} (h : Rep w F u (.own st sz xs) bs) (hf : flat1 xs = true) : Rep w F' u (.own st' sz xs) bs := by
  cases h with
  | plain h => exact absurd h.okC (by simp [okC])
  | ownNil => exact .ownNil st' sz
  | own g n cap cur e _ _ _ c hg hn hc hm hs hu hcell hr =>
    refine .own g n cap cur e st' sz xs c hg hn hc hm hs hu hcell fun i j p hp => ?_
    have hsc : scalar1 p = true := by
      unfold cell2 at hp
      obtain ⟨x, h1, h2⟩ := Option.bind_eq_some_iff.1 hp
      exact List.all_eq_true.1 (List.all_eq_true.1 hf x (List.mem_of_getElem? h1)) p (List.mem_of_getElem? h2)
    have h1 := hr i j p hp
    generalize c i j = u at h1 ⊢
    cases h1 with
    | int k n => exact .int k n
    | bool b => exact .bool b
    | str s => exact .str s
    | nilp => exact .nilp
    | nilf => exact .nilf
    | nili => exact .nili
    | ifi t k n => exact .ifi t k n
    | erri t v => exact .erri t v
    | _ => simp [scalar1] at hsc
def updL {α : Type} (L : List (Nat × α)) (f : Nat → α) : Nat → α := L.foldl (fun f q => upd f q.1 q.2) f
theorem updL_cons {α : Type} (q : Nat × α) (L : List (Nat × α)) (f : Nat → α) : updL (q :: L) f = updL L (upd f q.1 q.2) := rfl
theorem updL_other {α : Type} : ∀ (L : List (Nat × α)) (f : Nat → α) (s : Nat), s ∉ L.map (·.1) → updL L f s = f s
  | [], f, s, _ => rfl
  | q :: L, f, s, h => by
    rw [List.map_cons, List.mem_cons, not_or] at h
    rw [updL_cons, updL_other L _ s h.2, upd_other h.1]
theorem updL_mem {α : Type} : ∀ (L : List (Nat × α)) (f : Nat → α) (s : Nat) (v : α), (L.map (·.1)).Nodup → (s, v) ∈ L → updL L f s = v
  | [], f, s, v, _, h => by cases h
  | q :: L, f, s, v, hnd, h => by
    rw [List.map_cons, List.nodup_cons] at hnd
    rw [updL_cons]
    rcases List.mem_cons.1 h with rfl | h
    · rw [updL_other L _ s hnd.1, upd_same]
    · exact updL_mem L _ s v hnd.2 h
theorem apply_updL (u : Ups) (e : Env) : apply u e = updL u e := by
  induction u generalizing e with
  | nil => rfl
  | cons q u ih => rw [apply_cons, updL_cons, ih]
/-- What comes back, slot for slot. -/
structure Back where
  slot : Nat
  pv : PV
  val : Value
  bs : List Nat
theorem Inv.stepL {Fz' : Nat → Prop} {w' : World} (I : Inv B Fz e tm w ob S) (L : List Back) (hnd : (L.map (·.slot)).Nodup) (hSS : ∀ st, S st → S' st) (bs : List Nat) (hbs : ∀ b ∈ bs, ∃ q ∈ L, b ∈ ob q.slot)
    (hos : w'.os = w.os) (htape : w'.tape = w.tape) (hout : w'.output = w.output) (hsize : w.heap.size ≤ w'.heap.size) (hheap : ∀ b, b < w.heap.size → b ∉ bs → w'.heap[b]? = w.heap[b]?)
    (hFF : ∀ b, Fz b → Fz' b) (hF' : ∀ b, Fz' b → Fz b ∨ b ∈ bs ∨ w.heap.size ≤ b ∧ b < w'.heap.size)
    (hL : ∀ q ∈ L, (∀ b ∈ q.bs, (b ∈ bs ∨ w.heap.size ≤ b ∧ b < w'.heap.size) ∧ ¬ Fz' b) ∧ isRef q.pv = false ∧ Rep w' Fz' q.val q.pv q.bs ∧ (∀ st ∈ stampsOf q.pv, S' st) ∧
      RootStep S w w' (e q.slot) q.pv (tm q.slot) q.val)
    (hflat : (L.flatMap (·.bs)).Nodup) :
    ∃ ob', Inv B Fz' (updL (L.map fun q => (q.slot, q.pv)) e) (updL (L.map fun q => (q.slot, q.val)) tm) w' ob' S' := by
  have k1 : (L.map fun q => (q.slot, q.pv)).map (·.1) = L.map (·.slot) := by simp
  have k2 : (L.map fun q => (q.slot, q.val)).map (·.1) = L.map (·.slot) := by simp
  have k3 : (L.map fun q => (q.slot, q.bs)).map (·.1) = L.map (·.slot) := by simp
  have g1 : ∀ q ∈ L, updL (L.map fun q => (q.slot, q.pv)) e q.slot = q.pv := fun q hq => updL_mem _ _ _ _ (by rw [k1]; exact hnd) (List.mem_map.2 ⟨q, hq, rfl⟩)
  have g2 : ∀ q ∈ L, updL (L.map fun q => (q.slot, q.val)) tm q.slot = q.val := fun q hq => updL_mem _ _ _ _ (by rw [k2]; exact hnd) (List.mem_map.2 ⟨q, hq, rfl⟩)
  have g3 : ∀ q ∈ L, updL (L.map fun q => (q.slot, q.bs)) ob q.slot = q.bs := fun q hq => updL_mem _ _ _ _ (by rw [k3]; exact hnd) (List.mem_map.2 ⟨q, hq, rfl⟩)
  have pairwise : ∀ q ∈ L, ∀ q' ∈ L, q.slot ≠ q'.slot → ∀ b ∈ q.bs, b ∉ q'.bs := by
    clear hL hbs g1 g2 g3 k1 k2 k3 hF' hheap
    induction L with
    | nil => intro q hq; cases hq
    | cons x L ih =>
      rw [List.flatMap_cons, List.nodup_append] at hflat
      rw [List.map_cons, List.nodup_cons] at hnd
      intro q hq q' hq' hne b hb hb'
      rcases List.mem_cons.1 hq with h1 | h1 <;> rcases List.mem_cons.1 hq' with h2 | h2
      · exact hne (by rw [h1, h2])
      · rw [h1] at hb
        exact hflat.2.2 b hb b (List.mem_flatMap.2 ⟨q', h2, hb'⟩) rfl
      · rw [h2] at hb'
        exact hflat.2.2 b hb' b (List.mem_flatMap.2 ⟨q, h1, hb⟩) rfl
      · exact ih hnd.2 hflat.2.1 q h1 q' h2 hne b hb hb'
  have single : ∀ q ∈ L, q.bs.Nodup := by
    intro q hq
    clear hL hbs g1 g2 g3 k1 k2 k3 hF' hheap pairwise hnd
    induction L with
    | nil => cases hq
    | cons x L ih =>
      rw [List.flatMap_cons, List.nodup_append] at hflat
      rcases List.mem_cons.1 hq with rfl | hq
      · exact hflat.1
      · exact ih hflat.2.1 hq
  have hmem : ∀ s, s ∈ L.map (·.slot) → ∃ q ∈ L, q.slot = s := fun s hs => by simpa using hs
  refine ⟨updL (L.map fun q => (q.slot, q.bs)) ob, I.step (fun s => s ∈ L.map (·.slot)) hSS hos htape hout hsize (fun b hb hn => hheap b hb fun hbb => ?_) (fun s hs => ⟨?_, ?_, ?_⟩) hFF (fun b hb => ?_) ?_ ?_ ?_ ?_ ?_ ?_⟩
  · obtain ⟨q, hq, hb2⟩ := hbs b hbb
    exact hn q.slot (List.mem_map.2 ⟨q, hq, rfl⟩) hb2
  · exact updL_other _ _ _ (by rw [k1]; exact hs)
  · exact updL_other _ _ _ (by rw [k2]; exact hs)
  · exact updL_other _ _ _ (by rw [k3]; exact hs)
  · rcases hF' b hb with h | h | h
    · exact .inl h
    · obtain ⟨q, hq, hb2⟩ := hbs b h
      exact .inr (.inl ⟨q.slot, List.mem_map.2 ⟨q, hq, rfl⟩, hb2⟩)
    · exact .inr (.inr h)
  · intro s hs b hb
    obtain ⟨q, hq, rfl⟩ := hmem s hs
    rw [g3 q hq] at hb
    obtain ⟨h1, h2⟩ := (hL q hq).1 b hb
    refine ⟨?_, h2⟩
    rcases h1 with h1 | h1
    · obtain ⟨q', hq', hb2⟩ := hbs b h1
      exact .inl ⟨q'.slot, List.mem_map.2 ⟨q', hq', rfl⟩, hb2⟩
    · exact .inr h1
  · intro s hs
    obtain ⟨q, hq, rfl⟩ := hmem s hs
    rw [g3 q hq]
    exact single q hq
  · intro s s' hs hs' hne b hb hb'
    obtain ⟨q, hq, rfl⟩ := hmem s hs
    obtain ⟨q', hq', rfl⟩ := hmem s' hs'
    rw [g3 q hq] at hb
    rw [g3 q' hq'] at hb'
    exact pairwise q hq q' hq' hne b hb hb'
  · intro s hs st hst
    obtain ⟨q, hq, rfl⟩ := hmem s hs
    rw [g1 q hq] at hst
    exact (hL q hq).2.2.2.1 st hst
  · intro s hs
    obtain ⟨q, hq, rfl⟩ := hmem s hs
    rw [g1 q hq, g2 q hq]
    exact (hL q hq).2.2.2.2
  · intro _ s hs
    obtain ⟨q, hq, rfl⟩ := hmem s hs
    unfold SlotRep
    rw [g1 q hq, g2 q hq, g3 q hq, if_neg (by simp [(hL q hq).2.1])]
    exact (hL q hq).2.2.1
end
end Go.PE
