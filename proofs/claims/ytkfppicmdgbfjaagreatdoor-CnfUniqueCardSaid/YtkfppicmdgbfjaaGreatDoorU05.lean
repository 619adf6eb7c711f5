/-
  A part of the proof that the law's function returns true and leaves its arguments as they were, for every input (no condition): own lemmas of the proof, in the order of their use.
-/
import Derived.Test.YtkfppicmdgbfjaaGreatDoorU04
import Derived.Laws.MakeOwn
set_option linter.all false
namespace Go.PE
open Go.RowKit
section
variable {P : Program} {B : Base} {Fz : Nat → Prop} {e : Env} {a : Act} {tm : Tm} {w : World} {ob : Nat → List Nat} {S S' : Stamp → Prop} {p : Stamp}
theorem out_fieldAddr (I : Inv B Fz e (tmOf B a) w ob S) {o : Oper} {d : Nat} {t : TypeId} {x : Operand} {f : Nat} (ho : o.op = .fieldAddr t x f) {off n : Nat} {ag : Bool} {ft : TypeId}
    (hf : fieldT P t f = some (off, n, ag, ft)) (hn : n ≠ 0) {ups : Ups} (h : addrS d off x (res e x) = some ups) : Out P B e a w S p o d ups := by
  obtain ⟨ad, h1, Fz', ob', I'⟩ := I.addr (p := p) h
  refine out_of ?_ I'
  unfold fieldT at hf
  split at hf
  · rename_i fs hu
    split at hf
    · rename_i fl hfl
      split at hf
      · rename_i n' a' hs ha
        simp only [Option.some.injEq, Prod.mk.injEq] at hf
        obtain ⟨rfl, rfl, rfl, rfl⟩ := hf
        simp only [execOp, ho, Sem.run_bind, h1, Instr.fieldAt, run_underlying hu, Result.andThen_ok, hfl, Instr.sureAddr, Sem.run_pure, fieldPlace, run_sizeOf hs, hn, if_false]
      · cases hf
    · cases hf
  · cases hf
theorem out_nilCheck (I : Inv B Fz e (tmOf B a) w ob S) {o : Oper} {d : Nat} {x : Operand} (ho : o.op = .nilCheck x) {ups : Ups} (h : addrS d 0 x (res e x) = some ups) : Out P B e a w S p o d ups := by
  obtain ⟨ad, h1, Fz', ob', I'⟩ := I.addr (p := p) h
  refine out_of ?_ I'
  rw [show ad.add 0 = ad from rfl]
  simp only [execOp, ho, h1, Sem.run_pure]
theorem rowT_spec {t : TypeId} {n b : Nat} (h : rowT P t = some (n, b)) : ∃ el, P.underlying t = some (.slice el) ∧ elemT P t = some el ∧ ∃ i, P.info? el = some i ∧ i.size = n ∧ i.bytes = b := by
  unfold rowT at h
  split at h
  · rename_i el hel
    split at h
    · rename_i n' b' hn hb
      simp only [Option.some.injEq, Prod.mk.injEq] at h
      obtain ⟨rfl, rfl⟩ := h
      have hel' := hel
      unfold elemT at hel
      split at hel
      · rename_i e' hu
        cases hel
        unfold sizeT at hn
        unfold bytesT at hb
        obtain ⟨i, hi, rfl⟩ := Option.map_eq_some_iff.1 hn
        rw [hi] at hb
        cases hb
        exact ⟨el, hu, hel', i, hi, rfl, rfl⟩
      · cases hel
    · cases h
  · cases h
theorem out_indexAddr_arr (I : Inv B Fz e (tmOf B a) w ob S) {o : Oper} {d : Nat} {t : TypeId} {x i : Operand} (ho : o.op = .indexAddr t x i) {k : IntKind} {n : Int} (hi : (res e i).1 = .int k n)
    {len s : Nat} {ag : Bool} (ha : arrT P t = some (len, s, ag)) (hb : 0 ≤ n ∧ n < len) {ups : Ups} (h : addrS d (n.toNat * s) x (res e x) = some ups) : Out P B e a w S p o d ups := by
  obtain ⟨ad, h1, Fz', ob', I'⟩ := I.addr (p := p) h
  refine out_of ?_ I'
  unfold arrT at ha
  split at ha
  · rename_i len' el hu
    split at ha
    · rename_i n' a' hs _
      simp only [Option.some.injEq, Prod.mk.injEq] at ha
      obtain ⟨rfl, rfl, rfl⟩ := ha
      simp only [execOp, ho, Sem.run_bind, h1, I.int hi, Instr.indexAt, asIntOf, run_underlying hu, Result.andThen_ok, Instr.sureAddr, Sem.run_pure, run_sizeOf hs, hb, and_self, if_true]
    · cases ha
  · cases ha
theorem run_indexAt_rows {t el : TypeId} {s : Nat} (hu : P.underlying t = some (.slice el)) (hs : sizeT P el = some s) {ad : Addr} {len cap : Nat} {k : IntKind} {n : Int} (h0 : 0 ≤ n) (h1 : n < len) :
    (Instr.indexAt t (.slice (some ad) len cap) (.int k n)).run P w = .ok (.pointer (some (ad.add (n.toNat * s)))) w := by
  simp only [Instr.indexAt, asIntOf, Sem.run_bind, Sem.run_pure, run_underlying hu, Result.andThen_ok, run_sizeOf hs, h0, h1, and_self, if_true]
theorem out_indexAddr_row (I : Inv B Fz e (tmOf B a) w ob S) {o : Oper} {d : Nat} {t : TypeId} {x i : Operand} (ho : o.op = .indexAddr t x i) {k : IntKind} {n : Int} (hi : (res e i).1 = .int k n)
    {s b : Nat} (ht : rowT P t = some (s, b)) {ups : Ups} (h : indexS d s x (res e x) n = some ups) : Out P B e a w S p o d ups := by
  obtain ⟨el, hu, _, inf, hinf, rfl, rfl⟩ := rowT_spec ht
  have hs : sizeT P el = some inf.size := by simp [sizeT, hinf]
  have hiv := I.int hi
  unfold indexS at h
  split at h
  · rename_i st sz' xs hx
    split at h
    · rename_i s'
      split at h
      · rename_i hc
        obtain ⟨hne, rfl, h0, h1⟩ := hc
        cases h
        obtain ⟨hvs, he⟩ := tmp_val hx (by simp)
        have hR := I.slot s' (by rw [he]; rfl)
        rw [he] at hR
        have hev : a.eval (.tmp s') = tmOf B a s' := (tmOf_ne B a hvs).symm
        obtain ⟨ad, cap, hv⟩ : ∃ ad cap, tmOf B a s' = .slice (some ad) xs.length cap := by
          generalize tmOf B a s' = u at *
          generalize ob s' = bs at *
          cases hR with
          | plain h => exact absurd h.okC (by simp [okC])
          | ownNil => simp at h1; omega
          | own g n' cap cur ty st sz xs c hg hn => subst hn; exact ⟨_, cap, rfl⟩
        refine out_of (u := .pointer (some (ad.add (n.toNat * inf.size)))) ?_ (I.putRef d _ (.eloc s' none st n.toNat 0) rfl ?_ ?_)
        · simp only [execOp, ho, Sem.run_bind, hev, hv, hiv, run_indexAt_rows hu hs h0 h1, Result.andThen_ok, Sem.run_pure]
        · intro sz2 xs2 hr
          have hr := rowIf_stamp hr
          rw [he] at hr
          simp only [rowAt?, Option.some.injEq, Prod.mk.injEq] at hr
          obtain ⟨_, rfl, rfl⟩ := hr
          exact ⟨ad, _, cap, hv, by omega, by simp⟩
        · intro st' hs'
          simp only [stampsOf, List.mem_singleton] at hs'
          subst hs'
          exact I.stamps s' st' (by rw [he]; simp [stampsOf, stamps1])
      · cases h
    · cases h
  · rename_i r pl st off len hx
    obtain ⟨s', rfl, he, hR, hvs⟩ := I.slotRef hx rfl (by simp)
    have h2 : (res e (.tmp s')).2 = e r := by simp [res, opv, hvs, he, rootOf]
    rw [h2] at h
    split at h
    · rename_i sz' xs hr
      split at h
      · rename_i hc
        obtain ⟨hne, rfl, h0, h1⟩ := hc
        cases h
        obtain ⟨k4, A, n', cap, A', cap', k5, k6, k7, _, k8⟩ := hR _ xs hr
        obtain ⟨u, bs, g1, g2, g3⟩ := I.row hr
        obtain rfl := g1.unique k5
        obtain ⟨ad, rfl⟩ : ∃ ad, A = some ad := by
          cases g2 with
          | plain h => exact absurd h.okC (by simp [okC])
          | ownNil => simp at k4; omega
          | own => exact ⟨_, rfl⟩
        have hA := k8 ad rfl (by omega)
        subst hA
        refine out_of (u := .pointer (some ((ad.add (off * inf.size)).add (n.toNat * inf.size)))) ?_ (I.putRef d _ (.eloc r pl st (off + n.toNat) 0) rfl ?_ ?_)
        · simp only [execOp, ho, Sem.run_bind, k6, hiv, run_indexAt_rows hu hs h0 h1, Result.andThen_ok, Sem.run_pure]
        · intro sz2 xs2 hr2
          rw [hr] at hr2
          cases hr2
          exact ⟨ad, _, cap, k5, by omega, by rw [add_add, Nat.add_zero, Nat.add_mul]⟩
        · intro st' hs'
          simp only [stampsOf, List.mem_singleton] at hs'
          subst hs'
          exact I.stamps s' st' (by rw [he]; simp [stampsOf])
      · cases h
    · cases h
  · rename_i sz' xs hx
    split at h
    · rename_i hc
      obtain ⟨rfl, hpos, h0⟩ := hc
      split at h
      · rename_i c hxi
        cases h
        have him := I.imm x (by show okC (res e x).1 = true; rw [hx]; rfl)
        rw [show opv e x = _ from hx] at him
        generalize hev : a.eval x = u at *
        have hlt := (List.getElem?_eq_some_iff.1 hxi).1
        cases him with
        | imm A n' cap _ _ cf hn hcp hu' hcell hr =>
          subst hn
          have hc0 : c.length = inf.size := hu' c (List.mem_of_getElem? hxi)
          have hcj : ∀ j q, c[j]? = some q → cell2 xs n.toNat j = some q := fun j q hq => by simp [cell2, hxi, hq]
          obtain ⟨ad, rfl, _, _⟩ := hcell n.toNat 0 _ (hcj 0 _ (List.getElem?_eq_getElem (by omega)))
          refine out_plain I (u := .pointer (some (ad.add (n.toNat * inf.size)))) ?_ (.inl ?_)
          · simp only [execOp, ho, Sem.run_bind, hev, hiv, run_indexAt_rows hu hs h0 (show n < (xs.length : Int) by omega), Result.andThen_ok, Sem.run_pure]
          · refine .iptr (ad.add (n.toNat * inf.size)) c 0 (fun j => cf n.toNat j) (fun j q hq => ?_) (fun j q hq => hr _ _ _ (hcj j q hq))
            obtain ⟨ad', h1, h2, h3⟩ := hcell _ _ _ (hcj j q hq)
            cases h1
            rw [add_block, add_add]
            exact ⟨h2, h3⟩
      · cases h
    · cases h
  · cases h
end
end Go.PE
namespace Go.PE
open Go.RowKit
section
variable {P : Program} {B : Base} {Fz : Nat → Prop} {e : Env} {a : Act} {tm : Tm} {w : World} {ob : Nat → List Nat} {S S' : Stamp → Prop} {p : Stamp}
/-- A bound of a cut, as the machine has it. -/
def BV (v : Option Value) (hi dflt k : Nat) : Prop :=
  match v with
  | none => k = dflt
  | some u => ∃ kd n, u = .int kd n ∧ 0 ≤ n ∧ n ≤ (hi : Int) ∧ k = n.toNat
theorem Inv.bnd (I : Inv B Fz e (tmOf B a) w ob S) {v : Option Operand} {hi dflt k : Nat} (h : bndS hi (v.map fun y => (res e y).1) dflt = some k) : BV (v.map a.eval) hi dflt k := by
  unfold bndS at h
  cases v with
  | none => simpa [BV] using h.symm
  | some y =>
    simp only [Option.map_some] at h ⊢
    split at h
    · rename_i h'; cases h'
    · rename_i kd n hv
      simp only [Option.some.injEq] at hv
      split at h
      · rename_i hc
        cases h
        exact ⟨kd, n, I.int hv, hc.1, hc.2, rfl⟩
      · cases h
    · cases h
theorem run_bounds {isS : Bool} {len cap : Nat} {lo hi : Option Value} {l h : Nat} (hlc : len ≤ cap) (hh : BV hi len len h) (hl : BV lo h 0 l) :
    (Instr.sliceBounds isS len cap lo hi none).run P w = .ok (l, h, cap) w := by
  have hb : ∀ {v : Value} {kd : IntKind} {n : Int} {y : Nat} {code : BoundsCode}, v = .int kd n → 0 ≤ n → n ≤ (y : Int) → (Instr.sliceBound v y code).run P w = .ok n.toNat w := by
    intro v kd n y code hv h0 h1
    subst hv
    exact run_sliceBound w kd n y code h0 h1
  cases hi with
  | none =>
    simp only [BV] at hh
    subst hh
    cases lo with
    | none => simp only [BV] at hl; subst hl; simp [Instr.sliceBounds]
    | some v =>
      obtain ⟨kd, n, hv, h0, h1, rfl⟩ := hl
      simp [Instr.sliceBounds, hb hv h0 h1]
  | some u =>
    obtain ⟨kd, n, hu, h0, h1, rfl⟩ := hh
    have e1 : ∀ code, (Instr.sliceBound u cap code).run P w = .ok n.toNat w := fun code => hb hu h0 (by omega)
    cases lo with
    | none => simp only [BV] at hl; subst hl; simp [Instr.sliceBounds, e1]
    | some v =>
      obtain ⟨kd', n', hv, h0', h1', rfl⟩ := hl
      simp [Instr.sliceBounds, e1, hb hv h0' h1']
theorem run_slice_row {t el : TypeId} {s : Nat} (hu : P.underlying t = some (.slice el)) (hs : sizeT P el = some s) {A : Option Addr} {len cap : Nat} {lo hi : Option Value} {l h : Nat}
    (hlc : len ≤ cap) (hh : BV hi len len h) (hl : BV lo h 0 l) :
    (Instr.sliceAt t (.slice A len cap) lo hi none).run P w = .ok (.slice (if cap = l then A else A.map (·.add (l * s))) (h - l) (cap - l)) w := by
  simp only [Instr.sliceAt, Sem.run_bind, run_underlying hu, Result.andThen_ok, Instr.slice, run_bounds hlc hh hl, run_sizeOf hs, Sem.run_pure]
theorem BV.le {v : Option Value} {hi k : Nat} (h : BV v hi hi k) : k ≤ hi := by
  cases v with
  | none => simp only [BV] at h; omega
  | some u => obtain ⟨_, n, _, h0, h1, rfl⟩ := h; omega
theorem BV.le0 {v : Option Value} {hi k : Nat} (h : BV v hi 0 k) : k ≤ hi := by
  cases v with
  | none => simp only [BV] at h; omega
  | some u => obtain ⟨_, n, _, h0, h1, rfl⟩ := h; omega
theorem Imm.slice_form {u : Value} {sz : Nat} {xs : List (List PV)} (h : Imm w Fz u (.imm sz xs)) : ∃ A cap, u = .slice A xs.length cap ∧ xs.length ≤ cap := by
  cases h with
  | imm A n cap sz xs c hn hc => subst hn; exact ⟨A, cap, rfl, hc⟩
theorem cut_addr {A : Option Addr} {cap l h s : Nat} (hl : l ≤ h) (hc : h ≤ cap) : ∀ ad, A = some ad → 0 < h - l → (if cap = l then A else A.map (·.add (l * s))) = some (ad.add (l * s)) := by
  intro ad hA h0
  subst hA
  rw [if_neg (by omega)]
  rfl
theorem out_slice_str (I : Inv B Fz e (tmOf B a) w ob S) {o : Oper} {d : Nat} {t : TypeId} {x : Operand} {lo hi : Option Operand} (ho : o.op = .slice t x lo hi none)
    (ht : P.underlying t = some .string) {ups : Ups} (h : sliceS d none x (res e x) (lo.map fun y => (res e y).1) (hi.map fun y => (res e y).1) = some ups) : Out P B e a w S p o d ups := by
  unfold sliceS at h
  split at h
  · rename_i s hx
    simp only [Option.isSome_none, Bool.false_eq_true, if_false] at h
    split at h
    · rename_i hh hb1
      split at h
      · rename_i l hb2
        cases h
        obtain ⟨b, hb, rfl⟩ := I.str hx
        have e1 := I.bnd hb1
        have e2 := I.bnd hb2
        have hlen : b.data.toList.length = b.size := by rw [Array.length_toList]; rfl
        rw [hlen] at e1
        refine out_plain I (u := .string (b.extract l hh)) ?_ (.inl ?_)
        · simp only [execOp, ho, Sem.run_bind, hb, Instr.sliceAt, run_underlying ht, Result.andThen_ok, Instr.slice, Option.map_none, Option.isSome_none, Bool.false_eq_true, if_false,
            run_bounds (P := P) (w := w) (isS := false) (Nat.le_refl _) e1 e2, Sem.run_pure]
        · have := Imm.str (w := w) (Fz := Fz) (b.extract l hh)
          have he : (b.extract l hh).data.toList = (b.data.toList.drop l).take (hh - l) := by
            rw [ByteArray.data_extract, Array.toList_extract, List.extract_eq_take_drop]
          rwa [he] at this
      · cases h
    · cases h
  · simp at h
  · simp at h
  · split at h
    · simp at h
    · cases h
  · split at h
    · cases h
    · simp at h
  · cases h
theorem out_slice_row (I : Inv B Fz e (tmOf B a) w ob S) {o : Oper} {d : Nat} {t : TypeId} {x : Operand} {lo hi : Option Operand} (ho : o.op = .slice t x lo hi none)
    {n b : Nat} (ht : rowT P t = some (n, b)) {ups : Ups} (h : sliceS d (some n) x (res e x) (lo.map fun y => (res e y).1) (hi.map fun y => (res e y).1) = some ups) : Out P B e a w S p o d ups := by
  obtain ⟨el, hu, _, inf, hinf, rfl, rfl⟩ := rowT_spec ht
  have hs : sizeT P el = some inf.size := by simp [sizeT, hinf]
  have hrun : ∀ {A : Option Addr} {len cap l hh : Nat}, a.eval x = .slice A len cap → len ≤ cap → BV (hi.map a.eval) len len hh → BV (lo.map a.eval) hh 0 l →
      (execOp a.eval o).run P w = .ok (.value (.slice (if cap = l then A else A.map (·.add (l * inf.size))) (hh - l) (cap - l))) w := by
    intro A len cap l hh hv hc h1 h2
    simp only [execOp, ho, Sem.run_bind, hv, Option.map_none, run_slice_row hu hs hc h1 h2, Result.andThen_ok, Sem.run_pure]
  unfold sliceS at h
  split at h
  · simp at h
  · rename_i sz xs hx
    split at h
    · cases h
    · rename_i hn
      have hn : inf.size = sz := by simpa using hn
      subst hn
      split at h
      · rename_i hh hb1
        split at h
        · rename_i l hb2
          cases h
          have e1 := I.bnd hb1
          have e2 := I.bnd hb2
          have hi' := I.imm x (by show okC (res e x).1 = true; rw [hx]; rfl)
          rw [show opv e x = _ from hx] at hi'
          obtain ⟨A, cap, hev, hc⟩ := hi'.slice_form
          have l1 := e1.le
          have l2 := e2.le0
          rw [hev] at hi'
          refine out_plain I (hrun hev hc e1 e2) (.inl (hi'.part (by omega) (by omega) (cut_addr l2 (by omega))))
        · cases h
      · cases h
  · rename_i sz hx
    split at h
    · cases h
    · rename_i hn
      have hn : inf.size = sz := by simpa using hn
      subst hn
      split at h
      · rename_i hh hb1
        split at h
        · rename_i l hb2
          cases h
          have e1 := I.bnd hb1
          have e2 := I.bnd hb2
          have hi' := I.imm x (by show okC (res e x).1 = true; rw [hx]; rfl)
          rw [show opv e x = _ from hx] at hi'
          have l1 := e1.le
          have l2 := e2.le0
          obtain rfl : hh = 0 := by omega
          obtain rfl : l = 0 := by omega
          generalize hev : a.eval x = u at hi'
          cases hi'
          refine out_plain I (u := .slice none 0 0) ?_ (.inl (.nils _))
          rw [hrun hev (Nat.le_refl _) e1 e2]
          rfl
        · cases h
      · cases h
  · rename_i st sz xs hx
    split at h
    · rename_i s'
      split at h
      · cases h
      · rename_i hn
        have hn : inf.size = sz := by simpa using hn
        subst hn
        split at h
        · rename_i hh hb1
          split at h
          · rename_i l hb2
            cases h
            have e1 := I.bnd hb1
            have e2 := I.bnd hb2
            have l1 := e1.le
            have l2 := e2.le0
            obtain ⟨hvs, he⟩ := tmp_val hx (by simp)
            have hR := I.slot s' (by rw [he]; rfl)
            rw [he] at hR
            have hev : a.eval (.tmp s') = tmOf B a s' := (tmOf_ne B a hvs).symm
            obtain ⟨A, cap, hv, hc⟩ : ∃ A cap, tmOf B a s' = .slice A xs.length cap ∧ xs.length ≤ cap := by
              generalize tmOf B a s' = u at *
              generalize ob s' = bs at *
              cases hR with
              | plain h => exact absurd h.okC (by simp [okC])
              | ownNil => exact ⟨none, 0, rfl, Nat.le_refl _⟩
              | own g n' cap cur ty st sz xs c hg hn hc => subst hn; exact ⟨_, cap, rfl, hc⟩
            refine out_of (hrun (hev.trans hv) hc e1 e2) (I.putRef d _ (.snap s' none st l (hh - l)) rfl ?_ ?_)
            · intro sz2 xs2 hr
              have hr := rowIf_stamp hr
              rw [he] at hr
              simp only [rowAt?, Option.some.injEq, Prod.mk.injEq] at hr
              obtain ⟨_, rfl, rfl⟩ := hr
              refine ⟨by omega, A, _, cap, _, _, hv, rfl, by omega, ?_, cut_addr l2 (by omega)⟩
              rintro rfl
              refine ⟨?_, by omega⟩
              by_cases h0 : cap = 0
              · simp [h0]
              · rw [if_neg h0]
                cases A <;> simp [Addr.add]
            · intro st' hs'
              simp only [stampsOf, List.mem_singleton] at hs'
              subst hs'
              exact I.stamps s' st' (by rw [he]; simp [stampsOf, stamps1])
          · cases h
        · cases h
    · cases h
  · rename_i r pl st off len hx
    obtain ⟨s', rfl, he, hR, hvs⟩ := I.slotRef hx rfl (by simp)
    have h2 : (res e (.tmp s')).2 = e r := by simp [res, opv, hvs, he, rootOf]
    rw [h2] at h
    split at h
    · cases h
    · rename_i sz xs hr
      split at h
      · cases h
      · rename_i hn
        have hn : inf.size = sz := by simpa using hn
        subst hn
        split at h
        · rename_i hh hb1
          split at h
          · rename_i l hb2
            cases h
            have e1 := I.bnd hb1
            have e2 := I.bnd hb2
            have l1 := e1.le
            have l2 := e2.le0
            obtain ⟨k4, A, n', cap, A', cap', k5, k6, k7, k9, k8⟩ := hR _ xs hr
            refine out_of (hrun k6 k7 e1 e2) (I.putRef d _ (.snap r pl st (off + l) (hh - l)) rfl ?_ ?_)
            · intro sz2 xs2 hr2
              rw [hr] at hr2
              cases hr2
              refine ⟨by omega, A, n', cap, _, _, k5, rfl, by omega, ?_, ?_⟩
              · intro h0
                obtain ⟨rfl, rfl⟩ : off = 0 ∧ l = 0 := by omega
                obtain ⟨rfl, rfl⟩ := k9 rfl
                refine ⟨?_, by omega⟩
                by_cases h0 : cap' = 0
                · simp [h0]
                · rw [if_neg h0]
                  cases A' <;> simp [Addr.add]
              · intro ad hA hpos
                have := k8 ad hA (by omega)
                have hc := cut_addr (A := A') (s := inf.size) l2 (show hh ≤ cap' by omega) _ this hpos
                rw [hc, add_add, Nat.add_mul]
            · intro st' hs'
              simp only [stampsOf, List.mem_singleton] at hs'
              subst hs'
              exact I.stamps s' st' (by rw [he]; simp [stampsOf])
          · cases h
        · cases h
  · cases h
theorem out_index_str (I : Inv B Fz e (tmOf B a) w ob S) {o : Oper} {d : Nat} {t : TypeId} {x i : Operand} (ho : o.op = .index t x i) (ht : P.underlying t = some .string) {k : IntKind} {n : Int}
    (hi : (res e i).1 = .int k n) {s : List UInt8} (hx : (res e x).1 = .str s) (h0 : 0 ≤ n) {b : UInt8} (hb : s[n.toNat]? = some b) : Out P B e a w S p o d [(d, .int .u8 b.toNat)] := by
  obtain ⟨bs, hev, rfl⟩ := I.str hx
  refine out_plain I (u := .int .u8 b.toNat) ?_ (.inl (.int _ _))
  have hb' : bs[n.toNat]? = some b := by
    obtain ⟨h1, h2⟩ := List.getElem?_eq_some_iff.1 hb
    have h3 : n.toNat < bs.size := by rw [Array.length_toList] at h1; exact h1
    rw [getElem?_pos bs n.toNat h3, ← h2]
    rfl
  simp only [execOp, ho, Sem.run_bind, hev, I.int hi, Instr.index, asIntOf, Sem.run_pure, Result.andThen_ok, run_underlying ht, h0, if_true, hb']
theorem Plain.ofTVal {ag : Bool} {v : Value} {ps : List PV} (h : TVal w Fz ag v ps) (hag : ag = true) : Plain w Fz v (.agg ps) := by
  subst hag
  obtain ⟨arr, h1, h2⟩ := h
  exact .inr ⟨arr, ps, h1, rfl, h2⟩
/-- A part of a struct's or an array's value. -/
theorem Inv.aggPart (I : Inv B Fz e (tmOf B a) w ob S) {x : Operand} {d off m : Nat} {ag : Bool} {t : TypeId} (hs : sizeT P t = some m) (ha : isAggT P t = some ag) (h1 : ag = true ∨ m = 1)
    {ups : Ups} (h : fieldS d (res e x) off m ag = some ups) : ∃ arr u v, a.eval x = .agg arr ∧ (Go.part t arr off).run P w = .ok u w ∧ Plain w Fz u v ∧ ups = [(d, v)] := by
  unfold fieldS at h
  split at h
  · rename_i cs hx
    obtain ⟨arr, hev, hi⟩ := I.agg hx
    split at h
    · rename_i hl
      obtain ⟨u, hr, ht⟩ := run_part (w := w) (Fz := Fz) hs ha hi hl h1
      split at h
      · rename_i hag
        cases h
        exact ⟨arr, u, _, hev, hr, Plain.ofTVal ht hag, rfl⟩
      · rename_i hag
        rw [Bool.not_eq_true] at hag
        subst hag
        obtain ⟨q, hq, hi'⟩ := ht
        rw [hq] at h
        cases h
        exact ⟨arr, u, q, hev, hr, .inl hi', rfl⟩
    · cases h
  · cases h
theorem out_field (I : Inv B Fz e (tmOf B a) w ob S) {o : Oper} {d : Nat} {t : TypeId} {x : Operand} {f : Nat} (ho : o.op = .field t x f) {off n : Nat} {ag : Bool} {ft : TypeId}
    (hf : fieldT P t f = some (off, n, ag, ft)) (h1 : ag = true ∨ n = 1) {ups : Ups} (h : fieldS d (res e x) off n ag = some ups) : Out P B e a w S p o d ups := by
  unfold fieldT at hf
  split at hf
  · rename_i fs hu
    split at hf
    · rename_i fl hfl
      split at hf
      · rename_i n' a' hs ha
        simp only [Option.some.injEq, Prod.mk.injEq] at hf
        obtain ⟨rfl, rfl, rfl, rfl⟩ := hf
        obtain ⟨arr, u, v, h2, h3, h4, rfl⟩ := I.aggPart (P := P) hs ha h1 h
        refine out_plain I (u := u) ?_ h4
        simp only [execOp, ho, Sem.run_bind, h2, Instr.field, run_underlying hu, Result.andThen_ok, hfl, asAgg, Sem.run_pure, h3]
      · cases hf
    · cases hf
  · cases hf
theorem out_index_arr (I : Inv B Fz e (tmOf B a) w ob S) {o : Oper} {d : Nat} {t : TypeId} {x i : Operand} (ho : o.op = .index t x i) {k : IntKind} {n : Int} (hi : (res e i).1 = .int k n)
    {len s : Nat} {ag : Bool} (harr : arrT P t = some (len, s, ag)) (hb : 0 ≤ n ∧ n < len ∧ (ag = true ∨ s = 1)) {ups : Ups} (h : fieldS d (res e x) (n.toNat * s) s ag = some ups) : Out P B e a w S p o d ups := by
  unfold arrT at harr
  split at harr
  · rename_i len' el hu
    split at harr
    · rename_i n' a' hs ha
      simp only [Option.some.injEq, Prod.mk.injEq] at harr
      obtain ⟨rfl, rfl, rfl⟩ := harr
      obtain ⟨arr, u, v, h2, h3, h4, rfl⟩ := I.aggPart (P := P) hs ha hb.2.2 h
      refine out_plain I (u := u) ?_ h4
      simp only [execOp, ho, Sem.run_bind, h2, I.int hi, Instr.index, asIntOf, run_underlying hu, Result.andThen_ok, Sem.run_pure, hb.1, hb.2.1, and_self, if_true, run_sizeOf hs, h3]
    · cases harr
  · cases harr
/-- One component of a tuple goes to another slot. -/
theorem Inv.takeComp (I : Inv B Fz e tm w ob S) (hp : ¬ S p) {s d : Nat} (hsd : s ≠ d) {vs : List PV} (he : e s = .tup vs) {arr : Array Value} (htm : tm s = .tuple arr) {i : Nat} {v : PV} {u : Value}
    (hv : vs[i]? = some v) (hu : arr.toList[i]? = some u) (hnr : isRef (st1 p v) = false) (hst1 : ∀ st ∈ stampsOf (st1 p v), st = p) :
    ∃ ob', Inv B Fz (upd (upd e s (.tup (vs.set i .dead))) d (st1 p v)) (upd tm d u) w ob' (fun st => S st ∨ st = p) := by
  have hR := I.slot s (by rw [he]; rfl)
  rw [he, htm] at hR
  have hnd := I.nodup s
  have hnF := I.notFz s
  generalize hob : ob s = bs at *
  cases hR with
  | plain h => exact absurd h.okC (by simp [okC])
  | tup _ _ _ hreps =>
    obtain ⟨u', b1, b, b3, hu', rfl, hr, hset⟩ := hreps.cell hv
    obtain rfl : u' = u := Option.some.inj (hu'.symm.trans hu)
    have hnd3 : (b1 ++ ([] ++ b3)).Nodup ∧ (∀ x ∈ b, x ∉ b1 ++ ([] ++ b3)) ∧ b.Nodup := by
      simp only [List.nodup_append, List.mem_append, List.nil_append] at hnd ⊢
      grind
    have hrep := hset w Fz u' .dead [] (.dead u') (fun _ h => h) (fun _ _ => rfl) (fun _ _ => rfl)
    have harr : arr.toList.set i u' = arr.toList := by
      obtain ⟨h1, h2⟩ := List.getElem?_eq_some_iff.1 hu
      rw [← h2]
      exact List.set_getElem_self h1
    rw [harr] at hrep
    have hds : d ≠ s := Ne.symm hsd
    refine ⟨upd (upd ob s (b1 ++ ([] ++ b3))) d b, ?_⟩
    refine I.step (fun t => t = s ∨ t = d) (fun _ h => .inl h) rfl rfl rfl (Nat.le_refl _) (fun _ _ _ => rfl) (fun t ht => ?_) (fun _ h => h) (fun _ h => .inl h) ?_ ?_ ?_ ?_ ?_ ?_
    · rw [not_or] at ht
      exact ⟨by rw [upd_other ht.2, upd_other ht.1], upd_other ht.2, by rw [upd_other ht.2, upd_other ht.1]⟩
    · rintro t (rfl | rfl) x hx
      · rw [upd_other hsd, upd_same] at hx
        have : x ∈ ob t := by rw [hob]; simp at hx ⊢; grind
        exact ⟨.inl ⟨t, .inl rfl, this⟩, I.notFz t x this⟩
      · rw [upd_same] at hx
        have : x ∈ ob s := by rw [hob]; simp [hx]
        exact ⟨.inl ⟨s, .inl rfl, this⟩, I.notFz s x this⟩
    · rintro t (rfl | rfl)
      · rw [upd_other hsd, upd_same]; exact hnd3.1
      · rw [upd_same]; exact hnd3.2.2
    · rintro t t' (rfl | rfl) (rfl | rfl) hne x hx hx'
      · exact hne rfl
      · rw [upd_other hsd, upd_same] at hx
        rw [upd_same] at hx'
        exact hnd3.2.1 x hx' hx
      · rw [upd_same] at hx
        rw [upd_other hsd, upd_same] at hx'
        exact hnd3.2.1 x hx hx'
      · exact hne rfl
    · rintro t (rfl | rfl) st hs
      · rw [upd_other hsd, upd_same] at hs
        refine .inl (I.stamps t st ?_)
        rw [he]
        simp only [stampsOf, List.mem_flatMap] at hs ⊢
        obtain ⟨q, hq, hs⟩ := hs
        rcases List.mem_or_eq_of_mem_set hq with hq | rfl
        · exact ⟨q, hq, hs⟩
        · simp [stamps1] at hs
      · rw [upd_same] at hs; exact .inr (hst1 st hs)
    · rintro t (rfl | rfl)
      · refine RootStep.fresh ?_
        rw [upd_other hsd, upd_same]; simp [stamps1]
      · refine RootStep.fresh fun st hs hS => ?_
        rw [upd_same] at hs
        exact hp (stamps_st1 p v st hs ▸ hS)
    · rintro _ t (rfl | rfl)
      · unfold SlotRep
        rw [upd_other hsd, upd_same, if_neg (by simp [isRef]), upd_other hsd, upd_other hsd, upd_same, htm]
        exact .tup arr _ _ hrep
      · unfold SlotRep
        rw [upd_same, upd_same, upd_same, if_neg (by simp [hnr])]
        exact hr.st1 p
theorem out_extract (I : Inv B Fz e (tmOf B a) w ob S) (hp : ¬ S p) {o : Oper} {d : Nat} {x : Operand} {i : Nat} (ho : o.op = .extract x i) {ups : Ups}
    (h : extractS p d x (res e x) i = some ups) : Out P B e a w S p o d ups := by
  unfold extractS at h
  split at h
  · rename_i vs hx
    obtain ⟨s, rfl, hvs, he⟩ : ∃ s, x = .tmp s ∧ s ≠ VS ∧ e s = .tup vs := by
      cases x with
      | tmp s => exact ⟨s, rfl, tmp_val hx (by simp)⟩
      | const c => have h2 : constPV c = .tup vs := hx; rcases const_cases c with h' | h' <;> rw [h2] at h' <;> simp [okC] at h'
      | global g =>
        have hx : globPV g = .tup vs := hx
        rcases globPV_cases g with h' | ⟨_, _, h'⟩ <;> rw [h'] at hx <;> cases hx
      | func f => cases hx
    have hR := I.slot s (by rw [he]; rfl)
    rw [he] at hR
    have hev : a.eval (.tmp s) = tmOf B a s := (tmOf_ne B a hvs).symm
    obtain ⟨arr, htm, hreps⟩ : ∃ arr, tmOf B a s = .tuple arr ∧ Reps w Fz arr.toList vs (ob s) := by
      generalize tmOf B a s = u at *
      generalize ob s = bs at *
      cases hR with
      | plain h => exact absurd h.okC (by simp [okC])
      | tup arr _ _ h => exact ⟨arr, rfl, h⟩
    split at h
    · rename_i v hv
      obtain ⟨u, b, hu, hr, _⟩ := hreps.get hv
      have hrun : (execOp a.eval o).run P w = .ok (.value u) w := by
        have : arr[i]? = some u := by simpa using hu
        simp only [execOp, ho, Sem.run_bind, hev, htm, Instr.extract, this, Sem.run_pure, Result.andThen_ok]
      split at h
      · simp only at h
        split at h
        · cases h
        · rename_i hsd
          cases h
          obtain ⟨ob', I'⟩ := I.takeComp hp hsd he htm hv hu rfl (by simp [st1, stampsOf, stamps1])
          exact out_of hrun I'
      · rename_i stb csb
        simp only at h
        split at h
        · cases h
        · rename_i hsd
          cases h
          obtain ⟨ob', I'⟩ := I.takeComp hp hsd he htm hv hu rfl (fun st h => stamps_st1 p (.box stb csb) st h)
          exact out_of hrun I'
      · rename_i cs
        cases h
        cases hr with
        | plain h => exact absurd h.okC (by simp [okC])
        | agg arr' _ h => exact out_plain I hrun (.inr ⟨_, _, rfl, rfl, h⟩)
      · split at h
        · rename_i hok
          cases h
          exact out_plain I hrun (.inl (hr.imm hok))
        · cases h
    · cases h
  · cases h
end
end Go.PE
namespace Go.PE
open Go.RowKit
section
variable {P : Program} {B : Base} {Fz : Nat → Prop} {e : Env} {a : Act} {tm : Tm} {w : World} {ob : Nat → List Nat} {S S' : Stamp → Prop} {p : Stamp}
theorem zero_imm : ∀ {vs : List Value} {ps : List PV}, zeroFits vs ps = true → ImmL w Fz vs ps ∧ ps.all okC = true := by
  intro vs ps
  have cons : ∀ {v : Value} {q : PV} {vs : List Value} {ps : List PV}, Imm w Fz v q → ImmL w Fz vs ps ∧ ps.all okC = true → ImmL w Fz (v :: vs) (q :: ps) ∧ (q :: ps).all okC = true := by
    intro v q vs ps h1 h2
    refine ⟨⟨by simp [h2.1.1], fun i x y hx hy => ?_⟩, by simp [h1.okC, h2.2]⟩
    cases i with
    | zero => simp at hx hy; subst hx hy; exact h1
    | succ i => exact h2.1.2 i x y (by simpa using hx) (by simpa using hy)
  induction vs, ps using zeroFits.induct with
  | case1 => intro _; exact ⟨⟨rfl, fun i x y h => by simp at h⟩, rfl⟩
  | case2 k vs k' ps ih =>
    intro h
    simp only [zeroFits, Bool.and_eq_true, decide_eq_true_eq] at h
    obtain ⟨rfl, h⟩ := h
    exact cons (.int _ _) (ih h)
  | case3 vs ps ih => intro h; exact cons (.bool _) (ih (by simpa [zeroFits] using h))
  | case4 s vs ps ih =>
    intro h
    simp only [zeroFits, Bool.and_eq_true, List.isEmpty_iff] at h
    have := Imm.str (w := w) (Fz := Fz) s
    rw [h.1] at this
    exact cons this (ih h.2)
  | case5 vs n ps ih => intro h; exact cons (.nils _) (ih (by simpa [zeroFits] using h))
  | case6 vs ps ih => intro h; exact cons .nilp (ih (by simpa [zeroFits] using h))
  | case7 vs ps ih => intro h; exact cons .nilf (ih (by simpa [zeroFits] using h))
  | case8 vs ps ih => intro h; exact cons .nili (ih (by simpa [zeroFits] using h))
  | case9 vs ag ps ih => intro h; exact cons (.imapNil ag) (ih (by simpa [zeroFits] using h))
  | case10 vs ps => intro h; simp_all [zeroFits]
theorem zeroT_spec {t : TypeId} {ps : List PV} (h : zeroT P t = some ps) : ∃ i z, P.info? t = some i ∧ i.zero = some z ∧ zeroFits z.cells.toList ps = true := by
  unfold zeroT at h
  split at h
  · rename_i ps' z h1 h2
    split at h
    · rename_i hf
      cases h
      obtain ⟨i, hi, hz⟩ := Option.bind_eq_some_iff.1 h2
      exact ⟨i, z, hi, hz, hf⟩
    · cases h
  · cases h
theorem alloc_heap_new (w : World) (o : Obj) : (w.alloc o).heap[w.heap.size]? = some o := heap_alloc_new w o
theorem alloc_heap_old (w : World) (o : Obj) (b : Nat) (h : b < w.heap.size) : (w.alloc o).heap[b]? = w.heap[b]? := heap_alloc_old w o b h
/-- A new variable. -/
theorem Inv.newBox (I : Inv B Fz e tm w ob S) (hp : ¬ S p) (d : Nat) {arr : Array Value} {ps : List PV} (h : ImmL w Fz arr.toList ps) (t : TypeId) :
    Inv B Fz (upd e d (.box p ps)) (upd tm d (.pointer (some ⟨w.heap.size, 0, none⟩))) (w.alloc (.cells arr t)) (upd ob d [w.heap.size]) (fun st => S st ∨ st = p) := by
  have hok := h.ok
  have hold : ∀ b, b < w.heap.size → (w.alloc (.cells arr t)).heap[b]? = w.heap[b]? := fun b hb => alloc_heap_old w _ b hb
  have hstC : ∀ st ∈ ps.flatMap stampsC, st = p := by
    intro st hs
    simp only [List.mem_flatMap] at hs
    obtain ⟨q, hq, hs⟩ := hs
    have := List.all_eq_true.1 hok q hq
    cases q <;> simp_all [okC, stampsC]
  refine I.put1 d _ _ [w.heap.size] (fun _ h => .inl h) rfl rfl rfl (by simp) hold (by simp) (by simp) ?_ ?_ ?_
  · intro st hs
    simp only [stampsOf, stamps1, List.mem_cons] at hs
    exact .inr (hs.elim id fun hs => hstC st hs)
  · intro st hs hS
    simp only [stamps1, List.mem_cons] at hs
    exact hp ((hs.elim id fun hs => hstC st hs) ▸ hS)
  · rw [if_neg (by simp [isRef])]
    have := Rep.box (w := w.alloc (.cells arr t)) (Fz := Fz) w.heap.size arr t p ps [] (alloc_heap_new w _) (Reps.ofImmL (h.mono (fun _ h => h) fun b hb => hold b (I.fzlt b hb)))
      (SelfOK.ok hok)
    exact this
theorem Inv.newBoxM (I : Inv B Fz e tm w ob S) (hp : ¬ S p) (d : Nat) {arr : Array Value} {ps : List PV} (h : ImmL w Fz arr.toList ps) (t : TypeId) :
    Inv B Fz (upd e d (.box p (markT t ps))) (upd tm d (.pointer (some ⟨w.heap.size, 0, none⟩))) (w.alloc (.cells arr t)) (upd ob d [w.heap.size]) (fun st => S st ∨ st = p) := by
  unfold markT
  split
  · have hold : ∀ b, b < w.heap.size → (w.alloc (.cells arr t)).heap[b]? = w.heap[b]? := fun b hb => alloc_heap_old w _ b hb
    refine I.put1 d _ _ [w.heap.size] (fun _ h => .inl h) rfl rfl rfl (by simp) hold (by simp) (by simp) ?_ ?_ ?_
    · intro st hs
      simp [stampsOf, stamps1, stampsC] at hs
      exact .inr hs
    · intro st hs hS
      simp [stamps1, stampsC] at hs
      exact hp (hs ▸ hS)
    · rw [if_neg (by simp [isRef])]
      obtain ⟨l, hl⟩ : ∃ l, arr.toList = l := ⟨_, rfl⟩
      have h' := h
      rw [hl] at h'
      match l, h'.1 with
      | [v0, v1], _ =>
      have i0 := h'.2 0 v0 _ rfl rfl
      have i1 := h'.2 1 v1 _ rfl rfl
      have v0e : v0 = .pointer none := by cases i0; rfl
      have hr : Reps (w.alloc (.cells arr t)) Fz arr.toList [.bnil t, .nils 1] [] := by
        rw [hl]
        exact .cons (b := []) (.bnil v0 t) (.cons (b := []) (.plain (i1.mono (fun _ h => h) fun b hb => hold b (I.fzlt b hb))) .nil)
      exact Rep.box (w := w.alloc (.cells arr t)) (Fz := Fz) w.heap.size arr t p _ [] (alloc_heap_new w _) hr ⟨rfl, fun i q hi hs => by
        rw [hl]
        match i with
        | 0 =>
          simp only [List.getElem?_cons_zero, Option.some.injEq] at hi
          subst hi
          exact ⟨v0, rfl, v0e, rfl⟩
        | 1 =>
          simp only [List.getElem?_cons_succ, List.getElem?_cons_zero, Option.some.injEq] at hi
          subst hi
          simp [isSelf] at hs
        | i + 2 => simp at hi⟩
  · exact I.newBox hp d h t
theorem out_alloc (I : Inv B Fz e (tmOf B a) w ob S) (hp : ¬ S p) {o : Oper} {d : Nat} {t : TypeId} (ho : o.op = .alloc t) {cs : List PV} (hz : zeroT P t = some cs) : Out P B e a w S p o d [(d, .box p (markT t cs))] := by
  obtain ⟨i, z, hi, hz', hf⟩ := zeroT_spec hz
  obtain ⟨h1, h2⟩ := zero_imm (w := w) (Fz := Fz) hf
  refine out_of ?_ (I.newBoxM hp d h1 t)
  simp only [execOp, ho, Sem.run_bind, Instr.alloc, zeroValue, typeInfo, run_program, hi, Result.andThen_ok, Sem.run_pure, hz', newVar, newRow, run_newObj]
  rfl
end
end Go.PE
namespace Go.PE
open Go.RowKit
section
variable {P : Program} {B : Base} {Fz : Nat → Prop} {e : Env} {a : Act} {tm : Tm} {w : World} {ob : Nat → List Nat} {S S' : Stamp → Prop} {p : Stamp}
/-- Updates that freeze: each at a slot that holds a row or a variable. -/
def Frz (e : Env) (u : Ups) : Prop := ∀ q ∈ u, ∃ pl st sz xs, rowIf (e q.1) pl st = some (sz, xs)
theorem rowIf_root {v : PV} {pl : Option Nat} {st : Stamp} {sz : Nat} {xs : List (List PV)} (h : rowIf v pl st = some (sz, xs)) : (∃ st sz xs, v = .own st sz xs) ∨ ∃ st cs, v = .box st cs := by
  have h := rowIf_stamp h
  unfold rowAt? at h
  split at h
  · exact .inl ⟨_, _, _, rfl⟩
  · exact .inr ⟨_, _, rfl⟩
  · cases h
/-- What is seen of an operand is not touched by updates at other slots. -/
theorem res_apply {u : Ups} {x : Operand} (h1 : ∀ s, x = .tmp s → ∀ q ∈ u, q.1 ≠ s) (h2 : ∀ r, rootOf (opv e x) = some r → ∀ q ∈ u, q.1 ≠ r) : res (apply u e) x = res e x := by
  have hv : opv (apply u e) x = opv e x := by
    cases x with
    | tmp s => simp only [opv]; rw [apply_other u e s (h1 s rfl)]
    | _ => rfl
  unfold res
  rw [hv]
  cases hr : rootOf (opv e x) with
  | none => simp only [hr]
  | some r => simp only [hr]; rw [apply_other u e r (h2 r hr)]
theorem view_of_part {x : Operand} {vr : PV × PV} {new : List PV} {u : Ups} (h : partS x vr = some (new, u)) : (∃ sz, vr.1 = .nils sz) ∨ (∃ cs, vr.1 = .agg cs) ∨ cellsFrozen x vr = some (new, u) := by
  unfold partS at h
  split at h
  · exact .inl ⟨_, ‹_›⟩
  · exact .inr (.inl ⟨_, ‹_›⟩)
  · exact .inr (.inr h)
/-- The updates of a value that lasts, and why other freezing leaves it alone. -/
theorem frozen_apart {u1 : Ups} (hF : Frz e u1) {t : TypeId} {x : Operand} {vr : PV × PV} (hvr : vr = hint P t x (res e x)) {v : PV} {u : Ups}
    (hv : PE.view vr = some v) (hu : freezeUps x vr = some u) (hd : ∀ q ∈ u1, ∀ q' ∈ u, q.1 ≠ q'.1) : res (apply u1 e) x = res e x := by
  rcases hint_cases P t x (res e x) with hh | ⟨rfl, n, hh⟩
  · rw [hh] at hvr
    subst hvr
    refine res_apply (fun s hx q hq hqs => ?_) (fun r hr q hq hqr => ?_)
    · subst hx
      have hvs : s ≠ VS := by
        rcases res_tmp e s with ⟨_, h2⟩ | ⟨h1, _⟩
        · unfold PE.view at hv; rw [h2] at hv; simp [okC] at hv
        · exact h1
      obtain ⟨pl, st, sz, xs, hrow⟩ := hF q hq
      rw [hqs] at hrow
      rcases rowIf_root hrow with ⟨st', sz', xs', he⟩ | ⟨st', cs, he⟩
      · have : u = [(s, .imm sz' xs')] := by
          unfold freezeUps at hu
          have h1 : (res e (.tmp s)).1 = .own st' sz' xs' := by rw [res_ne e hvs]; exact he
          rw [h1] at hu
          simpa using hu.symm
        subst this
        exact hd q hq _ (List.mem_singleton.2 rfl) hqs
      · unfold PE.view at hv
        have h1 : (res e (.tmp s)).1 = .box st' cs := by rw [res_ne e hvs]; exact he
        rw [h1] at hv
        simp [okC] at hv
    · have h1 : (res e x).1 = opv e x := rfl
      unfold freezeUps at hu
      rw [h1] at hu
      cases hox : opv e x <;> rw [hox] at hr hu <;> simp [rootOf] at hr
      · simp [okC] at hu
      · simp [okC] at hu
      · subst hr
        simp only at hu
        split at hu
        · cases hu
          exact hd q hq _ (List.mem_singleton.2 rfl) hqr
        · cases hu
      · simp [okC] at hu
      · simp [okC] at hu
      · simp [okC] at hu
  · rfl
/-- One value that lasts, behind others. -/
theorem Inv.part1 {e0 : Env} {u1 : Ups} (I : Inv B Fz (apply u1 e0) (tmOf B a) w ob S) (hF : Frz e0 u1) {t : TypeId} {x : Operand} {new : List PV} {u : Ups}
    (h : partS x (hint P t x (res e0 x)) = some (new, u)) (hd : ∀ q ∈ u1, ∀ q' ∈ u, q.1 ≠ q'.1) :
    ∃ Fz' ob', Inv B Fz' (apply (u1 ++ u) e0) (tmOf B a) w ob' S ∧ (∀ b, Fz b → Fz' b) ∧ ImmL w Fz' (a.eval x).cells.toList new ∧ Frz e0 (u1 ++ u) ∧
      (∀ s, (∀ q ∈ u, q.1 ≠ s) → ob' s = ob s) := by
  rw [apply_append]
  rcases view_of_part h with ⟨sz, hv⟩ | ⟨cs, hv⟩ | hc
  · -- a nil row
    have hres : res (apply u1 e0) x = res e0 x := by
      rcases hint_cases P t x (res e0 x) with hh | ⟨rfl, n, hh⟩
      · rw [hh] at hv
        have h1 : opv e0 x = .nils sz := hv
        refine res_apply (fun s hx q hq hqs => ?_) (fun r hr => by rw [h1] at hr; cases hr)
        subst hx
        obtain ⟨pl, st, sz', xs, hrow⟩ := hF q hq
        rw [hqs] at hrow
        have h1 : e0 s = .nils sz := (tmp_val h1 (by simp)).2
        rcases rowIf_root hrow with ⟨_, _, _, he⟩ | ⟨_, _, he⟩ <;> rw [h1] at he <;> cases he
      · rfl
    unfold partS at h
    rw [hv] at h
    cases h
    have hi := I.immH P t x (by rw [hres, hv]; rfl)
    rw [hres, hv] at hi
    exact ⟨Fz, ob, I, fun _ h => h, Plain.cellsL (.inl hi), by simpa [Frz] using hF, fun _ _ => rfl⟩
  · have hne := hint_ne P t x (res e0 x) (by rw [hv]; rfl)
    rw [hne] at hv h
    have h1 : opv e0 x = .agg cs := hv
    have hres : res (apply u1 e0) x = res e0 x := by
      refine res_apply (fun s hx q hq hqs => ?_) (fun r hr => by rw [h1] at hr; cases hr)
      subst hx
      obtain ⟨pl, st, sz', xs, hrow⟩ := hF q hq
      rw [hqs] at hrow
      have h1 : e0 s = .agg cs := (tmp_val h1 (by simp)).2
      rcases rowIf_root hrow with ⟨_, _, _, he⟩ | ⟨_, _, he⟩ <;> rw [h1] at he <;> cases he
    unfold partS at h
    rw [hv] at h
    cases h
    obtain ⟨arr, h2, h3⟩ := I.agg (by rw [hres]; exact hv)
    refine ⟨Fz, ob, I, fun _ h => h, ?_, by simpa [Frz] using hF, fun _ _ => rfl⟩
    rw [h2]; exact h3
  · unfold PE.cellsFrozen at hc
    split at hc
    · rename_i v u' hv hu
      cases hc
      have hres := frozen_apart (P := P) hF rfl hv hu hd
      obtain ⟨Fz', ob', I', h1, h2, h3, h4⟩ := I.frozen (t := t) (by rw [hres]; exact hv) (by rw [hres]; exact hu)
      refine ⟨Fz', ob', I', h1, h2.cellsL, ?_, fun s hs => (h3 s hs).1⟩
      intro q hq
      rcases List.mem_append.1 hq with hq | hq
      · exact hF q hq
      · rcases h4 with rfl | ⟨r, c, rfl, _, pl, st, sz, xs, hrow, _⟩
        · cases hq
        · simp only [List.mem_singleton] at hq
          subst hq
          have hr : apply u1 e0 r = e0 r := apply_other u1 e0 r fun q' hq' => hd q' hq' _ (List.mem_singleton.2 rfl)
          rw [hr] at hrow
          exact ⟨pl, st, sz, xs, hrow⟩
    · cases hc
/-- The cells of a part are laid into the cells of the whole. -/
theorem foldl_set_cells : ∀ (l : List Value) (o : Nat) (i : Nat) (cs : Array Value), o + i + l.length ≤ cs.size →
    ((l.zipIdx i).foldl (fun cs (c, j) => cs.setIfInBounds (o + j) c) cs).toList = cs.toList.take (o + i) ++ l ++ cs.toList.drop (o + i + l.length)
  | [], o, i, cs, _ => by simp
  | v :: l, o, i, cs, h => by
    simp only [List.zipIdx_cons, List.foldl_cons]
    simp only [List.length_cons] at h
    rw [foldl_set_cells l o (i + 1) _ (by simp; omega)]
    rw [Array.toList_setIfInBounds]
    have := list_seg_step cs.toList (o + i) v l (by simp; omega)
    rw [show o + (i + 1) = o + i + 1 from by omega, this]
    simp only [List.length_cons]
/-- Values and readings, one by one. -/
def RelL (R : Value → PV → Prop) (vs : List Value) (ps : List PV) : Prop := vs.length = ps.length ∧ ∀ (i : Nat) v p, vs[i]? = some v → ps[i]? = some p → R v p
theorem RelL.splice {R : Value → PV → Prop} {vs vs' : List Value} {ps ps' : List PV} (h : RelL R vs ps) (h' : RelL R vs' ps') (o : Nat) (hl : o + ps'.length ≤ ps.length) :
    RelL R (vs.take o ++ vs' ++ vs.drop (o + vs'.length)) (PE.splice ps ps' o) := by
  have h1 := h.1
  have h2 := h'.1
  refine ⟨by simp [PE.splice]; omega, fun i v q hv hq => ?_⟩
  rw [splice_getElem? _ _ _ _ hl] at hq
  rw [List.append_assoc, List.getElem?_append, List.length_take, Nat.min_eq_left (by omega)] at hv
  split at hq
  · rename_i hi
    rw [if_pos hi, List.getElem?_take, if_pos hi] at hv
    exact h.2 i v q hv hq
  · rename_i hi
    rw [if_neg hi, List.getElem?_append] at hv
    split at hq
    · rw [if_pos (by omega)] at hv
      exact h'.2 _ v q hv hq
    · rw [if_neg (by omega), List.getElem?_drop, show o + vs'.length + (i - o - vs'.length) = i from by omega] at hv
      exact h.2 i v q hv hq
theorem ImmL.splice {vs vs' : List Value} {ps ps' : List PV} (h : ImmL w Fz vs ps) (h' : ImmL w Fz vs' ps') (o : Nat) (hl : o + ps'.length ≤ ps.length) :
    ImmL w Fz (vs.take o ++ vs' ++ vs.drop (o + vs'.length)) (PE.splice ps ps' o) := RelL.splice (R := Imm w Fz) h h' o hl
theorem Inv.buildS {e0 : Env} (place : Nat → Option (Nat × Nat × TypeId)) (rs : TypeId → Operand → PV × PV) (hrs : ∀ t x, ∃ t', rs t x = hint P t' x (res e0 x))
    (pm : Nat → Option (Nat × Nat)) (hpm : ∀ i o n t, place i = some (o, n, t) → pm i = some (o, n)) :
    ∀ (l : List (Nat × Operand)) (cells : List PV) (arr : Array Value) (u1 : Ups) (Fz : Nat → Prop) (ob : Nat → List Nat) (cs : List PV) (us : Ups),
    Inv B Fz (apply u1 e0) (tmOf B a) w ob S → Frz e0 u1 → ImmL w Fz arr.toList cells → PE.buildS place rs l cells = some (cs, us) → ((u1 ++ us).map (·.1)).Nodup →
    ∃ Fz' ob' arr', Inv B Fz' (apply (u1 ++ us) e0) (tmOf B a) w ob' S ∧ (∀ b, Fz b → Fz' b) ∧ Instr.fill pm arr (l.map fun q => (q.1, a.eval q.2)) = some arr' ∧ ImmL w Fz' arr'.toList cs
  | [], cells, arr, u1, Fz, ob, cs, us, I, hF, hi, h, hnd => by
    simp only [PE.buildS, Option.some.injEq, Prod.mk.injEq] at h
    obtain ⟨rfl, rfl⟩ := h
    rw [List.append_nil]
    exact ⟨Fz, ob, arr, I, fun _ h => h, rfl, hi⟩
  | (i, x) :: l, cells, arr, u1, Fz, ob, cs, us, I, hF, hi, h, hnd => by
    simp only [PE.buildS] at h
    split at h
    · cases h
    · rename_i o n t hp
      split at h
      · cases h
      · rename_i new u hpart
        split at h
        · rename_i hc
          obtain ⟨rfl, hl⟩ := hc
          split at h
          · rename_i cs' us' hrest
            simp only [Option.some.injEq, Prod.mk.injEq] at h
            obtain ⟨rfl, rfl⟩ := h
            obtain ⟨t', ht'⟩ := hrs t x
            rw [ht'] at hpart
            have hd : ∀ q ∈ u1, ∀ q' ∈ u, q.1 ≠ q'.1 := by
              intro q hq q' hq' hqq
              rw [List.map_append, List.nodup_append] at hnd
              exact hnd.2.2 q.1 (List.mem_map.2 ⟨q, hq, rfl⟩) q'.1 (List.mem_map.2 ⟨q', List.mem_append.2 (.inl hq'), rfl⟩) hqq
            obtain ⟨Fz1, ob1, I1, hF1, hn1, hFr1, _⟩ := I.part1 hF hpart hd
            have hnl := hn1.1
            have hal := hi.1
            have hsp := (hi.mono hF1 (fun _ _ => rfl)).splice hn1 o hl
            have hfold := foldl_set_cells (a.eval x).cells.toList o 0 arr (by rw [Array.length_toList] at hal; omega)
            rw [Nat.add_zero] at hfold
            rw [← hfold] at hsp
            obtain ⟨Fz2, ob2, arr2, I2, hF2, hfill, hi2⟩ := Inv.buildS place rs hrs pm hpm l _ _ (u1 ++ u) Fz1 ob1 _ _ I1 hFr1 hsp hrest (by rw [List.append_assoc]; exact hnd)
            rw [List.append_assoc] at I2
            refine ⟨Fz2, ob2, arr2, I2, fun b hb => hF2 b (hF1 b hb), ?_, hi2⟩
            rw [List.map_cons, Instr.fill, hpm i o _ t hp]
            have hs1 : (a.eval x).cells.size = new.length := by rw [← hnl, Array.length_toList]
            have hs2 : ¬ (o + (a.eval x).cells.size > arr.size) := by rw [Array.length_toList] at hal; omega
            simp only
            rw [if_neg (by rw [hs1] at hs2 ⊢; simp; omega), ← Array.foldl_toList, Array.toList_zipIdx]
            exact hfill
          · cases h
        · cases h
end
end Go.PE
namespace Go.PE
open Go.RowKit
section
variable {P : Program} {B : Base} {Fz : Nat → Prop} {e : Env} {a : Act} {tm : Tm} {w : World} {ob : Nat → List Nat} {S S' : Stamp → Prop} {p : Stamp}
theorem apply_snoc (u : Ups) (d : Nat) (v : PV) (e : Env) : apply (u ++ [(d, v)]) e = upd (apply u e) d v := by rw [apply_append]; rfl
theorem frz_nil (e : Env) : Frz e [] := fun _ h => by cases h
/-- A type of which no literal nil is one. -/
theorem noHint (P : Program) {t : TypeId} (h : rowT P t = none) (x : Operand) (vr : PV × PV) : hint P t x vr = vr := by
  unfold hint
  split
  · rw [h]
  · rfl
theorem out_build (I : Inv B Fz e (tmOf B a) w ob S) {o : Oper} {d : Nat} {t : TypeId} {parts : Array (Nat × Operand)} (ho : o.op = .build t parts) {zs : List PV} (hz : zeroT P t = some zs)
    {cs : List PV} {u : Ups} (h : buildP P t parts.toList (res e) zs = some (cs, u)) (hnd : nodupB ((u.map (·.1)) ++ [d]) = true) : Out P B e a w S p o d (u ++ [(d, .agg cs)]) := by
  obtain ⟨i, z, hi, hz', hf⟩ := zeroT_spec hz
  obtain ⟨h1, h2⟩ := zero_imm (w := w) (Fz := Fz) hf
  rw [nodupB_iff, List.nodup_append] at hnd
  have hmap : (parts.map fun (i, x) => (i, a.eval x)).toList = parts.toList.map fun q => (q.1, a.eval q.2) := by simp
  rw [Out, apply_snoc]
  unfold buildP at h
  split at h
  · rename_i len n ag harr
    have ht0 : rowT P t = none := by
      unfold arrT at harr
      split at harr
      · rename_i hu; simp [rowT, elemT, hu]
      · cases harr
    obtain ⟨Fz', ob', arr', I', _, hfill, hi'⟩ := Inv.buildS (P := P) (e0 := e) (fun i => if i < len then some (i * n, n, t) else none) (fun _ x => res e x)
      (fun _ x => ⟨t, (noHint P ht0 x (res e x)).symm⟩) (fun i => some (i * n, n))
      (fun i o n' t' h => by
        split at h
        · simp only [Option.some.injEq, Prod.mk.injEq] at h; rw [h.1, h.2.1]
        · cases h) parts.toList zs z.cells [] Fz ob cs u I (frz_nil e) h1 h (by simpa using hnd.1)
    refine ⟨_, w, Fz', _, ?_, I'.putPlain d (.agg arr') (.agg cs) (.inr ⟨_, _, rfl, rfl, hi'⟩)⟩
    unfold arrT at harr
    split at harr
    · rename_i len' el hu
      split at harr
      · rename_i n' a' hs _
        simp only [Option.some.injEq, Prod.mk.injEq] at harr
        obtain ⟨rfl, rfl, rfl⟩ := harr
        obtain ⟨ie, hie, rfl⟩ := Option.map_eq_some_iff.1 hs
        have hb : P.built t (parts.map fun (i, x) => (i, a.eval x)).toList = some arr' := by
          rw [hmap]
          simp only [Program.built, hi, hu, hz', hie]
          exact hfill
        simp only [execOp, ho, Sem.run_bind, run_build w t _ arr' hb, Result.andThen_ok, Sem.run_pure]
      · cases harr
    · cases harr
  · split at h
    · rename_i l hl
      unfold placesT at hl
      split at hl
      · rename_i fs hu
        split at hl
        · rename_i places hp
          cases hl
          obtain ⟨Fz', ob', arr', I', _, hfill, hi'⟩ := Inv.buildS (P := P) (e0 := e) (fun i => ((places.zip (fs.toList.map (·.type))).map fun q => (q.1.1, q.1.2, q.2))[i]?) (fun t x => hint P t x (res e x)) (fun t x => ⟨t, rfl⟩) (fun i => places.toArray[i]?)
            (fun i o n' t' h => by
              simp only [List.getElem?_map] at h
              obtain ⟨q, hq, hq'⟩ := Option.map_eq_some_iff.1 h
              simp only [Prod.mk.injEq] at hq'
              obtain ⟨rfl, rfl, rfl⟩ := hq'
              rw [List.getElem?_zip_eq_some] at hq
              simp [hq.1]) parts.toList zs z.cells [] Fz ob cs u I (frz_nil e) h1 h (by simpa using hnd.1)
          refine ⟨_, w, Fz', _, ?_, I'.putPlain d (.agg arr') (.agg cs) (.inr ⟨_, _, rfl, rfl, hi'⟩)⟩
          have hb : P.built t (parts.map fun (i, x) => (i, a.eval x)).toList = some arr' := by
            rw [hmap]
            simp only [Program.built, hi, hu, hz', hp]
            exact hfill
          simp only [execOp, ho, Sem.run_bind, run_build w t _ arr' hb, Result.andThen_ok, Sem.run_pure]
        · cases hl
      · cases hl
    · cases h
theorem out_box (I : Inv B Fz e (tmOf B a) w ob S) (hp : ¬ S p) {o : Oper} {d : Nat} {t : TypeId} {x : Operand} (ho : o.op = .box t x) {cs : List PV} {u : Ups}
    (h : partS x (hint P t x (res e x)) = some (cs, u))  : Out P B e a w S p o d (u ++ [(d, .box p cs)]) := by
  obtain ⟨Fz', ob', I', _, hi, _, _⟩ := Inv.part1 (u1 := []) (e0 := e) I (frz_nil e) h (by simp)
  rw [List.nil_append] at I'
  rw [Out, apply_snoc]
  refine ⟨_, _, Fz', _, ?_, I'.newBox hp d hi t⟩
  simp only [execOp, ho, Sem.run_bind, Instr.box, newVar, newRow, run_newObj, Result.andThen_ok, Sem.run_pure]
  rfl
end
end Go.PE
