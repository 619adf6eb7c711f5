/-
  A part of the proof that the law's function returns true and leaves its arguments as they were, for every input (no condition): own lemmas of the proof, in the order of their use.
-/
import Derived.Test.YtggpmnlmbfogeaaGreatDoorX04
set_option linter.all false
namespace Go.PE
open Go.RowKit
section
variable {P : Program} {B : Base} {Fz : Nat → Prop} {e : Env} {a : Act} {tm : Tm} {w : World} {ob : Nat → List Nat} {S S' : Stamp → Prop} {p : Stamp}
def BV (v : Option Value) (hi dflt k : Nat) : Prop :=
 match v with
 | none => k = dflt
 | some u => ∃ kd n, u = .int kd n ∧ 0 ≤ n ∧ n ≤ (hi : Int) ∧ k = n.toNat
theorem Inv.bnd (I : Inv B Fz e (tmOf B a) w ob S) {v : Option Operand} {hi dflt k : Nat} (h : bndS hi (v.map fun y => (res e y).1) dflt = some k) : BV (v.map a.eval) hi dflt k := by
 unfold bndS at h
 cases v with
 | none => simpa [BV] using h.symm
 | some y =>
  simp only [Option.map_some] at h ⊢
  split at h
  ·rename_i h'; cases h'
  ·rename_i kd n hv
   simp only [Option.some.injEq] at hv
   split at h
   ·rename_i hc
    cases h
    exact ⟨kd, n, I.int hv, hc.1, hc.2, rfl⟩
   ·cases h
  ·cases h
theorem run_bounds {isS : Bool} {len cap : Nat} {lo hi : Option Value} {l h : Nat} (hlc : len ≤ cap) (hh : BV hi len len h) (hl : BV lo h 0 l) :
  (Instr.sliceBounds isS len cap lo hi none).run P w = .ok (l, h, cap) w := by
 have hb : ∀ {v : Value} {kd : IntKind} {n : Int} {y : Nat} {code : BoundsCode}, v = .int kd n → 0 ≤ n → n ≤ (y : Int) → (Instr.sliceBound v y code).run P w = .ok n.toNat w := by
  intro v kd n y code hv h0 h1
  subst hv
  exact run_sliceBound w kd n y code h0 h1
 cases hi with
 | none =>
  simp only [BV] at hh
  subst hh
  cases lo with
  | none => simp only [BV] at hl; subst hl; simp [Instr.sliceBounds]
  | some v =>
   obtain ⟨kd, n, hv, h0, h1, rfl⟩ := hl
   simp [Instr.sliceBounds, hb hv h0 h1]
 | some u =>
  obtain ⟨kd, n, hu, h0, h1, rfl⟩ := hh
  have e1 : ∀ code, (Instr.sliceBound u cap code).run P w = .ok n.toNat w := fun code => hb hu h0 (by omega)
  cases lo with
  | none => simp only [BV] at hl; subst hl; simp [Instr.sliceBounds, e1]
  | some v =>
   obtain ⟨kd', n', hv, h0', h1', rfl⟩ := hl
   simp [Instr.sliceBounds, e1, hb hv h0' h1']
theorem run_slice_row {t el : TypeId} {s : Nat} (hu : P.underlying t = some (.slice el)) (hs : sizeT P el = some s) {A : Option Addr} {len cap : Nat} {lo hi : Option Value} {l h : Nat}
  (hlc : len ≤ cap) (hh : BV hi len len h) (hl : BV lo h 0 l) :
  (Instr.sliceAt t (.slice A len cap) lo hi none).run P w = .ok (.slice (if cap = l then A else A.map (·.add (l * s))) (h - l) (cap - l)) w := by
 simp only [Instr.sliceAt, Sem.run_bind, run_underlying hu, Result.andThen_ok, Instr.slice, run_bounds hlc hh hl, run_sizeOf hs, Sem.run_pure]
theorem BV.le {v : Option Value} {hi k : Nat} (h : BV v hi hi k) : k ≤ hi := by
 cases v with
 | none => simp only [BV] at h; omega
 | some u => obtain ⟨_, n, _, h0, h1, rfl⟩ := h; omega
theorem BV.le0 {v : Option Value} {hi k : Nat} (h : BV v hi 0 k) : k ≤ hi := by
 cases v with
 | none => simp only [BV] at h; omega
 | some u => obtain ⟨_, n, _, h0, h1, rfl⟩ := h; omega
theorem Imm.slice_form {u : Value} {sz : Nat} {xs : List (List PV)} (h : Imm w Fz u (.imm sz xs)) : ∃ A cap, u = .slice A xs.length cap ∧ xs.length ≤ cap := by
 cases h with
 | imm A n cap sz xs c hn hc => subst hn; exact ⟨A, cap, rfl, hc⟩
theorem cut_addr {A : Option Addr} {cap l h s : Nat} (hl : l ≤ h) (hc : h ≤ cap) : ∀ ad, A = some ad → 0 < h - l → (if cap = l then A else A.map (·.add (l * s))) = some (ad.add (l * s)) := by
 intro ad hA h0
 subst hA
 rw [if_neg (by omega)]
 rfl
theorem out_slice_str (I : Inv B Fz e (tmOf B a) w ob S) {o : Oper} {d : Nat} {t : TypeId} {x : Operand} {lo hi : Option Operand} (ho : o.op = .slice t x lo hi none)
  (ht : P.underlying t = some .string) {ups : Ups} (h : sliceS d none x (res e x) (lo.map fun y => (res e y).1) (hi.map fun y => (res e y).1) = some ups) : Out P B e a w S p o d ups := by
 unfold sliceS at h
 split at h
 ·rename_i s hx
  simp only [Option.isSome_none, Bool.false_eq_true, if_false] at h
  split at h
  ·rename_i hh hb1
   split at h
   ·rename_i l hb2
    cases h
    obtain ⟨b, hb, rfl⟩ := I.str hx
    have e1 := I.bnd hb1
    have e2 := I.bnd hb2
    have hlen : b.data.toList.length = b.size := by rw [Array.length_toList]; rfl
    rw [hlen] at e1
    refine out_plain I (u := .string (b.extract l hh)) ?_ (.inl ?_)
    ·simp only [execOp, ho, Sem.run_bind, hb, Instr.sliceAt, run_underlying ht, Result.andThen_ok, Instr.slice, Option.map_none, Option.isSome_none, Bool.false_eq_true, if_false,
      run_bounds (P := P) (w := w) (isS := false) (Nat.le_refl _) e1 e2, Sem.run_pure]
    ·have := Imm.str (w := w) (Fz := Fz) (b.extract l hh)
     have he : (b.extract l hh).data.toList = (b.data.toList.drop l).take (hh - l) := by
      rw [ByteArray.data_extract, Array.toList_extract, List.extract_eq_take_drop]
     rwa [he] at this
   ·cases h
  ·cases h
 ·simp at h
 ·simp at h
 ·split at h
  ·simp at h
  ·cases h
 ·split at h
  ·cases h
  ·simp at h
 ·cases h
theorem out_slice_row (I : Inv B Fz e (tmOf B a) w ob S) {o : Oper} {d : Nat} {t : TypeId} {x : Operand} {lo hi : Option Operand} (ho : o.op = .slice t x lo hi none)
  {n b : Nat} (ht : rowT P t = some (n, b)) {ups : Ups} (h : sliceS d (some n) x (res e x) (lo.map fun y => (res e y).1) (hi.map fun y => (res e y).1) = some ups) : Out P B e a w S p o d ups := by
 obtain ⟨el, hu, _, inf, hinf, rfl, rfl⟩ := rowT_spec ht
 have hs : sizeT P el = some inf.size := by simp [sizeT, hinf]
 have hrun : ∀ {A : Option Addr} {len cap l hh : Nat}, a.eval x = .slice A len cap → len ≤ cap → BV (hi.map a.eval) len len hh → BV (lo.map a.eval) hh 0 l →
   (execOp a.eval o).run P w = .ok (.value (.slice (if cap = l then A else A.map (·.add (l * inf.size))) (hh - l) (cap - l))) w := by
  intro A len cap l hh hv hc h1 h2
  simp only [execOp, ho, Sem.run_bind, hv, Option.map_none, run_slice_row hu hs hc h1 h2, Result.andThen_ok, Sem.run_pure]
 unfold sliceS at h
 split at h
 ·simp at h
 ·rename_i sz xs hx
  split at h
  ·cases h
  ·rename_i hn
   have hn : inf.size = sz := by simpa using hn
   subst hn
   split at h
   ·rename_i hh hb1
    split at h
    ·rename_i l hb2
     cases h
     have e1 := I.bnd hb1
     have e2 := I.bnd hb2
     have hi' := I.imm x (by show okC (res e x).1 = true; rw [hx]; rfl)
     rw [show opv e x = _ from hx] at hi'
     obtain ⟨A, cap, hev, hc⟩ := hi'.slice_form
     have l1 := e1.le
     have l2 := e2.le0
     rw [hev] at hi'
     refine out_plain I (hrun hev hc e1 e2) (.inl (hi'.part (by omega) (by omega) (cut_addr l2 (by omega))))
    ·cases h
   ·cases h
 ·rename_i sz hx
  split at h
  ·cases h
  ·rename_i hn
   have hn : inf.size = sz := by simpa using hn
   subst hn
   split at h
   ·rename_i hh hb1
    split at h
    ·rename_i l hb2
     cases h
     have e1 := I.bnd hb1
     have e2 := I.bnd hb2
     have hi' := I.imm x (by show okC (res e x).1 = true; rw [hx]; rfl)
     rw [show opv e x = _ from hx] at hi'
     have l1 := e1.le
     have l2 := e2.le0
     obtain rfl : hh = 0 := by omega
     obtain rfl : l = 0 := by omega
     generalize hev : a.eval x = u at hi'
     cases hi'
     refine out_plain I (u := .slice none 0 0) ?_ (.inl (.nils _))
     rw [hrun hev (Nat.le_refl _) e1 e2]
     rfl
    ·cases h
   ·cases h
 ·rename_i st sz xs hx
  split at h
  ·rename_i s'
   split at h
   ·cases h
   ·rename_i hn
    have hn : inf.size = sz := by simpa using hn
    subst hn
    split at h
    ·rename_i hh hb1
     split at h
     ·rename_i l hb2
      cases h
      have e1 := I.bnd hb1
      have e2 := I.bnd hb2
      have l1 := e1.le
      have l2 := e2.le0
      obtain ⟨hvs, he⟩ := tmp_val hx (by simp)
      have hR := I.slot s' (by rw [he]; rfl)
      rw [he] at hR
      have hev : a.eval (.tmp s') = tmOf B a s' := (tmOf_ne B a hvs).symm
      obtain ⟨A, cap, hv, hc⟩ : ∃ A cap, tmOf B a s' = .slice A xs.length cap ∧ xs.length ≤ cap := by
       generalize tmOf B a s' = u at *
       generalize ob s' = bs at *
       cases hR with
       | plain h => exact absurd h.okC (by simp [okC])
       | ownNil => exact ⟨none, 0, rfl, Nat.le_refl _⟩
       | own g n' cap cur ty st sz xs c hg hn hc => subst hn; exact ⟨_, cap, rfl, hc⟩
      refine out_of (hrun (hev.trans hv) hc e1 e2) (I.putRef d _ (.snap s' none st l (hh - l)) rfl ?_ ?_)
      ·intro sz2 xs2 hr
       have hr := rowIf_stamp hr
       rw [he] at hr
       simp only [rowAt?, Option.some.injEq, Prod.mk.injEq] at hr
       obtain ⟨_, rfl, rfl⟩ := hr
       refine ⟨by omega, A, _, cap, _, _, hv, rfl, by omega, ?_, cut_addr l2 (by omega)⟩
       rintro rfl
       refine ⟨?_, by omega⟩
       by_cases h0 : cap = 0
       ·simp [h0]
       ·rw [if_neg h0]
        cases A <;> simp [Addr.add]
      ·intro st' hs'
       simp only [stampsOf, List.mem_singleton] at hs'
       subst hs'
       exact I.stamps s' st' (by rw [he]; simp [stampsOf, stamps1])
     ·cases h
    ·cases h
  ·cases h
 ·rename_i r pl st off len hx
  obtain ⟨s', rfl, he, hR, hvs⟩ := I.slotRef hx rfl (by simp)
  have h2 : (res e (.tmp s')).2 = e r := by simp [res, opv, hvs, he, rootOf]
  rw [h2] at h
  split at h
  ·cases h
  ·rename_i sz xs hr
   split at h
   ·cases h
   ·rename_i hn
    have hn : inf.size = sz := by simpa using hn
    subst hn
    split at h
    ·rename_i hh hb1
     split at h
     ·rename_i l hb2
      cases h
      have e1 := I.bnd hb1
      have e2 := I.bnd hb2
      have l1 := e1.le
      have l2 := e2.le0
      obtain ⟨k4, A, n', cap, A', cap', k5, k6, k7, k9, k8⟩ := hR _ xs hr
      refine out_of (hrun k6 k7 e1 e2) (I.putRef d _ (.snap r pl st (off + l) (hh - l)) rfl ?_ ?_)
      ·intro sz2 xs2 hr2
       rw [hr] at hr2
       cases hr2
       refine ⟨by omega, A, n', cap, _, _, k5, rfl, by omega, ?_, ?_⟩
       ·intro h0
        obtain ⟨rfl, rfl⟩ : off = 0 ∧ l = 0 := by omega
        obtain ⟨rfl, rfl⟩ := k9 rfl
        refine ⟨?_, by omega⟩
        by_cases h0 : cap' = 0
        ·simp [h0]
        ·rw [if_neg h0]
         cases A' <;> simp [Addr.add]
       ·intro ad hA hpos
        have := k8 ad hA (by omega)
        have hc := cut_addr (A := A') (s := inf.size) l2 (show hh ≤ cap' by omega) _ this hpos
        rw [hc, add_add, Nat.add_mul]
      ·intro st' hs'
       simp only [stampsOf, List.mem_singleton] at hs'
       subst hs'
       exact I.stamps s' st' (by rw [he]; simp [stampsOf])
     ·cases h
    ·cases h
 ·cases h
theorem out_index_str (I : Inv B Fz e (tmOf B a) w ob S) {o : Oper} {d : Nat} {t : TypeId} {x i : Operand} (ho : o.op = .index t x i) (ht : P.underlying t = some .string) {k : IntKind} {n : Int}
  (hi : (res e i).1 = .int k n) {s : List UInt8} (hx : (res e x).1 = .str s) (h0 : 0 ≤ n) {b : UInt8} (hb : s[n.toNat]? = some b) : Out P B e a w S p o d [(d, .int .u8 b.toNat)] := by
 obtain ⟨bs, hev, rfl⟩ := I.str hx
 refine out_plain I (u := .int .u8 b.toNat) ?_ (.inl (.int _ _))
 have hb' : bs[n.toNat]? = some b := by
  obtain ⟨h1, h2⟩ := List.getElem?_eq_some_iff.1 hb
  have h3 : n.toNat < bs.size := by rw [Array.length_toList] at h1; exact h1
  rw [getElem?_pos bs n.toNat h3, ← h2]
  rfl
 simp only [execOp, ho, Sem.run_bind, hev, I.int hi, Instr.index, asIntOf, Sem.run_pure, Result.andThen_ok, run_underlying ht, h0, if_true, hb']
theorem Plain.ofTVal {ag : Bool} {v : Value} {ps : List PV} (h : TVal w Fz ag v ps) (hag : ag = true) : Plain w Fz v (.agg ps) := by
 subst hag
 obtain ⟨arr, h1, h2⟩ := h
 exact .inr ⟨arr, ps, h1, rfl, h2⟩
theorem Inv.aggPart (I : Inv B Fz e (tmOf B a) w ob S) {x : Operand} {d off m : Nat} {ag : Bool} {t : TypeId} (hs : sizeT P t = some m) (ha : isAggT P t = some ag) (h1 : ag = true ∨ m = 1)
  {ups : Ups} (h : fieldS d (res e x) off m ag = some ups) : ∃ arr u v, a.eval x = .agg arr ∧ (Go.part t arr off).run P w = .ok u w ∧ Plain w Fz u v ∧ ups = [(d, v)] := by
 unfold fieldS at h
 split at h
 ·rename_i cs hx
  obtain ⟨arr, hev, hi⟩ := I.agg hx
  split at h
  ·rename_i hl
   obtain ⟨u, hr, ht⟩ := run_part (w := w) (Fz := Fz) hs ha hi hl h1
   split at h
   ·rename_i hag
    cases h
    exact ⟨arr, u, _, hev, hr, Plain.ofTVal ht hag, rfl⟩
   ·rename_i hag
    rw [Bool.not_eq_true] at hag
    subst hag
    obtain ⟨q, hq, hi'⟩ := ht
    rw [hq] at h
    cases h
    exact ⟨arr, u, q, hev, hr, .inl hi', rfl⟩
  ·cases h
 ·cases h
theorem out_field (I : Inv B Fz e (tmOf B a) w ob S) {o : Oper} {d : Nat} {t : TypeId} {x : Operand} {f : Nat} (ho : o.op = .field t x f) {off n : Nat} {ag : Bool} {ft : TypeId}
  (hf : fieldT P t f = some (off, n, ag, ft)) (h1 : ag = true ∨ n = 1) {ups : Ups} (h : fieldS d (res e x) off n ag = some ups) : Out P B e a w S p o d ups := by
 unfold fieldT at hf
 split at hf
 ·rename_i fs hu
  split at hf
  ·rename_i fl hfl
   split at hf
   ·rename_i n' a' hs ha
    simp only [Option.some.injEq, Prod.mk.injEq] at hf
    obtain ⟨rfl, rfl, rfl, rfl⟩ := hf
    obtain ⟨arr, u, v, h2, h3, h4, rfl⟩ := I.aggPart (P := P) hs ha h1 h
    refine out_plain I (u := u) ?_ h4
    simp only [execOp, ho, Sem.run_bind, h2, Instr.field, run_underlying hu, Result.andThen_ok, hfl, asAgg, Sem.run_pure, h3]
   ·cases hf
  ·cases hf
 ·cases hf
theorem out_index_arr (I : Inv B Fz e (tmOf B a) w ob S) {o : Oper} {d : Nat} {t : TypeId} {x i : Operand} (ho : o.op = .index t x i) {k : IntKind} {n : Int} (hi : (res e i).1 = .int k n)
  {len s : Nat} {ag : Bool} (harr : arrT P t = some (len, s, ag)) (hb : 0 ≤ n ∧ n < len ∧ (ag = true ∨ s = 1)) {ups : Ups} (h : fieldS d (res e x) (n.toNat * s) s ag = some ups) : Out P B e a w S p o d ups := by
 unfold arrT at harr
 split at harr
 ·rename_i len' el hu
  split at harr
  ·rename_i n' a' hs ha
   simp only [Option.some.injEq, Prod.mk.injEq] at harr
   obtain ⟨rfl, rfl, rfl⟩ := harr
   obtain ⟨arr, u, v, h2, h3, h4, rfl⟩ := I.aggPart (P := P) hs ha hb.2.2 h
   refine out_plain I (u := u) ?_ h4
   simp only [execOp, ho, Sem.run_bind, h2, I.int hi, Instr.index, asIntOf, run_underlying hu, Result.andThen_ok, Sem.run_pure, hb.1, hb.2.1, and_self, if_true, run_sizeOf hs, h3]
  ·cases harr
 ·cases harr
theorem Inv.takeComp (I : Inv B Fz e tm w ob S) (hp : ¬ S p) {s d : Nat} (hsd : s ≠ d) {vs : List PV} (he : e s = .tup vs) {arr : Array Value} (htm : tm s = .tuple arr) {i : Nat} {v : PV} {u : Value}
  (hv : vs[i]? = some v) (hu : arr.toList[i]? = some u) (hnr : isRef (st1 p v) = false) (hst1 : ∀ st ∈ stampsOf (st1 p v), st = p) :
  ∃ ob', Inv B Fz (upd (upd e s (.tup (vs.set i .dead))) d (st1 p v)) (upd tm d u) w ob' (fun st => S st ∨ st = p) := by
 have hR := I.slot s (by rw [he]; rfl)
 rw [he, htm] at hR
 have hnd := I.nodup s
 have hnF := I.notFz s
 generalize hob : ob s = bs at *
 cases hR with
 | plain h => exact absurd h.okC (by simp [okC])
 | tup _ _ _ hreps =>
  obtain ⟨u', b1, b, b3, hu', rfl, hr, hset⟩ := hreps.cell hv
  obtain rfl : u' = u := Option.some.inj (hu'.symm.trans hu)
  have hnd3 : (b1 ++ ([] ++ b3)).Nodup ∧ (∀ x ∈ b, x ∉ b1 ++ ([] ++ b3)) ∧ b.Nodup := by
   simp only [List.nodup_append, List.mem_append, List.nil_append] at hnd ⊢
   grind
  have hrep := hset w Fz u' .dead [] (.dead u') (fun _ h => h) (fun _ _ => rfl) (fun _ _ => rfl)
  have harr : arr.toList.set i u' = arr.toList := by
   obtain ⟨h1, h2⟩ := List.getElem?_eq_some_iff.1 hu
   rw [← h2]
   exact List.set_getElem_self h1
  rw [harr] at hrep
  have hds : d ≠ s := Ne.symm hsd
  refine ⟨upd (upd ob s (b1 ++ ([] ++ b3))) d b, ?_⟩
  refine I.step (fun t => t = s ∨ t = d) (fun _ h => .inl h) rfl rfl rfl (Nat.le_refl _) (fun _ _ _ => rfl) (fun t ht => ?_) (fun _ h => h) (fun _ h => .inl h) ?_ ?_ ?_ ?_ ?_ ?_
  ·rw [not_or] at ht
   exact ⟨by rw [upd_other ht.2, upd_other ht.1], upd_other ht.2, by rw [upd_other ht.2, upd_other ht.1]⟩
  ·rintro t (rfl | rfl) x hx
   ·rw [upd_other hsd, upd_same] at hx
    have : x ∈ ob t := by rw [hob]; simp at hx ⊢; grind
    exact ⟨.inl ⟨t, .inl rfl, this⟩, I.notFz t x this⟩
   ·rw [upd_same] at hx
    have : x ∈ ob s := by rw [hob]; simp [hx]
    exact ⟨.inl ⟨s, .inl rfl, this⟩, I.notFz s x this⟩
  ·rintro t (rfl | rfl)
   ·rw [upd_other hsd, upd_same]; exact hnd3.1
   ·rw [upd_same]; exact hnd3.2.2
  ·rintro t t' (rfl | rfl) (rfl | rfl) hne x hx hx'
   ·exact hne rfl
   ·rw [upd_other hsd, upd_same] at hx
    rw [upd_same] at hx'
    exact hnd3.2.1 x hx' hx
   ·rw [upd_same] at hx
    rw [upd_other hsd, upd_same] at hx'
    exact hnd3.2.1 x hx hx'
   ·exact hne rfl
  ·rintro t (rfl | rfl) st hs
   ·rw [upd_other hsd, upd_same] at hs
    refine .inl (I.stamps t st ?_)
    rw [he]
    simp only [stampsOf, List.mem_flatMap] at hs ⊢
    obtain ⟨q, hq, hs⟩ := hs
    rcases List.mem_or_eq_of_mem_set hq with hq | rfl
    ·exact ⟨q, hq, hs⟩
    ·simp [stamps1] at hs
   ·rw [upd_same] at hs; exact .inr (hst1 st hs)
  ·rintro t (rfl | rfl)
   ·refine RootStep.fresh ?_
    rw [upd_other hsd, upd_same]; simp [stamps1]
   ·refine RootStep.fresh fun st hs hS => ?_
    rw [upd_same] at hs
    exact hp (stamps_st1 p v st hs ▸ hS)
  ·rintro _ t (rfl | rfl)
   ·unfold SlotRep
    rw [upd_other hsd, upd_same, if_neg (by simp [isRef]), upd_other hsd, upd_other hsd, upd_same, htm]
    exact .tup arr _ _ hrep
   ·unfold SlotRep
    rw [upd_same, upd_same, upd_same, if_neg (by simp [hnr])]
    exact hr.st1 p
theorem out_extract (I : Inv B Fz e (tmOf B a) w ob S) (hp : ¬ S p) {o : Oper} {d : Nat} {x : Operand} {i : Nat} (ho : o.op = .extract x i) {ups : Ups}
  (h : extractS p d x (res e x) i = some ups) : Out P B e a w S p o d ups := by
 unfold extractS at h
 split at h
 ·rename_i vs hx
  obtain ⟨s, rfl, hvs, he⟩ : ∃ s, x = .tmp s ∧ s ≠ VS ∧ e s = .tup vs := by
   cases x with
   | tmp s => exact ⟨s, rfl, tmp_val hx (by simp)⟩
   | const c => have h2 : constPV c = .tup vs := hx; rcases const_cases c with h' | h' <;> rw [h2] at h' <;> simp [okC] at h'
   | global g =>
    have hx : globPV g = .tup vs := hx
    rcases globPV_cases g with h' | ⟨_, _, h'⟩ <;> rw [h'] at hx <;> cases hx
   | func f => cases hx
  have hR := I.slot s (by rw [he]; rfl)
  rw [he] at hR
  have hev : a.eval (.tmp s) = tmOf B a s := (tmOf_ne B a hvs).symm
  obtain ⟨arr, htm, hreps⟩ : ∃ arr, tmOf B a s = .tuple arr ∧ Reps w Fz arr.toList vs (ob s) := by
   generalize tmOf B a s = u at *
   generalize ob s = bs at *
   cases hR with
   | plain h => exact absurd h.okC (by simp [okC])
   | tup arr _ _ h => exact ⟨arr, rfl, h⟩
  split at h
  ·rename_i v hv
   obtain ⟨u, b, hu, hr, _⟩ := hreps.get hv
   have hrun : (execOp a.eval o).run P w = .ok (.value u) w := by
    have : arr[i]? = some u := by simpa using hu
    simp only [execOp, ho, Sem.run_bind, hev, htm, Instr.extract, this, Sem.run_pure, Result.andThen_ok]
   split at h
   ·simp only at h
    split at h
    ·cases h
    ·rename_i hsd
     cases h
     obtain ⟨ob', I'⟩ := I.takeComp hp hsd he htm hv hu rfl (by simp [st1, stampsOf, stamps1])
     exact out_of hrun I'
   ·rename_i stb csb
    simp only at h
    split at h
    ·cases h
    ·rename_i hsd
     cases h
     obtain ⟨ob', I'⟩ := I.takeComp hp hsd he htm hv hu rfl (fun st h => stamps_st1 p (.box stb csb) st h)
     exact out_of hrun I'
   ·rename_i cs
    cases h
    cases hr with
    | plain h => exact absurd h.okC (by simp [okC])
    | agg arr' _ h => exact out_plain I hrun (.inr ⟨_, _, rfl, rfl, h⟩)
   ·split at h
    ·rename_i hok
     cases h
     exact out_plain I hrun (.inl (hr.imm hok))
    ·cases h
  ·cases h
 ·cases h
end
end Go.PE
namespace Go.PE
open Go.RowKit
section
variable {P : Program} {B : Base} {Fz : Nat → Prop} {e : Env} {a : Act} {tm : Tm} {w : World} {ob : Nat → List Nat} {S S' : Stamp → Prop} {p : Stamp}
theorem zero_imm : ∀ {vs : List Value} {ps : List PV}, zeroFits vs ps = true → ImmL w Fz vs ps ∧ ps.all okC = true := by
 intro vs ps
 have cons : ∀ {v : Value} {q : PV} {vs : List Value} {ps : List PV}, Imm w Fz v q → ImmL w Fz vs ps ∧ ps.all okC = true → ImmL w Fz (v :: vs) (q :: ps) ∧ (q :: ps).all okC = true := by
  intro v q vs ps h1 h2
  refine ⟨⟨by simp [h2.1.1], fun i x y hx hy => ?_⟩, by simp [h1.okC, h2.2]⟩
  cases i with
  | zero => simp at hx hy; subst hx hy; exact h1
  | succ i => exact h2.1.2 i x y (by simpa using hx) (by simpa using hy)
 induction vs, ps using zeroFits.induct with
 | case1 => intro _; exact ⟨⟨rfl, fun i x y h => by simp at h⟩, rfl⟩
 | case2 k vs k' ps ih =>
  intro h
  simp only [zeroFits, Bool.and_eq_true, decide_eq_true_eq] at h
  obtain ⟨rfl, h⟩ := h
  exact cons (.int _ _) (ih h)
 | case3 vs ps ih => intro h; exact cons (.bool _) (ih (by simpa [zeroFits] using h))
 | case4 s vs ps ih =>
  intro h
  simp only [zeroFits, Bool.and_eq_true, List.isEmpty_iff] at h
  have := Imm.str (w := w) (Fz := Fz) s
  rw [h.1] at this
  exact cons this (ih h.2)
 | case5 vs n ps ih => intro h; exact cons (.nils _) (ih (by simpa [zeroFits] using h))
 | case6 vs ps ih => intro h; exact cons .nilp (ih (by simpa [zeroFits] using h))
 | case7 vs ps ih => intro h; exact cons .nilf (ih (by simpa [zeroFits] using h))
 | case8 vs ps ih => intro h; exact cons .nili (ih (by simpa [zeroFits] using h))
 | case9 vs ps => intro h; simp_all [zeroFits]
theorem zeroT_spec {t : TypeId} {ps : List PV} (h : zeroT P t = some ps) : ∃ i z, P.info? t = some i ∧ i.zero = some z ∧ zeroFits z.cells.toList ps = true := by
 unfold zeroT at h
 split at h
 ·rename_i ps' z h1 h2
  split at h
  ·rename_i hf
   cases h
   obtain ⟨i, hi, hz⟩ := Option.bind_eq_some_iff.1 h2
   exact ⟨i, z, hi, hz, hf⟩
  ·cases h
 ·cases h
theorem alloc_heap_new (w : World) (o : Obj) : (w.alloc o).heap[w.heap.size]? = some o := heap_alloc_new w o
theorem alloc_heap_old (w : World) (o : Obj) (b : Nat) (h : b < w.heap.size) : (w.alloc o).heap[b]? = w.heap[b]? := heap_alloc_old w o b h
theorem Inv.newBox (I : Inv B Fz e tm w ob S) (hp : ¬ S p) (d : Nat) {arr : Array Value} {ps : List PV} (h : ImmL w Fz arr.toList ps) (t : TypeId) :
  Inv B Fz (upd e d (.box p ps)) (upd tm d (.pointer (some ⟨w.heap.size, 0, none⟩))) (w.alloc (.cells arr t)) (upd ob d [w.heap.size]) (fun st => S st ∨ st = p) := by
 have hok := h.ok
 have hold : ∀ b, b < w.heap.size → (w.alloc (.cells arr t)).heap[b]? = w.heap[b]? := fun b hb => alloc_heap_old w _ b hb
 have hstC : ∀ st ∈ ps.flatMap stampsC, st = p := by
  intro st hs
  simp only [List.mem_flatMap] at hs
  obtain ⟨q, hq, hs⟩ := hs
  have := List.all_eq_true.1 hok q hq
  cases q <;> simp_all [okC, stampsC]
 refine I.put1 d _ _ [w.heap.size] (fun _ h => .inl h) rfl rfl rfl (by simp) hold (by simp) (by simp) ?_ ?_ ?_
 ·intro st hs
  simp only [stampsOf, stamps1, List.mem_cons] at hs
  exact .inr (hs.elim id fun hs => hstC st hs)
 ·intro st hs hS
  simp only [stamps1, List.mem_cons] at hs
  exact hp ((hs.elim id fun hs => hstC st hs) ▸ hS)
 ·rw [if_neg (by simp [isRef])]
  have := Rep.box (w := w.alloc (.cells arr t)) (Fz := Fz) w.heap.size arr t p ps [] (alloc_heap_new w _) (Reps.ofImmL (h.mono (fun _ h => h) fun b hb => hold b (I.fzlt b hb)))
   (SelfOK.ok hok)
  exact this
theorem Inv.newBoxM (I : Inv B Fz e tm w ob S) (hp : ¬ S p) (d : Nat) {arr : Array Value} {ps : List PV} (h : ImmL w Fz arr.toList ps) (t : TypeId) :
  Inv B Fz (upd e d (.box p (markT t ps))) (upd tm d (.pointer (some ⟨w.heap.size, 0, none⟩))) (w.alloc (.cells arr t)) (upd ob d [w.heap.size]) (fun st => S st ∨ st = p) := by
 unfold markT
 split
 ·have hold : ∀ b, b < w.heap.size → (w.alloc (.cells arr t)).heap[b]? = w.heap[b]? := fun b hb => alloc_heap_old w _ b hb
  refine I.put1 d _ _ [w.heap.size] (fun _ h => .inl h) rfl rfl rfl (by simp) hold (by simp) (by simp) ?_ ?_ ?_
  ·intro st hs
   simp [stampsOf, stamps1, stampsC] at hs
   exact .inr hs
  ·intro st hs hS
   simp [stamps1, stampsC] at hs
   exact hp (hs ▸ hS)
  ·rw [if_neg (by simp [isRef])]
   obtain ⟨l, hl⟩ : ∃ l, arr.toList = l := ⟨_, rfl⟩
   have h' := h
   rw [hl] at h'
   match l, h'.1 with
   | [v0, v1], _ =>
   have i0 := h'.2 0 v0 _ rfl rfl
   have i1 := h'.2 1 v1 _ rfl rfl
   have v0e : v0 = .pointer none := by cases i0; rfl
   have hr : Reps (w.alloc (.cells arr t)) Fz arr.toList [.bnil t, .nils 1] [] := by
    rw [hl]
    exact .cons (b := []) (.bnil v0 t) (.cons (b := []) (.plain (i1.mono (fun _ h => h) fun b hb => hold b (I.fzlt b hb))) .nil)
   exact Rep.box (w := w.alloc (.cells arr t)) (Fz := Fz) w.heap.size arr t p _ [] (alloc_heap_new w _) hr ⟨rfl, fun i q hi hs => by
    rw [hl]
    match i with
    | 0 =>
     simp only [List.getElem?_cons_zero, Option.some.injEq] at hi
     subst hi
     exact ⟨v0, rfl, v0e, rfl⟩
    | 1 =>
     simp only [List.getElem?_cons_succ, List.getElem?_cons_zero, Option.some.injEq] at hi
     subst hi
     simp [isSelf] at hs
    | i + 2 => simp at hi⟩
 ·exact I.newBox hp d h t
theorem out_alloc (I : Inv B Fz e (tmOf B a) w ob S) (hp : ¬ S p) {o : Oper} {d : Nat} {t : TypeId} (ho : o.op = .alloc t) {cs : List PV} (hz : zeroT P t = some cs) : Out P B e a w S p o d [(d, .box p (markT t cs))] := by
 obtain ⟨i, z, hi, hz', hf⟩ := zeroT_spec hz
 obtain ⟨h1, h2⟩ := zero_imm (w := w) (Fz := Fz) hf
 refine out_of ?_ (I.newBoxM hp d h1 t)
 simp only [execOp, ho, Sem.run_bind, Instr.alloc, zeroValue, typeInfo, run_program, hi, Result.andThen_ok, Sem.run_pure, hz', newVar, newRow, run_newObj]
 rfl
end
end Go.PE
namespace Go.PE
open Go.RowKit
section
variable {P : Program} {B : Base} {Fz : Nat → Prop} {e : Env} {a : Act} {tm : Tm} {w : World} {ob : Nat → List Nat} {S S' : Stamp → Prop} {p : Stamp}
def Frz (e : Env) (u : Ups) : Prop := ∀ q ∈ u, ∃ pl st sz xs, rowIf (e q.1) pl st = some (sz, xs)
theorem rowIf_root {v : PV} {pl : Option Nat} {st : Stamp} {sz : Nat} {xs : List (List PV)} (h : rowIf v pl st = some (sz, xs)) : (∃ st sz xs, v = .own st sz xs) ∨ ∃ st cs, v = .box st cs := by
 have h := rowIf_stamp h
 unfold rowAt? at h
 split at h
 ·exact .inl ⟨_, _, _, rfl⟩
 ·exact .inr ⟨_, _, rfl⟩
 ·cases h
theorem res_apply {u : Ups} {x : Operand} (h1 : ∀ s, x = .tmp s → ∀ q ∈ u, q.1 ≠ s) (h2 : ∀ r, rootOf (opv e x) = some r → ∀ q ∈ u, q.1 ≠ r) : res (apply u e) x = res e x := by
 have hv : opv (apply u e) x = opv e x := by
  cases x with
  | tmp s => simp only [opv]; rw [apply_other u e s (h1 s rfl)]
  | _ => rfl
 unfold res
 rw [hv]
 cases hr : rootOf (opv e x) with
 | none => simp only [hr]
 | some r => simp only [hr]; rw [apply_other u e r (h2 r hr)]
theorem view_of_part {x : Operand} {vr : PV × PV} {new : List PV} {u : Ups} (h : partS x vr = some (new, u)) : (∃ sz, vr.1 = .nils sz) ∨ (∃ cs, vr.1 = .agg cs) ∨ cellsFrozen x vr = some (new, u) := by
 unfold partS at h
 split at h
 ·exact .inl ⟨_, ‹_›⟩
 ·exact .inr (.inl ⟨_, ‹_›⟩)
 ·exact .inr (.inr h)
theorem frozen_apart {u1 : Ups} (hF : Frz e u1) {t : TypeId} {x : Operand} {vr : PV × PV} (hvr : vr = hint P t x (res e x)) {v : PV} {u : Ups}
  (hv : PE.view vr = some v) (hu : freezeUps x vr = some u) (hd : ∀ q ∈ u1, ∀ q' ∈ u, q.1 ≠ q'.1) : res (apply u1 e) x = res e x := by
 rcases hint_cases P t x (res e x) with hh | ⟨rfl, n, hh⟩
 ·rw [hh] at hvr
  subst hvr
  refine res_apply (fun s hx q hq hqs => ?_) (fun r hr q hq hqr => ?_)
  ·subst hx
   have hvs : s ≠ VS := by
    rcases res_tmp e s with ⟨_, h2⟩ | ⟨h1, _⟩
    ·unfold PE.view at hv; rw [h2] at hv; simp [okC] at hv
    ·exact h1
   obtain ⟨pl, st, sz, xs, hrow⟩ := hF q hq
   rw [hqs] at hrow
   rcases rowIf_root hrow with ⟨st', sz', xs', he⟩ | ⟨st', cs, he⟩
   ·have : u = [(s, .imm sz' xs')] := by
     unfold freezeUps at hu
     have h1 : (res e (.tmp s)).1 = .own st' sz' xs' := by rw [res_ne e hvs]; exact he
     rw [h1] at hu
     simpa using hu.symm
    subst this
    exact hd q hq _ (List.mem_singleton.2 rfl) hqs
   ·unfold PE.view at hv
    have h1 : (res e (.tmp s)).1 = .box st' cs := by rw [res_ne e hvs]; exact he
    rw [h1] at hv
    simp [okC] at hv
  ·have h1 : (res e x).1 = opv e x := rfl
   unfold freezeUps at hu
   rw [h1] at hu
   cases hox : opv e x <;> rw [hox] at hr hu <;> simp [rootOf] at hr
   ·simp [okC] at hu
   ·simp [okC] at hu
   ·subst hr
    simp only at hu
    split at hu
    ·cases hu
     exact hd q hq _ (List.mem_singleton.2 rfl) hqr
    ·cases hu
 ·rfl
theorem Inv.part1 {e0 : Env} {u1 : Ups} (I : Inv B Fz (apply u1 e0) (tmOf B a) w ob S) (hF : Frz e0 u1) {t : TypeId} {x : Operand} {new : List PV} {u : Ups}
  (h : partS x (hint P t x (res e0 x)) = some (new, u)) (hd : ∀ q ∈ u1, ∀ q' ∈ u, q.1 ≠ q'.1) :
  ∃ Fz' ob', Inv B Fz' (apply (u1 ++ u) e0) (tmOf B a) w ob' S ∧ (∀ b, Fz b → Fz' b) ∧ ImmL w Fz' (a.eval x).cells.toList new ∧ Frz e0 (u1 ++ u) ∧
   (∀ s, (∀ q ∈ u, q.1 ≠ s) → ob' s = ob s) := by
 rw [apply_append]
 rcases view_of_part h with ⟨sz, hv⟩ | ⟨cs, hv⟩ | hc
 ·
  have hres : res (apply u1 e0) x = res e0 x := by
   rcases hint_cases P t x (res e0 x) with hh | ⟨rfl, n, hh⟩
   ·rw [hh] at hv
    have h1 : opv e0 x = .nils sz := hv
    refine res_apply (fun s hx q hq hqs => ?_) (fun r hr => by rw [h1] at hr; cases hr)
    subst hx
    obtain ⟨pl, st, sz', xs, hrow⟩ := hF q hq
    rw [hqs] at hrow
    have h1 : e0 s = .nils sz := (tmp_val h1 (by simp)).2
    rcases rowIf_root hrow with ⟨_, _, _, he⟩ | ⟨_, _, he⟩ <;> rw [h1] at he <;> cases he
   ·rfl
  unfold partS at h
  rw [hv] at h
  cases h
  have hi := I.immH P t x (by rw [hres, hv]; rfl)
  rw [hres, hv] at hi
  exact ⟨Fz, ob, I, fun _ h => h, Plain.cellsL (.inl hi), by simpa [Frz] using hF, fun _ _ => rfl⟩
 ·have hne := hint_ne P t x (res e0 x) (by rw [hv]; rfl)
  rw [hne] at hv h
  have h1 : opv e0 x = .agg cs := hv
  have hres : res (apply u1 e0) x = res e0 x := by
   refine res_apply (fun s hx q hq hqs => ?_) (fun r hr => by rw [h1] at hr; cases hr)
   subst hx
   obtain ⟨pl, st, sz', xs, hrow⟩ := hF q hq
   rw [hqs] at hrow
   have h1 : e0 s = .agg cs := (tmp_val h1 (by simp)).2
   rcases rowIf_root hrow with ⟨_, _, _, he⟩ | ⟨_, _, he⟩ <;> rw [h1] at he <;> cases he
  unfold partS at h
  rw [hv] at h
  cases h
  obtain ⟨arr, h2, h3⟩ := I.agg (by rw [hres]; exact hv)
  refine ⟨Fz, ob, I, fun _ h => h, ?_, by simpa [Frz] using hF, fun _ _ => rfl⟩
  rw [h2]; exact h3
 ·unfold PE.cellsFrozen at hc
  split at hc
  ·rename_i v u' hv hu
   cases hc
   have hres := frozen_apart (P := P) hF rfl hv hu hd
   obtain ⟨Fz', ob', I', h1, h2, h3, h4⟩ := I.frozen (t := t) (by rw [hres]; exact hv) (by rw [hres]; exact hu)
   refine ⟨Fz', ob', I', h1, h2.cellsL, ?_, fun s hs => (h3 s hs).1⟩
   intro q hq
   rcases List.mem_append.1 hq with hq | hq
   ·exact hF q hq
   ·rcases h4 with rfl | ⟨r, c, rfl, _, pl, st, sz, xs, hrow, _⟩
    ·cases hq
    ·simp only [List.mem_singleton] at hq
     subst hq
     have hr : apply u1 e0 r = e0 r := apply_other u1 e0 r fun q' hq' => hd q' hq' _ (List.mem_singleton.2 rfl)
     rw [hr] at hrow
     exact ⟨pl, st, sz, xs, hrow⟩
  ·cases hc
theorem foldl_set_cells : ∀ (l : List Value) (o : Nat) (i : Nat) (cs : Array Value), o + i + l.length ≤ cs.size →
  ((l.zipIdx i).foldl (fun cs (c, j) => cs.setIfInBounds (o + j) c) cs).toList = cs.toList.take (o + i) ++ l ++ cs.toList.drop (o + i + l.length)
 | [], o, i, cs, _ => by simp
 | v :: l, o, i, cs, h => by
  simp only [List.zipIdx_cons, List.foldl_cons]
  simp only [List.length_cons] at h
  rw [foldl_set_cells l o (i + 1) _ (by simp; omega)]
  rw [Array.toList_setIfInBounds]
  have := list_seg_step cs.toList (o + i) v l (by simp; omega)
  rw [show o + (i + 1) = o + i + 1 from by omega, this]
  simp only [List.length_cons]
theorem ImmL.splice {vs vs' : List Value} {ps ps' : List PV} (h : ImmL w Fz vs ps) (h' : ImmL w Fz vs' ps') (o : Nat) (hl : o + ps'.length ≤ ps.length) :
  ImmL w Fz (vs.take o ++ vs' ++ vs.drop (o + vs'.length)) (PE.splice ps ps' o) := by
 have h1 := h.1
 have h2 := h'.1
 refine ⟨by simp [PE.splice]; omega, fun i v q hv hq => ?_⟩
 rw [splice_getElem? _ _ _ _ hl] at hq
 rw [List.append_assoc, List.getElem?_append, List.length_take, Nat.min_eq_left (by omega)] at hv
 split at hq
 ·rename_i hi
  rw [if_pos hi, List.getElem?_take, if_pos hi] at hv
  exact h.2 i v q hv hq
 ·rename_i hi
  rw [if_neg hi, List.getElem?_append] at hv
  split at hq
  ·rw [if_pos (by omega)] at hv
   exact h'.2 _ v q hv hq
  ·rw [if_neg (by omega), List.getElem?_drop, show o + vs'.length + (i - o - vs'.length) = i from by omega] at hv
   exact h.2 i v q hv hq
theorem Inv.buildS {e0 : Env} (place : Nat → Option (Nat × Nat × TypeId)) (rs : TypeId → Operand → PV × PV) (hrs : ∀ t x, ∃ t', rs t x = hint P t' x (res e0 x))
  (pm : Nat → Option (Nat × Nat)) (hpm : ∀ i o n t, place i = some (o, n, t) → pm i = some (o, n)) :
  ∀ (l : List (Nat × Operand)) (cells : List PV) (arr : Array Value) (u1 : Ups) (Fz : Nat → Prop) (ob : Nat → List Nat) (cs : List PV) (us : Ups),
  Inv B Fz (apply u1 e0) (tmOf B a) w ob S → Frz e0 u1 → ImmL w Fz arr.toList cells → PE.buildS place rs l cells = some (cs, us) → ((u1 ++ us).map (·.1)).Nodup →
  ∃ Fz' ob' arr', Inv B Fz' (apply (u1 ++ us) e0) (tmOf B a) w ob' S ∧ (∀ b, Fz b → Fz' b) ∧ Instr.fill pm arr (l.map fun q => (q.1, a.eval q.2)) = some arr' ∧ ImmL w Fz' arr'.toList cs
 | [], cells, arr, u1, Fz, ob, cs, us, I, hF, hi, h, hnd => by
  simp only [PE.buildS, Option.some.injEq, Prod.mk.injEq] at h
  obtain ⟨rfl, rfl⟩ := h
  rw [List.append_nil]
  exact ⟨Fz, ob, arr, I, fun _ h => h, rfl, hi⟩
 | (i, x) :: l, cells, arr, u1, Fz, ob, cs, us, I, hF, hi, h, hnd => by
  simp only [PE.buildS] at h
  split at h
  ·cases h
  ·rename_i o n t hp
   split at h
   ·cases h
   ·rename_i new u hpart
    split at h
    ·rename_i hc
     obtain ⟨rfl, hl⟩ := hc
     split at h
     ·rename_i cs' us' hrest
      simp only [Option.some.injEq, Prod.mk.injEq] at h
      obtain ⟨rfl, rfl⟩ := h
      obtain ⟨t', ht'⟩ := hrs t x
      rw [ht'] at hpart
      have hd : ∀ q ∈ u1, ∀ q' ∈ u, q.1 ≠ q'.1 := by
       intro q hq q' hq' hqq
       rw [List.map_append, List.nodup_append] at hnd
       exact hnd.2.2 q.1 (List.mem_map.2 ⟨q, hq, rfl⟩) q'.1 (List.mem_map.2 ⟨q', List.mem_append.2 (.inl hq'), rfl⟩) hqq
      obtain ⟨Fz1, ob1, I1, hF1, hn1, hFr1, _⟩ := I.part1 hF hpart hd
      have hnl := hn1.1
      have hal := hi.1
      have hsp := (hi.mono hF1 (fun _ _ => rfl)).splice hn1 o hl
      have hfold := foldl_set_cells (a.eval x).cells.toList o 0 arr (by rw [Array.length_toList] at hal; omega)
      rw [Nat.add_zero] at hfold
      rw [← hfold] at hsp
      obtain ⟨Fz2, ob2, arr2, I2, hF2, hfill, hi2⟩ := Inv.buildS place rs hrs pm hpm l _ _ (u1 ++ u) Fz1 ob1 _ _ I1 hFr1 hsp hrest (by rw [List.append_assoc]; exact hnd)
      rw [List.append_assoc] at I2
      refine ⟨Fz2, ob2, arr2, I2, fun b hb => hF2 b (hF1 b hb), ?_, hi2⟩
      rw [List.map_cons, Instr.fill, hpm i o _ t hp]
      have hs1 : (a.eval x).cells.size = new.length := by rw [← hnl, Array.length_toList]
      have hs2 : ¬ (o + (a.eval x).cells.size > arr.size) := by rw [Array.length_toList] at hal; omega
      simp only
      rw [if_neg (by rw [hs1] at hs2 ⊢; simp; omega), ← Array.foldl_toList, Array.toList_zipIdx]
      exact hfill
     ·cases h
    ·cases h
end
end Go.PE
namespace Go.PE
open Go.RowKit
section
variable {P : Program} {B : Base} {Fz : Nat → Prop} {e : Env} {a : Act} {tm : Tm} {w : World} {ob : Nat → List Nat} {S S' : Stamp → Prop} {p : Stamp}
theorem apply_snoc (u : Ups) (d : Nat) (v : PV) (e : Env) : apply (u ++ [(d, v)]) e = upd (apply u e) d v := by rw [apply_append]; rfl
theorem frz_nil (e : Env) : Frz e [] := fun _ h => by cases h
theorem noHint (P : Program) {t : TypeId} (h : rowT P t = none) (x : Operand) (vr : PV × PV) : hint P t x vr = vr := by
 unfold hint
 split
 ·rw [h]
 ·rfl
theorem out_build (I : Inv B Fz e (tmOf B a) w ob S) {o : Oper} {d : Nat} {t : TypeId} {parts : Array (Nat × Operand)} (ho : o.op = .build t parts) {zs : List PV} (hz : zeroT P t = some zs)
  {cs : List PV} {u : Ups} (h : buildP P t parts.toList (res e) zs = some (cs, u)) (hnd : nodupB ((u.map (·.1)) ++ [d]) = true) : Out P B e a w S p o d (u ++ [(d, .agg cs)]) := by
 obtain ⟨i, z, hi, hz', hf⟩ := zeroT_spec hz
 obtain ⟨h1, h2⟩ := zero_imm (w := w) (Fz := Fz) hf
 rw [nodupB_iff, List.nodup_append] at hnd
 have hmap : (parts.map fun (i, x) => (i, a.eval x)).toList = parts.toList.map fun q => (q.1, a.eval q.2) := by simp
 rw [Out, apply_snoc]
 unfold buildP at h
 split at h
 ·rename_i len n ag harr
  have ht0 : rowT P t = none := by
   unfold arrT at harr
   split at harr
   ·rename_i hu; simp [rowT, elemT, hu]
   ·cases harr
  obtain ⟨Fz', ob', arr', I', _, hfill, hi'⟩ := Inv.buildS (P := P) (e0 := e) (fun i => if i < len then some (i * n, n, t) else none) (fun _ x => res e x)
   (fun _ x => ⟨t, (noHint P ht0 x (res e x)).symm⟩) (fun i => some (i * n, n))
   (fun i o n' t' h => by
    split at h
    ·simp only [Option.some.injEq, Prod.mk.injEq] at h; rw [h.1, h.2.1]
    ·cases h) parts.toList zs z.cells [] Fz ob cs u I (frz_nil e) h1 h (by simpa using hnd.1)
  refine ⟨_, w, Fz', _, ?_, I'.putPlain d (.agg arr') (.agg cs) (.inr ⟨_, _, rfl, rfl, hi'⟩)⟩
  unfold arrT at harr
  split at harr
  ·rename_i len' el hu
   split at harr
   ·rename_i n' a' hs _
    simp only [Option.some.injEq, Prod.mk.injEq] at harr
    obtain ⟨rfl, rfl, rfl⟩ := harr
    obtain ⟨ie, hie, rfl⟩ := Option.map_eq_some_iff.1 hs
    have hb : P.built t (parts.map fun (i, x) => (i, a.eval x)).toList = some arr' := by
     rw [hmap]
     simp only [Program.built, hi, hu, hz', hie]
     exact hfill
    simp only [execOp, ho, Sem.run_bind, run_build w t _ arr' hb, Result.andThen_ok, Sem.run_pure]
   ·cases harr
  ·cases harr
 ·split at h
  ·rename_i l hl
   unfold placesT at hl
   split at hl
   ·rename_i fs hu
    split at hl
    ·rename_i places hp
     cases hl
     obtain ⟨Fz', ob', arr', I', _, hfill, hi'⟩ := Inv.buildS (P := P) (e0 := e) (fun i => ((places.zip (fs.toList.map (·.type))).map fun q => (q.1.1, q.1.2, q.2))[i]?) (fun t x => hint P t x (res e x)) (fun t x => ⟨t, rfl⟩) (fun i => places.toArray[i]?)
      (fun i o n' t' h => by
       simp only [List.getElem?_map] at h
       obtain ⟨q, hq, hq'⟩ := Option.map_eq_some_iff.1 h
       simp only [Prod.mk.injEq] at hq'
       obtain ⟨rfl, rfl, rfl⟩ := hq'
       rw [List.getElem?_zip_eq_some] at hq
       simp [hq.1]) parts.toList zs z.cells [] Fz ob cs u I (frz_nil e) h1 h (by simpa using hnd.1)
     refine ⟨_, w, Fz', _, ?_, I'.putPlain d (.agg arr') (.agg cs) (.inr ⟨_, _, rfl, rfl, hi'⟩)⟩
     have hb : P.built t (parts.map fun (i, x) => (i, a.eval x)).toList = some arr' := by
      rw [hmap]
      simp only [Program.built, hi, hu, hz', hp]
      exact hfill
     simp only [execOp, ho, Sem.run_bind, run_build w t _ arr' hb, Result.andThen_ok, Sem.run_pure]
    ·cases hl
   ·cases hl
  ·cases h
theorem out_box (I : Inv B Fz e (tmOf B a) w ob S) (hp : ¬ S p) {o : Oper} {d : Nat} {t : TypeId} {x : Operand} (ho : o.op = .box t x) {cs : List PV} {u : Ups}
  (h : partS x (hint P t x (res e x)) = some (cs, u))  : Out P B e a w S p o d (u ++ [(d, .box p cs)]) := by
 obtain ⟨Fz', ob', I', _, hi, _, _⟩ := Inv.part1 (u1 := []) (e0 := e) I (frz_nil e) h (by simp)
 rw [List.nil_append] at I'
 rw [Out, apply_snoc]
 refine ⟨_, _, Fz', _, ?_, I'.newBox hp d hi t⟩
 simp only [execOp, ho, Sem.run_bind, Instr.box, newVar, newRow, run_newObj, Result.andThen_ok, Sem.run_pure]
 rfl
end
end Go.PE
namespace Go.PE
open Go.RowKit
section
variable {P : Program} {B : Base} {Fz : Nat → Prop} {e : Env} {a : Act} {tm : Tm} {w : World} {ob : Nat → List Nat} {S S' : Stamp → Prop} {p : Stamp}
structure Flat (w : World) (Fz : Nat → Prop) (arr : List Value) (n : Nat) (xs : List (List PV)) : Prop where
 len : ∀ x ∈ xs, x.length = n
 fit : xs.length * n ≤ arr.length
 cell : ∀ i j q, cell2 xs i j = some q → ∃ v, arr[i * n + j]? = some v ∧ Imm w Fz v q
theorem Flat.mono {w' : World} {Fz' : Nat → Prop} {arr : List Value} {n : Nat} {xs : List (List PV)} (h : Flat w Fz arr n xs) (hF : ∀ b, Fz b → Fz' b)
  (hw : ∀ b, Fz b → w'.heap[b]? = w.heap[b]?) : Flat w' Fz' arr n xs :=
 ⟨h.len, h.fit, fun i j q hq => by obtain ⟨v, h1, h2⟩ := h.cell i j q hq; exact ⟨v, h1, h2.mono hF hw⟩⟩
theorem cell2_len {xs : List (List PV)} {n : Nat} (h : ∀ x ∈ xs, x.length = n) {i j : Nat} {q : PV} (hq : cell2 xs i j = some q) : i < xs.length ∧ j < n := by
 unfold cell2 at hq
 obtain ⟨x, hx, hq⟩ := Option.bind_eq_some_iff.1 hq
 have h1 := (List.getElem?_eq_some_iff.1 hx).1
 have h2 := (List.getElem?_eq_some_iff.1 hq).1
 rw [h x (List.mem_of_getElem? hx)] at h2
 exact ⟨h1, h2⟩
theorem Flat.set {arr : List Value} {n : Nat} {xs : List (List PV)} (h : Flat w Fz arr n xs) {i : Nat} (hi : i < xs.length) {vs : List Value} {new : List PV} (hn : new.length = n)
  (hnew : ImmL w Fz vs new) : Flat w Fz (arr.take (i * n) ++ vs ++ arr.drop (i * n + vs.length)) n (xs.set i new) := by
 have hlv := hnew.1
 have hfit := h.fit
 have hin : i * n + n ≤ arr.length := by
  have := Nat.mul_le_mul_right n (show i + 1 ≤ xs.length from hi)
  rw [Nat.add_mul] at this
  omega
 refine ⟨fun x hx => ?_, by simp; omega, fun i' j q hq => ?_⟩
 ·rcases List.mem_or_eq_of_mem_set hx with hx | rfl
  ·exact h.len x hx
  ·exact hn
 ·have hj : j < n := (cell2_len (n := n) (fun x hx => by
   rcases List.mem_or_eq_of_mem_set hx with hx | rfl
   ·exact h.len x hx
   ·exact hn) hq).2
  rw [cell2_set hi] at hq
  have hA := arith_cells (i := i) (i' := i') (j := j) (sz := n) (k := 0) (m := n) (by omega) hj
  rw [List.append_assoc, List.getElem?_append, List.length_take, Nat.min_eq_left (by omega)]
  by_cases hii : i' = i
  ·subst hii
   rw [if_pos rfl] at hq
   rw [if_neg (by omega), List.getElem?_append, if_pos (by omega), show i' * n + j - i' * n = j from by omega]
   exact ⟨vs[j]'(by omega), List.getElem?_eq_getElem (by omega), hnew.2 j _ _ (List.getElem?_eq_getElem (by omega)) hq⟩
  ·rw [if_neg hii] at hq
   have hA' : ¬ (i * n + 0 ≤ i' * n + j ∧ i' * n + j < i * n + 0 + n) := fun hh => hii (hA.1 hh).1
   obtain ⟨v, h1, h2⟩ := h.cell i' j q hq
   refine ⟨v, ?_, h2⟩
   by_cases hlt : i' * n + j < i * n
   ·rw [if_pos hlt, List.getElem?_take, if_pos hlt]; exact h1
   ·rw [if_neg hlt, List.getElem?_append, if_neg (by omega), List.getElem?_drop, show i * n + vs.length + (i' * n + j - i * n - vs.length) = i' * n + j from by omega]; exact h1
theorem Flat.zeros {z : Array Value} {zs : List PV} (hz : ImmL w Fz z.toList zs) (l c : Nat) (hlc : l ≤ c) :
  Flat w Fz (madeCells z (c * zs.length)).toList zs.length (List.replicate l (zs.map frzC)) := by
 have hzl := hz.1
 refine ⟨fun x hx => by rw [List.eq_of_mem_replicate hx]; simp, ?_, fun i j q hq => ?_⟩
 ·simp [madeCells]; exact Nat.mul_le_mul_right _ hlc
 ·have hij := cell2_len (n := zs.length) (fun x hx => by rw [List.eq_of_mem_replicate hx]; simp) hq
  simp only [List.length_replicate] at hij
  unfold cell2 at hq
  rw [List.getElem?_replicate, if_pos hij.1] at hq
  simp only [Option.bind_some, List.getElem?_map] at hq
  obtain ⟨q', hq', rfl⟩ := Option.map_eq_some_iff.1 hq
  have hlt : i * zs.length + j < c * zs.length := by
   have := Nat.mul_le_mul_right zs.length (show i + 1 ≤ c by omega)
   rw [Nat.add_mul] at this
   omega
  have hsz : z.size = zs.length := by rw [← hzl]; simp
  have hmod : (i * zs.length + j) % z.size = j := by
   rw [hsz, Nat.mul_comm, Nat.mul_add_mod, Nat.mod_eq_of_lt hij.2]
  refine ⟨z[j]'(by omega), ?_, (hz.2 j _ _ (by simp [hsz, hij.2]) hq').frzC⟩
  simp only [madeCells, Array.toList_map, List.getElem?_map, Array.toList_range, List.getElem?_range hlt, Option.map_some, hmod]
  rw [getElem!_pos z j (by omega)]
theorem Inv.newRow (I : Inv B Fz e tm w ob S) (hp : ¬ S p) (d : Nat) {w' : World} (hos : w'.os = w.os) (htape : w'.tape = w.tape) (hout : w'.output = w.output)
  (hsz : w'.heap.size = w.heap.size + 1) (hold : ∀ b, b < w.heap.size → w'.heap[b]? = w.heap[b]?)
  {arr : Array Value} {n : Nat} {xs : List (List PV)} (h : Flat w Fz arr.toList n xs) {cap : Nat} (hc : xs.length ≤ cap) (hm : cap ≤ maxLen) (hs : arr.size = cap * n) (t : TypeId)
  (hg : w'.heap[w.heap.size]? = some (.cells arr t (0, 0))) :
  Inv B Fz (upd e d (.own p n xs)) (upd tm d (.slice (some ⟨w.heap.size, 0, none⟩) xs.length cap)) w' (upd ob d [w.heap.size]) (fun st => S st ∨ st = p) := by
 refine I.put1 d _ _ [w.heap.size] (fun _ h => .inl h) hos htape hout (by omega) hold (by simp; omega) (by simp) ?_ ?_ ?_
 ·intro st hs; exact .inr (by simpa [stampsOf, stamps1] using hs)
 ·intro st hs hS
  have : st = p := by simpa [stamps1] using hs
  exact hp (this ▸ hS)
 ·rw [if_neg (by simp [isRef])]
  refine .own w.heap.size xs.length cap arr t p n xs (fun i j => arr.toList.getD (i * n + j) undef) hg rfl hc hm hs h.len ?_ ?_
  ·intro i j q hq
   obtain ⟨v, h1, _⟩ := h.cell i j q hq
   have : arr[i * n + j]? = some v := by simpa using h1
   rw [this]
   simp [List.getD, h1]
  ·intro i j q hq
   obtain ⟨v, h1, h2⟩ := h.cell i j q hq
   have : arr.toList.getD (i * n + j) undef = v := by simp [List.getD, h1]
   rw [this]
   exact h2.mono (fun _ h => h) fun b hb => hold b (I.fzlt b hb)
theorem Inv.elemsS {e0 : Env} (n : Nat) (t : TypeId) :
  ∀ (l : List (Nat × Operand)) (xs : List (List PV)) (arr : Array Value) (u1 : Ups) (Fz : Nat → Prop) (ob : Nat → List Nat) (ys : List (List PV)) (us : Ups),
  Inv B Fz (apply u1 e0) (tmOf B a) w ob S → Frz e0 u1 → Flat w Fz arr.toList n xs → PE.elemsS n (fun x => hint P t x (res e0 x)) l xs = some (ys, us) → ((u1 ++ us).map (·.1)).Nodup →
  ∃ Fz' ob' arr', Inv B Fz' (apply (u1 ++ us) e0) (tmOf B a) w ob' S ∧ (∀ b, Fz b → Fz' b) ∧ Instr.fill (fun i => some (i * n, n)) arr (l.map fun q => (q.1, a.eval q.2)) = some arr' ∧
   Flat w Fz' arr'.toList n ys ∧ arr'.size = arr.size ∧ ys.length = xs.length
 | [], xs, arr, u1, Fz, ob, ys, us, I, hF, hi, h, hnd => by
  simp only [PE.elemsS, Option.some.injEq, Prod.mk.injEq] at h
  obtain ⟨rfl, rfl⟩ := h
  rw [List.append_nil]
  exact ⟨Fz, ob, arr, I, fun _ h => h, rfl, hi, rfl, rfl⟩
 | (i, x) :: l, xs, arr, u1, Fz, ob, ys, us, I, hF, hi, h, hnd => by
  simp only [PE.elemsS] at h
  split at h
  ·cases h
  ·rename_i new u hpart
   split at h
   ·rename_i hc
    obtain ⟨rfl, hl⟩ := hc
    split at h
    ·rename_i ys' us' hrest
     simp only [Option.some.injEq, Prod.mk.injEq] at h
     obtain ⟨rfl, rfl⟩ := h
     have hd : ∀ q ∈ u1, ∀ q' ∈ u, q.1 ≠ q'.1 := by
      intro q hq q' hq' hqq
      rw [List.map_append, List.nodup_append] at hnd
      exact hnd.2.2 q.1 (List.mem_map.2 ⟨q, hq, rfl⟩) q'.1 (List.mem_map.2 ⟨q', List.mem_append.2 (.inl hq'), rfl⟩) hqq
     obtain ⟨Fz1, ob1, I1, hF1, hn1, hFr1⟩ : ∃ Fz' ob', Inv B Fz' (apply (u1 ++ u) e0) (tmOf B a) w ob' S ∧ (∀ b, Fz b → Fz' b) ∧ ImmL w Fz' (a.eval x).cells.toList new ∧ Frz e0 (u1 ++ u) := by
      rw [apply_append]
      unfold PE.cellsFrozen at hpart
      split at hpart
      ·rename_i v u' hv hu
       cases hpart
       have hres := frozen_apart (P := P) hF rfl hv hu hd
       obtain ⟨Fz', ob', I', h1, h2, _, h4⟩ := I.frozen (t := t) (by rw [hres]; exact hv) (by rw [hres]; exact hu)
       refine ⟨Fz', ob', I', h1, h2.cellsL, ?_⟩
       intro q hq
       rcases List.mem_append.1 hq with hq | hq
       ·exact hF q hq
       ·rcases h4 with rfl | ⟨r, c, rfl, _, pl, st, sz, xs, hrow, _⟩
        ·cases hq
        ·simp only [List.mem_singleton] at hq
         subst hq
         have hr : apply u1 e0 r = e0 r := apply_other u1 e0 r fun q' hq' => hd q' hq' _ (List.mem_singleton.2 rfl)
         rw [hr] at hrow
         exact ⟨pl, st, sz, xs, hrow⟩
      ·cases hpart
     have hnl := hn1.1
     have hfit := hi.fit
     have har : arr.toList.length = arr.size := Array.length_toList
     have hin : i * new.length + new.length ≤ arr.toList.length := by
      have := Nat.mul_le_mul_right new.length (show i + 1 ≤ xs.length from hl)
      rw [Nat.add_mul] at this
      omega
     have hsp := (hi.mono hF1 (fun _ _ => rfl)).set hl rfl hn1
     have hfold := foldl_set_cells (a.eval x).cells.toList (i * new.length) 0 arr (by omega)
     rw [Nat.add_zero] at hfold
     rw [← hfold] at hsp
     obtain ⟨Fz2, ob2, arr2, I2, hF2, hfill, hi2, hsz2, hlen2⟩ := Inv.elemsS new.length t l _ _ (u1 ++ u) Fz1 ob1 _ _ I1 hFr1 hsp hrest (by rw [List.append_assoc]; exact hnd)
     rw [List.append_assoc] at I2
     refine ⟨Fz2, ob2, arr2, I2, fun b hb => hF2 b (hF1 b hb), ?_, hi2, ?_, by rw [hlen2]; simp⟩
     ·rw [List.map_cons, Instr.fill]
      have hs1 : (a.eval x).cells.size = new.length := by rw [← hnl, Array.length_toList]
      have hs2 : ¬ (i * new.length + (a.eval x).cells.size > arr.size) := by omega
      simp only
      rw [if_neg (by rw [hs1] at hs2 ⊢; simp; omega), ← Array.foldl_toList, Array.toList_zipIdx]
      exact hfill
     ·rw [hsz2, ← Array.length_toList, hfold]
      simp only [List.length_append, List.length_take, List.length_drop]
      omega
    ·cases h
   ·cases h
theorem run_buildSlice_own {t el : TypeId} {inf : TypeInfo} {z : Value} (hu : P.underlying t = some (.slice el)) (hinf : P.info? el = some inf) (hz : inf.zero = some z) {len : Nat}
  (hle : len * inf.size ≤ 16777216) {parts : Array (Nat × Value)} {arr : Array Value} (hfill : Instr.fill (fun i => some (i * inf.size, inf.size)) (madeCells z.cells (len * inf.size)) parts.toList = some arr) :
  (Instr.buildSlice t len parts).run P w = .ok (.slice (some ⟨w.heap.size, 0, none⟩) len len) (w.alloc (.cells arr el)) := by
 have hso : (sizeOf el).run P w = .ok inf.size w := by simp [sizeOf, typeInfo, hinf]
 have hzo : (zeroValue el).run P w = .ok z w := by simp [zeroValue, typeInfo, hinf, hz]
 have hpos : ¬ (len * inf.size > 2 ^ 24) := by omega
 unfold Instr.buildSlice
 simp only [Sem.run_bind, run_underlying hu, Result.andThen_ok, hso]
 rw [if_neg hpos]
 by_cases h0 : len * inf.size = 0
 ·simp only [h0, if_true, Sem.run_bind, Sem.run_pure, Result.andThen_ok]
  have e1 : (Array.range 0).map (fun x => (#[] : Array Value)[x % (#[] : Array Value).size]!) = madeCells z.cells (len * inf.size) := by rw [h0]; simp [madeCells]
  rw [e1, hfill]
  simp only [Sem.run_bind, newRow, run_newObj, Result.andThen_ok, Sem.run_pure]
  rfl
 ·simp only [h0, if_false, Sem.run_bind, hzo, Sem.run_pure, Result.andThen_ok]
  have e1 : (Array.range (len * inf.size)).map (fun x => z.cells[x % z.cells.size]!) = madeCells z.cells (len * inf.size) := rfl
  rw [e1, hfill]
  simp only [Sem.run_bind, newRow, run_newObj, Result.andThen_ok, Sem.run_pure]
  rfl
theorem out_buildSlice (I : Inv B Fz e (tmOf B a) w ob S) (hp : ¬ S p) {o : Oper} {d : Nat} {t el : TypeId} {len : Nat} {parts : Array (Nat × Operand)} (ho : o.op = .buildSlice t len parts)
  {n b : Nat} (ht : rowT P t = some (n, b)) (hel : elemT P t = some el) {zs : List PV} (hz : zeroT P el = some zs) (hc : len * n ≤ 16777216 ∧ 0 < n ∧ zs.length = n)
  {xs : List (List PV)} {u : Ups} (h : PE.elemsS n (fun x => hint P el x (res e x)) parts.toList (List.replicate len (zs.map frzC)) = some (xs, u)) (hnd : nodupB ((u.map (·.1)) ++ [d]) = true) :
  Out P B e a w S p o d (u ++ [(d, .own p n xs)]) := by
 obtain ⟨el', hu, hel', inf, hinf, rfl, rfl⟩ := rowT_spec ht
 obtain rfl : el' = el := Option.some.inj (hel'.symm.trans hel)
 obtain ⟨i, z, hi, hz', hf⟩ := zeroT_spec hz
 rw [hinf] at hi
 cases hi
 obtain ⟨h1, h2⟩ := zero_imm (w := w) (Fz := Fz) hf
 rw [nodupB_iff, List.nodup_append] at hnd
 obtain ⟨hc1, hc2, hc3⟩ := hc
 have hflat := Flat.zeros (z := z.cells) h1 len len (Nat.le_refl _)
 rw [hc3] at hflat
 obtain ⟨Fz', ob', arr', I', _, hfill, hfl, hsz, hlen⟩ := Inv.elemsS (P := P) (e0 := e) inf.size el' parts.toList _ (madeCells z.cells (len * inf.size)) [] Fz ob xs u I (frz_nil e) hflat h (by simpa using hnd.1)
 rw [List.nil_append] at I'
 rw [List.length_replicate] at hlen
 rw [size_madeCells] at hsz
 have hlm : len ≤ maxLen := by
  have := Nat.le_mul_of_pos_right len hc2
  simp only [maxLen]; omega
 rw [Out, apply_snoc]
 refine ⟨_, _, Fz', _, ?_, I'.newRow hp d (w' := w.alloc (.cells arr' el')) rfl rfl rfl (by simp) (fun b hb => alloc_heap_old w _ b hb) hfl (cap := len) (by omega) hlm (by omega) el' (alloc_heap_new w _)⟩
 have hmap : (parts.map fun (i, x) => (i, a.eval x)).toList = parts.toList.map fun q => (q.1, a.eval q.2) := by simp
 have hr := run_buildSlice_own (P := P) (w := w) hu hinf hz' (by omega) (parts := parts.map fun (i, x) => (i, a.eval x)) (by rw [hmap]; exact hfill)
 rw [hlen]
 simp only [execOp, ho, Sem.run_bind, hr, Result.andThen_ok, Sem.run_pure]
theorem out_makeSlice (I : Inv B Fz e (tmOf B a) w ob S) (hp : ¬ S p) {o : Oper} {d : Nat} {t el : TypeId} {l c : Operand} (ho : o.op = .makeSlice t l c)
  {n b : Nat} (ht : rowT P t = some (n, b)) (hel : elemT P t = some el) {zs : List PV} (hz : zeroT P el = some zs) {kl kc : IntKind} {nl nc : Int} (hl : (res e l).1 = .int kl nl) (hcv : (res e c).1 = .int kc nc)
  (hc : 0 ≤ nl ∧ nl ≤ nc ∧ nc * b ≤ 140737488355328 ∧ nc ≤ 140737488355328 ∧ 0 < n ∧ zs.length = n) :
  Out P B e a w S p o d [(d, .own p n (List.replicate nl.toNat (zs.map frzC)))] := by
 obtain ⟨el', hu, hel', inf, hinf, rfl, rfl⟩ := rowT_spec ht
 obtain rfl : el' = el := Option.some.inj (hel'.symm.trans hel)
 obtain ⟨i, z, hi, hz', hf⟩ := zeroT_spec hz
 rw [hinf] at hi
 cases hi
 obtain ⟨h1, h2⟩ := zero_imm (w := w) (Fz := Fz) hf
 obtain ⟨c0, c1, c2, c3, c4, c5⟩ := hc
 have hflat := Flat.zeros (z := z.cells) h1 nl.toNat nc.toNat (by omega)
 rw [c5] at hflat
 have hr := run_make (P := P) w t el' inf z hu hinf hz' kl kc nl nc c0 c1 (by rw [Int.mul_comm]; omega) (by omega)
 have I' := I.newRow (p := p) hp d (w' := w.alloc (.cells (madeCells z.cells (nc.toNat * inf.size)) el')) rfl rfl rfl (by simp) (fun b hb => alloc_heap_old w _ b hb) hflat (cap := nc.toNat) (by simp; omega)
  (by simp only [maxLen]; omega) (size_madeCells _ _) el' (alloc_heap_new w _)
 rw [List.length_replicate] at I'
 refine out_of ?_ I'
 simp only [execOp, ho, Sem.run_bind, I.int hl, I.int hcv, hr, Result.andThen_ok, Sem.run_pure]
end
end Go.PE
