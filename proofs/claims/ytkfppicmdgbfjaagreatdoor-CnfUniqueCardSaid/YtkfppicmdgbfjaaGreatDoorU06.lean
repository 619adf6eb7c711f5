/-
  A part of the proof that the law's function returns true and leaves its arguments as they were, for every input (no condition): own lemmas of the proof, in the order of their use.
-/
import Derived.Test.YtkfppicmdgbfjaaGreatDoorU05
import Derived.Lib.AppendStr
set_option linter.all false
namespace Go.PE
open Go.RowKit
section
variable {P : Program} {B : Base} {Fz : Nat → Prop} {e : Env} {a : Act} {tm : Tm} {w : World} {ob : Nat → List Nat} {S S' : Stamp → Prop} {p : Stamp}
/-- Cells in a row, as elements. -/
structure Flat (w : World) (Fz : Nat → Prop) (arr : List Value) (n : Nat) (xs : List (List PV)) : Prop where
  len : ∀ x ∈ xs, x.length = n
  fit : xs.length * n ≤ arr.length
  cell : ∀ i j q, cell2 xs i j = some q → ∃ v, arr[i * n + j]? = some v ∧ Imm w Fz v q
theorem Flat.mono {w' : World} {Fz' : Nat → Prop} {arr : List Value} {n : Nat} {xs : List (List PV)} (h : Flat w Fz arr n xs) (hF : ∀ b, Fz b → Fz' b)
    (hw : ∀ b, Fz b → w'.heap[b]? = w.heap[b]?) : Flat w' Fz' arr n xs :=
  ⟨h.len, h.fit, fun i j q hq => by obtain ⟨v, h1, h2⟩ := h.cell i j q hq; exact ⟨v, h1, h2.mono hF hw⟩⟩
theorem cell2_len {xs : List (List PV)} {n : Nat} (h : ∀ x ∈ xs, x.length = n) {i j : Nat} {q : PV} (hq : cell2 xs i j = some q) : i < xs.length ∧ j < n := by
  unfold cell2 at hq
  obtain ⟨x, hx, hq⟩ := Option.bind_eq_some_iff.1 hq
  have h1 := (List.getElem?_eq_some_iff.1 hx).1
  have h2 := (List.getElem?_eq_some_iff.1 hq).1
  rw [h x (List.mem_of_getElem? hx)] at h2
  exact ⟨h1, h2⟩
theorem Flat.set {arr : List Value} {n : Nat} {xs : List (List PV)} (h : Flat w Fz arr n xs) {i : Nat} (hi : i < xs.length) {vs : List Value} {new : List PV} (hn : new.length = n)
    (hnew : ImmL w Fz vs new) : Flat w Fz (arr.take (i * n) ++ vs ++ arr.drop (i * n + vs.length)) n (xs.set i new) := by
  have hlv := hnew.1
  have hfit := h.fit
  have hin : i * n + n ≤ arr.length := by
    have := Nat.mul_le_mul_right n (show i + 1 ≤ xs.length from hi)
    rw [Nat.add_mul] at this
    omega
  refine ⟨fun x hx => ?_, by simp; omega, fun i' j q hq => ?_⟩
  · rcases List.mem_or_eq_of_mem_set hx with hx | rfl
    · exact h.len x hx
    · exact hn
  · have hj : j < n := (cell2_len (n := n) (fun x hx => by
      rcases List.mem_or_eq_of_mem_set hx with hx | rfl
      · exact h.len x hx
      · exact hn) hq).2
    rw [cell2_set hi] at hq
    have hA := arith_cells (i := i) (i' := i') (j := j) (sz := n) (k := 0) (m := n) (by omega) hj
    rw [List.append_assoc, List.getElem?_append, List.length_take, Nat.min_eq_left (by omega)]
    by_cases hii : i' = i
    · subst hii
      rw [if_pos rfl] at hq
      rw [if_neg (by omega), List.getElem?_append, if_pos (by omega), show i' * n + j - i' * n = j from by omega]
      exact ⟨vs[j]'(by omega), List.getElem?_eq_getElem (by omega), hnew.2 j _ _ (List.getElem?_eq_getElem (by omega)) hq⟩
    · rw [if_neg hii] at hq
      have hA' : ¬ (i * n + 0 ≤ i' * n + j ∧ i' * n + j < i * n + 0 + n) := fun hh => hii (hA.1 hh).1
      obtain ⟨v, h1, h2⟩ := h.cell i' j q hq
      refine ⟨v, ?_, h2⟩
      by_cases hlt : i' * n + j < i * n
      · rw [if_pos hlt, List.getElem?_take, if_pos hlt]; exact h1
      · rw [if_neg hlt, List.getElem?_append, if_neg (by omega), List.getElem?_drop, show i * n + vs.length + (i' * n + j - i * n - vs.length) = i' * n + j from by omega]; exact h1
/-- Zero values, one behind the other. -/
theorem Flat.zeros {z : Array Value} {zs : List PV} (hz : ImmL w Fz z.toList zs) (l c : Nat) (hlc : l ≤ c) :
    Flat w Fz (madeCells z (c * zs.length)).toList zs.length (List.replicate l (zs.map frzC)) := by
  have hzl := hz.1
  refine ⟨fun x hx => by rw [List.eq_of_mem_replicate hx]; simp, ?_, fun i j q hq => ?_⟩
  · simp [madeCells]; exact Nat.mul_le_mul_right _ hlc
  · have hij := cell2_len (n := zs.length) (fun x hx => by rw [List.eq_of_mem_replicate hx]; simp) hq
    simp only [List.length_replicate] at hij
    unfold cell2 at hq
    rw [List.getElem?_replicate, if_pos hij.1] at hq
    simp only [Option.bind_some, List.getElem?_map] at hq
    obtain ⟨q', hq', rfl⟩ := Option.map_eq_some_iff.1 hq
    have hlt : i * zs.length + j < c * zs.length := by
      have := Nat.mul_le_mul_right zs.length (show i + 1 ≤ c by omega)
      rw [Nat.add_mul] at this
      omega
    have hsz : z.size = zs.length := by rw [← hzl]; simp
    have hmod : (i * zs.length + j) % z.size = j := by
      rw [hsz, Nat.mul_comm, Nat.mul_add_mod, Nat.mod_eq_of_lt hij.2]
    refine ⟨z[j]'(by omega), ?_, (hz.2 j _ _ (by simp [hsz, hij.2]) hq').frzC⟩
    simp only [madeCells, Array.toList_map, List.getElem?_map, Array.toList_range, List.getElem?_range hlt, Option.map_some, hmod]
    rw [getElem!_pos z j (by omega)]
/-- A new row. -/
theorem Inv.newRow (I : Inv B Fz e tm w ob S) (hp : ¬ S p) (d : Nat) {w' : World} (hos : w'.os = w.os) (htape : w'.tape = w.tape) (hout : w'.output = w.output)
    (hsz : w'.heap.size = w.heap.size + 1) (hold : ∀ b, b < w.heap.size → w'.heap[b]? = w.heap[b]?)
    {arr : Array Value} {n : Nat} {xs : List (List PV)} (h : Flat w Fz arr.toList n xs) {cap : Nat} (hc : xs.length ≤ cap) (hm : cap ≤ maxLen) (hs : arr.size = cap * n) (t : TypeId)
    (hg : w'.heap[w.heap.size]? = some (.cells arr t (0, 0))) :
    Inv B Fz (upd e d (.own p n xs)) (upd tm d (.slice (some ⟨w.heap.size, 0, none⟩) xs.length cap)) w' (upd ob d [w.heap.size]) (fun st => S st ∨ st = p) := by
  refine I.put1 d _ _ [w.heap.size] (fun _ h => .inl h) hos htape hout (by omega) hold (by simp; omega) (by simp) ?_ ?_ ?_
  · intro st hs; exact .inr (by simpa [stampsOf, stamps1] using hs)
  · intro st hs hS
    have : st = p := by simpa [stamps1] using hs
    exact hp (this ▸ hS)
  · rw [if_neg (by simp [isRef])]
    refine .own w.heap.size xs.length cap arr t p n xs (fun i j => arr.toList.getD (i * n + j) undef) hg rfl hc hm hs h.len ?_ ?_
    · intro i j q hq
      obtain ⟨v, h1, _⟩ := h.cell i j q hq
      have : arr[i * n + j]? = some v := by simpa using h1
      rw [this]
      simp [List.getD, h1]
    · intro i j q hq
      obtain ⟨v, h1, h2⟩ := h.cell i j q hq
      have : arr.toList.getD (i * n + j) undef = v := by simp [List.getD, h1]
      rw [this]
      exact h2.mono (fun _ h => h) fun b hb => hold b (I.fzlt b hb)
theorem Inv.elemsS {e0 : Env} (n : Nat) (t : TypeId) :
    ∀ (l : List (Nat × Operand)) (xs : List (List PV)) (arr : Array Value) (u1 : Ups) (Fz : Nat → Prop) (ob : Nat → List Nat) (ys : List (List PV)) (us : Ups),
    Inv B Fz (apply u1 e0) (tmOf B a) w ob S → Frz e0 u1 → Flat w Fz arr.toList n xs → PE.elemsS n (fun x => hint P t x (res e0 x)) l xs = some (ys, us) → ((u1 ++ us).map (·.1)).Nodup →
    ∃ Fz' ob' arr', Inv B Fz' (apply (u1 ++ us) e0) (tmOf B a) w ob' S ∧ (∀ b, Fz b → Fz' b) ∧ Instr.fill (fun i => some (i * n, n)) arr (l.map fun q => (q.1, a.eval q.2)) = some arr' ∧
      Flat w Fz' arr'.toList n ys ∧ arr'.size = arr.size ∧ ys.length = xs.length
  | [], xs, arr, u1, Fz, ob, ys, us, I, hF, hi, h, hnd => by
    simp only [PE.elemsS, Option.some.injEq, Prod.mk.injEq] at h
    obtain ⟨rfl, rfl⟩ := h
    rw [List.append_nil]
    exact ⟨Fz, ob, arr, I, fun _ h => h, rfl, hi, rfl, rfl⟩
  | (i, x) :: l, xs, arr, u1, Fz, ob, ys, us, I, hF, hi, h, hnd => by
    simp only [PE.elemsS] at h
    split at h
    · cases h
    · rename_i new u hpart
      split at h
      · rename_i hc
        obtain ⟨rfl, hl⟩ := hc
        split at h
        · rename_i ys' us' hrest
          simp only [Option.some.injEq, Prod.mk.injEq] at h
          obtain ⟨rfl, rfl⟩ := h
          have hd : ∀ q ∈ u1, ∀ q' ∈ u, q.1 ≠ q'.1 := by
            intro q hq q' hq' hqq
            rw [List.map_append, List.nodup_append] at hnd
            exact hnd.2.2 q.1 (List.mem_map.2 ⟨q, hq, rfl⟩) q'.1 (List.mem_map.2 ⟨q', List.mem_append.2 (.inl hq'), rfl⟩) hqq
          obtain ⟨Fz1, ob1, I1, hF1, hn1, hFr1⟩ : ∃ Fz' ob', Inv B Fz' (apply (u1 ++ u) e0) (tmOf B a) w ob' S ∧ (∀ b, Fz b → Fz' b) ∧ ImmL w Fz' (a.eval x).cells.toList new ∧ Frz e0 (u1 ++ u) := by
            rw [apply_append]
            unfold PE.cellsFrozen at hpart
            split at hpart
            · rename_i v u' hv hu
              cases hpart
              have hres := frozen_apart (P := P) hF rfl hv hu hd
              obtain ⟨Fz', ob', I', h1, h2, _, h4⟩ := I.frozen (t := t) (by rw [hres]; exact hv) (by rw [hres]; exact hu)
              refine ⟨Fz', ob', I', h1, h2.cellsL, ?_⟩
              intro q hq
              rcases List.mem_append.1 hq with hq | hq
              · exact hF q hq
              · rcases h4 with rfl | ⟨r, c, rfl, _, pl, st, sz, xs, hrow, _⟩
                · cases hq
                · simp only [List.mem_singleton] at hq
                  subst hq
                  have hr : apply u1 e0 r = e0 r := apply_other u1 e0 r fun q' hq' => hd q' hq' _ (List.mem_singleton.2 rfl)
                  rw [hr] at hrow
                  exact ⟨pl, st, sz, xs, hrow⟩
            · cases hpart
          have hnl := hn1.1
          have hfit := hi.fit
          have har : arr.toList.length = arr.size := Array.length_toList
          have hin : i * new.length + new.length ≤ arr.toList.length := by
            have := Nat.mul_le_mul_right new.length (show i + 1 ≤ xs.length from hl)
            rw [Nat.add_mul] at this
            omega
          have hsp := (hi.mono hF1 (fun _ _ => rfl)).set hl rfl hn1
          have hfold := foldl_set_cells (a.eval x).cells.toList (i * new.length) 0 arr (by omega)
          rw [Nat.add_zero] at hfold
          rw [← hfold] at hsp
          obtain ⟨Fz2, ob2, arr2, I2, hF2, hfill, hi2, hsz2, hlen2⟩ := Inv.elemsS new.length t l _ _ (u1 ++ u) Fz1 ob1 _ _ I1 hFr1 hsp hrest (by rw [List.append_assoc]; exact hnd)
          rw [List.append_assoc] at I2
          refine ⟨Fz2, ob2, arr2, I2, fun b hb => hF2 b (hF1 b hb), ?_, hi2, ?_, by rw [hlen2]; simp⟩
          · rw [List.map_cons, Instr.fill]
            have hs1 : (a.eval x).cells.size = new.length := by rw [← hnl, Array.length_toList]
            have hs2 : ¬ (i * new.length + (a.eval x).cells.size > arr.size) := by omega
            simp only
            rw [if_neg (by rw [hs1] at hs2 ⊢; simp; omega), ← Array.foldl_toList, Array.toList_zipIdx]
            exact hfill
          · rw [hsz2, ← Array.length_toList, hfold]
            simp only [List.length_append, List.length_take, List.length_drop]
            omega
        · cases h
      · cases h
theorem run_buildSlice_own {t el : TypeId} {inf : TypeInfo} {z : Value} (hu : P.underlying t = some (.slice el)) (hinf : P.info? el = some inf) (hz : inf.zero = some z) {len : Nat}
    (hle : len * inf.size ≤ 16777216) {parts : Array (Nat × Value)} {arr : Array Value} (hfill : Instr.fill (fun i => some (i * inf.size, inf.size)) (madeCells z.cells (len * inf.size)) parts.toList = some arr) :
    (Instr.buildSlice t len parts).run P w = .ok (.slice (some ⟨w.heap.size, 0, none⟩) len len) (w.alloc (.cells arr el)) := by
  have hso : (sizeOf el).run P w = .ok inf.size w := by simp [sizeOf, typeInfo, hinf]
  have hzo : (zeroValue el).run P w = .ok z w := by simp [zeroValue, typeInfo, hinf, hz]
  have hpos : ¬ (len * inf.size > 2 ^ 24) := by omega
  unfold Instr.buildSlice
  simp only [Sem.run_bind, run_underlying hu, Result.andThen_ok, hso]
  rw [if_neg hpos]
  by_cases h0 : len * inf.size = 0
  · simp only [h0, if_true, Sem.run_bind, Sem.run_pure, Result.andThen_ok]
    have e1 : (Array.range 0).map (fun x => (#[] : Array Value)[x % (#[] : Array Value).size]!) = madeCells z.cells (len * inf.size) := by rw [h0]; simp [madeCells]
    rw [e1, hfill]
    simp only [Sem.run_bind, newRow, run_newObj, Result.andThen_ok, Sem.run_pure]
    rfl
  · simp only [h0, if_false, Sem.run_bind, hzo, Sem.run_pure, Result.andThen_ok]
    have e1 : (Array.range (len * inf.size)).map (fun x => z.cells[x % z.cells.size]!) = madeCells z.cells (len * inf.size) := rfl
    rw [e1, hfill]
    simp only [Sem.run_bind, newRow, run_newObj, Result.andThen_ok, Sem.run_pure]
    rfl
theorem out_buildSlice (I : Inv B Fz e (tmOf B a) w ob S) (hp : ¬ S p) {o : Oper} {d : Nat} {t el : TypeId} {len : Nat} {parts : Array (Nat × Operand)} (ho : o.op = .buildSlice t len parts)
    {n b : Nat} (ht : rowT P t = some (n, b)) (hel : elemT P t = some el) {zs : List PV} (hz : zeroT P el = some zs) (hc : len * n ≤ 16777216 ∧ 0 < n ∧ zs.length = n)
    {xs : List (List PV)} {u : Ups} (h : PE.elemsS n (fun x => hint P el x (res e x)) parts.toList (List.replicate len (zs.map frzC)) = some (xs, u)) (hnd : nodupB ((u.map (·.1)) ++ [d]) = true) :
    Out P B e a w S p o d (u ++ [(d, .own p n xs)]) := by
  obtain ⟨el', hu, hel', inf, hinf, rfl, rfl⟩ := rowT_spec ht
  obtain rfl : el' = el := Option.some.inj (hel'.symm.trans hel)
  obtain ⟨i, z, hi, hz', hf⟩ := zeroT_spec hz
  rw [hinf] at hi
  cases hi
  obtain ⟨h1, h2⟩ := zero_imm (w := w) (Fz := Fz) hf
  rw [nodupB_iff, List.nodup_append] at hnd
  obtain ⟨hc1, hc2, hc3⟩ := hc
  have hflat := Flat.zeros (z := z.cells) h1 len len (Nat.le_refl _)
  rw [hc3] at hflat
  obtain ⟨Fz', ob', arr', I', _, hfill, hfl, hsz, hlen⟩ := Inv.elemsS (P := P) (e0 := e) inf.size el' parts.toList _ (madeCells z.cells (len * inf.size)) [] Fz ob xs u I (frz_nil e) hflat h (by simpa using hnd.1)
  rw [List.nil_append] at I'
  rw [List.length_replicate] at hlen
  rw [size_madeCells] at hsz
  have hlm : len ≤ maxLen := by
    have := Nat.le_mul_of_pos_right len hc2
    simp only [maxLen]; omega
  rw [Out, apply_snoc]
  refine ⟨_, _, Fz', _, ?_, I'.newRow hp d (w' := w.alloc (.cells arr' el')) rfl rfl rfl (by simp) (fun b hb => alloc_heap_old w _ b hb) hfl (cap := len) (by omega) hlm (by omega) el' (alloc_heap_new w _)⟩
  have hmap : (parts.map fun (i, x) => (i, a.eval x)).toList = parts.toList.map fun q => (q.1, a.eval q.2) := by simp
  have hr := run_buildSlice_own (P := P) (w := w) hu hinf hz' (by omega) (parts := parts.map fun (i, x) => (i, a.eval x)) (by rw [hmap]; exact hfill)
  rw [hlen]
  simp only [execOp, ho, Sem.run_bind, hr, Result.andThen_ok, Sem.run_pure]
theorem out_makeSlice (I : Inv B Fz e (tmOf B a) w ob S) (hp : ¬ S p) {o : Oper} {d : Nat} {t el : TypeId} {l c : Operand} (ho : o.op = .makeSlice t l c)
    {n b : Nat} (ht : rowT P t = some (n, b)) (hel : elemT P t = some el) {zs : List PV} (hz : zeroT P el = some zs) {kl kc : IntKind} {nl nc : Int} (hl : (res e l).1 = .int kl nl) (hcv : (res e c).1 = .int kc nc)
    (hc : 0 ≤ nl ∧ nl ≤ nc ∧ nc * b ≤ 140737488355328 ∧ nc ≤ 140737488355328 ∧ 0 < n ∧ zs.length = n) :
    Out P B e a w S p o d [(d, .own p n (List.replicate nl.toNat (zs.map frzC)))] := by
  obtain ⟨el', hu, hel', inf, hinf, rfl, rfl⟩ := rowT_spec ht
  obtain rfl : el' = el := Option.some.inj (hel'.symm.trans hel)
  obtain ⟨i, z, hi, hz', hf⟩ := zeroT_spec hz
  rw [hinf] at hi
  cases hi
  obtain ⟨h1, h2⟩ := zero_imm (w := w) (Fz := Fz) hf
  obtain ⟨c0, c1, c2, c3, c4, c5⟩ := hc
  have hflat := Flat.zeros (z := z.cells) h1 nl.toNat nc.toNat (by omega)
  rw [c5] at hflat
  have hr := run_make (P := P) w t el' inf z hu hinf hz' kl kc nl nc c0 c1 (by rw [Int.mul_comm]; omega) (by omega)
  have I' := I.newRow (p := p) hp d (w' := w.alloc (.cells (madeCells z.cells (nc.toNat * inf.size)) el')) rfl rfl rfl (by simp) (fun b hb => alloc_heap_old w _ b hb) hflat (cap := nc.toNat) (by simp; omega)
    (by simp only [maxLen]; omega) (size_madeCells _ _) el' (alloc_heap_new w _)
  rw [List.length_replicate] at I'
  refine out_of ?_ I'
  simp only [execOp, ho, Sem.run_bind, I.int hl, I.int hcv, hr, Result.andThen_ok, Sem.run_pure]
end
end Go.PE
namespace Go.PE
open Go.RowKit
section
variable {P : Program} {B : Base} {Fz : Nat → Prop} {e : Env} {a : Act} {tm : Tm} {w : World} {ob : Nat → List Nat} {S S' : Stamp → Prop} {p : Stamp}
/-- A row is taken out of its place: what is made of it goes to another slot. -/
theorem Inv.consume (I : Inv B Fz e tm w ob S) (hp : ¬ S p) {r d : Nat} (hrd : r ≠ d) {pl : Option Nat} {st : Stamp} {sz : Nat} {xs : List (List PV)} (h : rowIf (e r) pl st = some (sz, xs)) :
    ∃ u0 bs, PlaceVal w (tm r) pl u0 ∧ Rep w Fz u0 (.own st sz xs) bs ∧ (∀ b ∈ bs, ¬ Fz b ∧ b < w.heap.size) ∧
      ∀ (w' : World) (u : Value) (v : PV) (bs' : List Nat), w'.os = w.os → w'.tape = w.tape → w'.output = w.output → w.heap.size ≤ w'.heap.size →
        (∀ b, b < w.heap.size → b ∉ bs → w'.heap[b]? = w.heap[b]?) → (∀ b ∈ bs', b ∈ bs ∨ w.heap.size ≤ b ∧ b < w'.heap.size) → bs'.Nodup →
        isRef v = false → (∀ s ∈ stampsOf v, s = p) → (∀ s ∈ stamps1 v, s = p) → Rep w' Fz u v bs' →
        ∃ ob', Inv B Fz (upd (upd e r (putAt (e r) pl .dead)) d v) (upd tm d u) w' ob' (fun s => S s ∨ s = p) := by
  have hdr : d ≠ r := Ne.symm hrd
  replace h := rowIf_stamp h
  unfold rowAt? at h
  split at h
  · rename_i st' sz' xs' he
    simp only [Option.some.injEq, Prod.mk.injEq] at h
    obtain ⟨rfl, rfl, rfl⟩ := h
    have hR := I.slot r (by rw [he]; rfl)
    rw [he] at hR
    refine ⟨tm r, ob r, rfl, hR, fun b hb => ⟨I.notFz r b hb, I.lt r b hb⟩, fun w' u v bs' hos htape hout hsz hheap hbs hnd hnr hst hst1 hrep => ⟨upd (upd ob r []) d bs', ?_⟩⟩
    refine I.step (fun s => s = r ∨ s = d) (fun _ h => .inl h) hos htape hout hsz (fun b hb hn => hheap b hb (hn r (.inl rfl)))
      (fun s hs => ?_) (fun _ h => h) (fun _ h => .inl h) ?_ ?_ ?_ ?_ ?_ ?_
    · rw [not_or] at hs
      exact ⟨by rw [upd_other hs.2, upd_other hs.1], upd_other hs.2, by rw [upd_other hs.2, upd_other hs.1]⟩
    · rintro s (rfl | rfl) b hb
      · rw [upd_other hrd, upd_same] at hb; cases hb
      · rw [upd_same] at hb
        rcases hbs b hb with h | h
        · exact ⟨.inl ⟨r, .inl rfl, h⟩, I.notFz r b h⟩
        · exact ⟨.inr h, fun hf => by have := I.fzlt b hf; omega⟩
    · rintro s (rfl | rfl)
      · rw [upd_other hrd, upd_same]; exact List.nodup_nil
      · rw [upd_same]; exact hnd
    · rintro s s' (rfl | rfl) (rfl | rfl) hne b hb hb'
      · exact hne rfl
      · rw [upd_other hrd, upd_same] at hb; cases hb
      · rw [upd_other hrd, upd_same] at hb'; cases hb'
      · exact hne rfl
    · rintro s (rfl | rfl) s' hs
      · rw [upd_other hrd, upd_same] at hs; simp [putAt, stampsOf, stamps1] at hs
      · rw [upd_same] at hs; exact .inr (hst s' hs)
    · rintro s (rfl | rfl)
      · refine RootStep.fresh ?_
        rw [upd_other hrd, upd_same]; simp [putAt, stamps1]
      · refine RootStep.fresh fun s' hs hS => ?_
        rw [upd_same] at hs
        exact hp (hst1 s' hs ▸ hS)
    · rintro hR0 s (rfl | rfl)
      · unfold SlotRep
        rw [upd_other hrd, upd_same, upd_other hrd, upd_same]; simp [putAt, isRef, RefV]
      · unfold SlotRep
        rw [upd_same, upd_same, upd_same, if_neg (by simp [hnr])]; exact hrep
  · rename_i c st' cs he
    split at h
    · rename_i st'' sz' xs' hc
      simp only [Option.some.injEq, Prod.mk.injEq] at h
      obtain ⟨rfl, rfl, rfl⟩ := h
      obtain ⟨g, arr, ty, bs0, htm, hg, hreps, hob, hcc⟩ := I.boxAt he
      obtain ⟨v0, b1, b, b3, hv0, rfl, hr, hset⟩ := hreps.cell hc
      have hnd0 := I.nodup r
      rw [hob] at hnd0
      obtain ⟨hnd1, hnd2, hnd3⟩ := nodup3 hnd0
      have hsub : ∀ x ∈ g :: (b1 ++ b3), x ∈ ob r := by rw [hob]; intro x hx; simp at hx ⊢; grind
      have hbsub : ∀ x ∈ b, x ∈ ob r := by rw [hob]; intro x hx; simp [hx]
      have hcell0 : w.cell? ⟨g, c, none⟩ = some v0 := by
        simp only [World.cell?, hg, Option.isSome_none, Bool.false_eq_true, if_false]
        simpa using hv0
      refine ⟨v0, b, ⟨g, htm, hcell0⟩, hr, fun x hx => ⟨I.notFz r x (hbsub x hx), I.lt r x (hbsub x hx)⟩,
        fun w' u v bs' hos htape hout hsz hheap hbs hnd hnr hst hst1 hrep => ⟨upd (upd ob r (g :: (b1 ++ b3))) d bs', ?_⟩⟩
      have hkeep : ∀ x ∈ g :: (b1 ++ b3), w'.heap[x]? = w.heap[x]? := fun x hx => hheap x (I.lt r x (hsub x hx)) fun h => hnd2 x h hx
      have hkF : ∀ x, Fz x → w'.heap[x]? = w.heap[x]? := fun x hx => hheap x (I.fzlt x hx) fun h => I.notFz r x (hbsub x h) hx
      refine I.step (fun s => s = r ∨ s = d) (fun _ h => .inl h) hos htape hout hsz (fun x hx hn => hheap x hx fun h => hn r (.inl rfl) (hbsub x h))
        (fun s hs => ?_) (fun _ h => h) (fun _ h => .inl h) ?_ ?_ ?_ ?_ ?_ ?_
      · rw [not_or] at hs
        exact ⟨by rw [upd_other hs.2, upd_other hs.1], upd_other hs.2, by rw [upd_other hs.2, upd_other hs.1]⟩
      · rintro s (rfl | rfl) x hx
        · rw [upd_other hrd, upd_same] at hx
          exact ⟨.inl ⟨s, .inl rfl, hsub x hx⟩, I.notFz s x (hsub x hx)⟩
        · rw [upd_same] at hx
          rcases hbs x hx with h | h
          · exact ⟨.inl ⟨r, .inl rfl, hbsub x h⟩, I.notFz r x (hbsub x h)⟩
          · exact ⟨.inr h, fun hf => by have := I.fzlt x hf; omega⟩
      · rintro s (rfl | rfl)
        · rw [upd_other hrd, upd_same]; exact hnd1
        · rw [upd_same]; exact hnd
      · have key : ∀ x ∈ g :: (b1 ++ b3), x ∉ bs' := fun x hx hx' => by
          rcases hbs x hx' with h | h
          · exact hnd2 x h hx
          · have := I.lt r x (hsub x hx); omega
        rintro s s' (rfl | rfl) (rfl | rfl) hne x hx hx'
        · exact hne rfl
        · rw [upd_other hrd, upd_same] at hx
          rw [upd_same] at hx'
          exact key x hx hx'
        · rw [upd_same] at hx
          rw [upd_other hrd, upd_same] at hx'
          exact key x hx' hx
        · exact hne rfl
      · rintro s (rfl | rfl) s' hs
        · rw [upd_other hrd, upd_same, he] at hs
          refine .inl (I.stamps s s' ?_)
          rw [he]
          simp only [putAt, stampsOf, stamps1, List.mem_cons, List.mem_flatMap] at hs ⊢
          rcases hs with hs | ⟨q, hq, hs⟩
          · exact .inl hs
          · rcases List.mem_or_eq_of_mem_set hq with hq | rfl
            · exact .inr ⟨q, hq, hs⟩
            · simp [stampsC] at hs
        · rw [upd_same] at hs; exact .inr (hst s' hs)
      · rintro s (rfl | rfl)
        · rw [upd_other hrd, upd_same, upd_other hrd, he]
          refine RootStep.box htm (fun c2 st2 sz2 xs2 hc2 _ => ⟨xs2, ?_, rfl, fun x hx => ?_⟩) fun c2 st2 ks2 vs2 hc2 _ => ⟨ks2, vs2, ?_, fun x hx => ?_⟩
          rotate_left 2
          · rw [List.getElem?_set] at hc2
            split at hc2
            · split at hc2 <;> simp at hc2
            · exact hc2
          · rw [World.cell?_of_block (w := w) (a := ⟨g, c2, none⟩) (hkeep g (by simp))]; exact hx
          · rw [List.getElem?_set] at hc2
            split at hc2
            · split at hc2 <;> simp at hc2
            · exact hc2
          · rw [World.cell?_of_block (w := w) (a := ⟨g, c2, none⟩) (hkeep g (by simp))]; exact hx
        · refine RootStep.fresh fun s' hs hS => ?_
          rw [upd_same] at hs
          exact hp (hst1 s' hs ▸ hS)
      · rintro hR0 s (rfl | rfl)
        · clear hR0
          unfold SlotRep
          rw [upd_other hrd, upd_same, upd_other hrd, upd_same, upd_other hrd, he, htm]
          simp only [putAt, isRef, Bool.false_eq_true, if_false]
          have hA := hset w' Fz v0 .dead [] (.dead v0) (fun _ h => h) hkF (fun x hx => hkeep x (List.mem_cons_of_mem _ hx))
          have harr : arr.toList.set c v0 = arr.toList := by
            obtain ⟨h1, h2⟩ := List.getElem?_eq_some_iff.1 hv0
            rw [← h2]
            exact List.set_getElem_self h1
          rw [harr] at hA
          refine .box g arr ty st' _ _ ((hkeep g (by simp)).trans hg) hA ?_
          have hS := SelfOK.set hcc (q := .dead) rfl rfl c v0
          rwa [harr] at hS
        · unfold SlotRep
          rw [upd_same, upd_same, upd_same, if_neg (by simp [hnr])]; exact hrep
    · cases h
  · cases h
/-- What is appended: how many elements, and their cells. -/
def Src (P : Program) (w : World) (Fz : Nat → Prop) (size : Nat) (y : Value) (ys : List (List PV)) : Prop :=
  ∃ news : List Value, news.length = ys.length * size ∧ (∀ x ∈ ys, x.length = size) ∧ (∀ v ∈ news, v.oneCell' = true) ∧
    (∀ i j q, cell2 ys i j = some q → ∃ v, news[i * size + j]? = some v ∧ Imm w Fz v q) ∧
    ∀ W : World, W.heap = w.heap → (Builtin.lenOf y).run P W = .ok ys.length W ∧ (Builtin.firstCells size ys.length y).run P W = .ok news.toArray W
theorem run_append_room' {t t2 ty el : TypeId} {inf : TypeInfo} (hu : P.underlying t = some (.slice el)) (hinf : P.info? el = some inf) {d2 : TypeDesc} (hd2 : P.underlying t2 = some d2) (hz : appT (some d2) = true)
    {A : Option Addr} {n cap : Nat} {y : Value} {m : Nat} {news : List Value} (hl : (Builtin.lenOf y).run P w = .ok m w) (hf : (Builtin.firstCells inf.size m y).run P w = .ok news.toArray w)
    (hroom : n + m ≤ cap) {w' : World} (hst : ∀ ad, A = some ad → (storeCells (ad.add (n * inf.size)) news).run P w = .ok () w') (hnil : A = none → w' = w) :
    (Builtin.append_ #[t, t2] ty #[.slice A n cap, y]).run P w = .ok (.slice A (n + m) cap) w' := by
  cases A with
  | none =>
    obtain rfl := hnil rfl
    cases d2 <;> first
      | (simp [appT] at hz; done)
      | simp [Builtin.append_, run_underlying hu, run_underlying hd2, sizeOf, typeInfo, hinf, hl, hroom, hf]
  | some ad =>
    cases d2 <;> first
      | (simp [appT] at hz; done)
      | simp [Builtin.append_, run_underlying hu, run_underlying hd2, sizeOf, typeInfo, hinf, hl, hroom, hf, hst ad rfl]
theorem run_append_new {t t2 ty el : TypeId} {inf : TypeInfo} {z : Value} (hu : P.underlying t = some (.slice el)) (hinf : P.info? el = some inf) (hiz : inf.zero = some z) {d2 : TypeDesc} (hd2 : P.underlying t2 = some d2) (hz : appT (some d2) = true)
    {A : Option Addr} {n cap : Nat} {y : Value} {m : Nat} {olds news : List Value} (hl : (Builtin.lenOf y).run P w = .ok m w) (hf : (Builtin.firstCells inf.size m y).run P w.drew = .ok news.toArray w.drew)
    (ho : (Builtin.firstCells inf.size n (.slice A n cap)).run P w.drew = .ok olds.toArray w.drew) (hroom : cap < n + m) (h63 : n + m ≤ 140737488355328) (hb : (n + m) * inf.bytes ≤ 140737488355328) :
    (Builtin.append_ #[t, t2] ty #[.slice A n cap, y]).run P w = .ok (.slice (some ⟨w.heap.size, 0, none⟩) (n + m) (grownCap w (n + m) cap el))
      (w.drew.alloc (.cells (olds.toArray ++ news.toArray ++ Builtin.zeroCells z.cells (grownCap w (n + m) cap el - (n + m))) el)) := by
  have hnr : ¬ (n + m ≤ cap) := by omega
  have h63' : ¬ (9223372036854775807 < ((n : Int) + (m : Int))) := by omega
  have h2 : ¬ (281474976710656 < Builtin.nextslicecap (n + m) cap * inf.bytes) := by
    have := growslice_fits (bytes := inf.bytes) hroom hb
    omega
  cases d2 <;> first
      | (simp [appT] at hz; done)
      | (simp [Builtin.append_, run_underlying hu, run_underlying hd2, sizeOf, typeInfo, zeroValue, hinf, hiz, hl, hnr, h63', h2, Question.forced, hf, ho, newRow, grownCap]
         congr 2
         apply Array.ext'
         simp [List.append_assoc])
/-- The cells of a row, wherever it lies. -/
def RowAt (w : World) (Fz : Nat → Prop) (A : Option Addr) (sz : Nat) (xs : List (List PV)) : Prop :=
  (∀ x ∈ xs, x.length = sz) ∧ ∀ i j q, cell2 xs i j = some q → ∃ ad v, A = some ad ∧ w.cell? (ad.add (i * sz + j)) = some v ∧ Imm w Fz v q
theorem cell2_some {xs : List (List PV)} {sz : Nat} (h : ∀ x ∈ xs, x.length = sz) {i j : Nat} (hi : i < xs.length) (hj : j < sz) : ∃ q, cell2 xs i j = some q := by
  refine ⟨(xs[i]'hi)[j]'(by rw [h _ (List.getElem_mem hi)]; exact hj), ?_⟩
  simp [cell2, List.getElem?_eq_getElem hi]
theorem RowAt.src {A : Option Addr} {sz : Nat} {xs : List (List PV)} (h : RowAt w Fz A sz xs) (hsz : 0 < sz) (cap : Nat) : Src P w Fz sz (.slice A xs.length cap) xs := by
  obtain ⟨hlen, hcell⟩ := h
  cases A with
  | none =>
    have hx : xs = [] := by
      cases xs with
      | nil => rfl
      | cons x l =>
        obtain ⟨q, hq⟩ := cell2_some hlen (i := 0) (j := 0) (by simp) hsz
        obtain ⟨_, _, h1, _⟩ := hcell 0 0 q hq
        cases h1
    subst hx
    refine ⟨[], by simp, by simp, by simp, fun i j q hq => by simp [cell2] at hq, fun W _ => ⟨rfl, ?_⟩⟩
    simp [Builtin.firstCells]
  | some ad =>
    have key : ∀ k, k < xs.length * sz → ∃ q v, cell2 xs (k / sz) (k % sz) = some q ∧ w.cell? (ad.add k) = some v ∧ Imm w Fz v q := by
      intro k hk
      obtain ⟨q, hq⟩ := cell2_some hlen (i := k / sz) (j := k % sz) ((Nat.div_lt_iff_lt_mul hsz).2 hk) (Nat.mod_lt _ hsz)
      obtain ⟨ad', v, h1, h2, h3⟩ := hcell _ _ q hq
      cases h1
      refine ⟨q, v, hq, ?_, h3⟩
      rw [Nat.mul_comm, Nat.div_add_mod] at h2
      exact h2
    refine ⟨(List.range (xs.length * sz)).map fun k => (w.cell? (ad.add k)).getD undef, by simp, hlen, ?_, ?_, fun W hW => ⟨rfl, ?_⟩⟩
    · intro v hv
      obtain ⟨k, hk, rfl⟩ := List.mem_map.1 hv
      obtain ⟨q, v, _, h2, h3⟩ := key k (List.mem_range.1 hk)
      rw [h2]
      exact h3.one
    · intro i j q hq
      have hij := cell2_len hlen hq
      have hlt : i * sz + j < xs.length * sz := by
        have := Nat.mul_le_mul_right sz (show i + 1 ≤ xs.length by omega)
        rw [Nat.add_mul] at this
        omega
      obtain ⟨ad', v, h1, h2, h3⟩ := hcell i j q hq
      cases h1
      refine ⟨v, ?_, h3⟩
      rw [List.getElem?_map, List.getElem?_range hlt]
      simp [h2]
    · refine run_firstCells_some (P := P) W sz xs.length ad xs.length cap _ (by simp) fun j v hv => ?_
      rw [List.getElem?_map] at hv
      obtain ⟨k, hk, rfl⟩ := Option.map_eq_some_iff.1 hv
      have hjk : j < xs.length * sz ∧ k = j := by
        by_cases hj : j < xs.length * sz
        · rw [List.getElem?_range hj] at hk
          exact ⟨hj, (Option.some.inj hk).symm⟩
        · rw [List.getElem?_eq_none (by simpa using hj)] at hk
          cases hk
      obtain ⟨hj, rfl⟩ := hjk
      obtain ⟨q, v, _, h2, _⟩ := key k hj
      rw [h2]
      have hWc : W.cell? (ad.add k) = w.cell? (ad.add k) := by
        have : W.heap[(ad.add k).block]? = w.heap[(ad.add k).block]? := by rw [hW]
        exact World.cell?_of_block this
      rw [hWc, h2]
      rfl
theorem Imm.rowAt {A : Option Addr} {n cap sz : Nat} {xs : List (List PV)} (h : Imm w Fz (.slice A n cap) (.imm sz xs)) : RowAt w Fz A sz xs ∧ n = xs.length := by
  cases h with
  | imm _ _ _ _ _ c hn hc hu hcell hr =>
    refine ⟨⟨hu, fun i j q hq => ?_⟩, hn.symm⟩
    obtain ⟨ad, h1, _, h2⟩ := hcell i j q hq
    exact ⟨ad, _, h1, h2, hr i j q hq⟩
/-- What an owned row is made of. -/
theorem Rep.flat {u : Value} {st : Stamp} {sz : Nat} {xs : List (List PV)} {bs : List Nat} (h : Rep w Fz u (.own st sz xs) bs) :
    (u = .slice none 0 0 ∧ xs = [] ∧ bs = []) ∨ ∃ g cap cur t, u = .slice (some ⟨g, 0, none⟩) xs.length cap ∧ w.heap[g]? = some (.cells cur t (0, 0)) ∧ xs.length ≤ cap ∧ cap ≤ maxLen ∧
      cur.size = cap * sz ∧ Flat w Fz cur.toList sz xs ∧ bs = [g] := by
  cases h with
  | plain h => exact absurd h.okC (by simp [okC])
  | ownNil => exact .inl ⟨rfl, rfl, rfl⟩
  | own g n cap cur t st sz xs c hg hn hc hm hs hu hcell hr =>
    subst hn
    refine .inr ⟨g, cap, cur, t, rfl, hg, hc, hm, hs, ⟨hu, ?_, fun i j q hq => ⟨_, ?_, hr i j q hq⟩⟩, rfl⟩
    · have hl : cur.toList.length = cap * sz := by rw [← hs]; rfl
      rw [hl]
      exact Nat.mul_le_mul_right _ hc
    · simpa using hcell i j q hq
theorem Flat.rep {g : Nat} {arr : Array Value} {t : TypeId} {n cap : Nat} {xs : List (List PV)} (h : Flat w Fz arr.toList n xs) (hg : w.heap[g]? = some (.cells arr t (0, 0)))
    (hc : xs.length ≤ cap) (hm : cap ≤ maxLen) (hs : arr.size = cap * n) (st : Stamp) : Rep w Fz (.slice (some ⟨g, 0, none⟩) xs.length cap) (.own st n xs) [g] := by
  refine .own g xs.length cap arr t st n xs (fun i j => arr.toList.getD (i * n + j) undef) hg rfl hc hm hs h.len ?_ ?_
  · intro i j q hq
    obtain ⟨v, h1, _⟩ := h.cell i j q hq
    have : arr[i * n + j]? = some v := by simpa using h1
    rw [this]
    simp [List.getD, h1]
  · intro i j q hq
    obtain ⟨v, h1, h2⟩ := h.cell i j q hq
    have : arr.toList.getD (i * n + j) undef = v := by simp [List.getD, h1]
    rw [this]
    exact h2
theorem Rep.rowAt {u : Value} {st : Stamp} {sz : Nat} {xs : List (List PV)} {bs : List Nat} (h : Rep w Fz u (.own st sz xs) bs) : ∃ A cap, u = .slice A xs.length cap ∧ RowAt w Fz A sz xs := by
  rcases h.flat with ⟨rfl, rfl, rfl⟩ | ⟨g, cap, cur, t, rfl, hg, _, _, _, hf, rfl⟩
  · exact ⟨none, 0, rfl, by simp, fun i j q hq => by simp [cell2] at hq⟩
  · refine ⟨_, cap, rfl, hf.len, fun i j q hq => ?_⟩
    obtain ⟨v, h1, h2⟩ := hf.cell i j q hq
    refine ⟨_, v, rfl, ?_, h2⟩
    rw [add_lit]
    simp only [World.cell?, hg, Option.isSome_none, Bool.false_eq_true, if_false, Nat.zero_add]
    simpa using h1
theorem RowAt.part {A A' : Option Addr} {sz off len : Nat} {xs : List (List PV)} (h : RowAt w Fz A sz xs) (_hl : off + len ≤ xs.length)
    (ha : ∀ ad, A = some ad → 0 < len → A' = some (ad.add (off * sz))) : RowAt w Fz A' sz ((xs.drop off).take len) := by
  refine ⟨fun x hx => h.1 x (List.mem_of_mem_drop (List.mem_of_mem_take hx)), fun i j q hq => ?_⟩
  obtain ⟨h1, h2⟩ := cell2_drop_take hq
  obtain ⟨ad, v, rfl, h3, h4⟩ := h.2 _ _ q h2
  refine ⟨_, v, ha ad rfl (by omega), ?_, h4⟩
  rw [add_add, ← Nat.add_assoc, ← Nat.add_mul]
  exact h3
/-- What is appended. -/
theorem Inv.src (I : Inv B Fz e (tmOf B a) w ob S) {t : TypeId} {x : Operand} {sz : Nat} {ys : List (List PV)} (hsz : 0 < sz) (h : appended (hint P t x (res e x)) = some (sz, ys)) :
    Src P w Fz sz (a.eval x) ys := by
  by_cases hok : okC (hint P t x (res e x)).1 = true
  · have hi := I.immH P t x hok
    generalize hint P t x (res e x) = vr at *
    generalize a.eval x = val at *
    obtain ⟨v1, v2⟩ := vr
    simp only at hok hi
    unfold appended at h
    cases hi with
    | str s =>
      simp only [PE.view, okC, if_true, Option.some.injEq, Prod.mk.injEq] at h
      obtain ⟨rfl, rfl⟩ := h
      refine ⟨Lib.strCells s, ?_, ?_, Lib.strCells_oneCell s, ?_, fun W _ => ⟨?_, ?_⟩⟩
      · rw [Lib.strCells_length]; simp [bytesPV]
      · simp [bytesPV]
      · intro i j q hq
        unfold cell2 bytesPV at hq
        rw [List.getElem?_map] at hq
        obtain ⟨c, hc, hq⟩ := Option.bind_eq_some_iff.1 hq
        obtain ⟨b, hb, rfl⟩ := Option.map_eq_some_iff.1 hc
        cases j with
        | zero =>
          simp only [List.getElem?_cons_zero, Option.some.injEq] at hq
          subst hq
          refine ⟨_, ?_, .int .u8 b.toNat⟩
          simp [Lib.strCells, hb]
        | succ j => simp at hq
      · simp [Builtin.lenOf, bytesPV]
      · have := Lib.run_firstCells_string (P := P) W 1 s
        simpa [bytesPV] using this
    | imm A n cap sz' xs c hn hc hu hcell hr =>
      simp only [PE.view, okC, if_true, Option.some.injEq, Prod.mk.injEq] at h
      obtain ⟨rfl, rfl⟩ := h
      obtain ⟨h1, h2⟩ := (Imm.imm A n cap sz' xs c hn hc hu hcell hr : Imm w Fz _ _).rowAt
      rw [h2]
      exact h1.src hsz cap
    | nils sz' =>
      simp only [PE.view, Option.some.injEq, Prod.mk.injEq] at h
      obtain ⟨rfl, rfl⟩ := h
      have : RowAt w Fz none sz' [] := ⟨by simp, fun i j q hq => by simp [cell2] at hq⟩
      exact this.src hsz 0
    | _ => simp [PE.view, okC] at h
  · rw [hint_ne P t x _ (by simpa using hok)] at h hok
    have h1 : (res e x).1 = opv e x := rfl
    unfold appended PE.view at h
    rw [h1] at h hok
    split at h
    · rename_i sz' ys' hv
      cases h
      split at hv
      · rename_i st sz' xs' he
        cases hv
        cases x with
        | tmp r =>
          obtain ⟨hvs, he'⟩ := tmp_val he (by simp)
          have hR := I.slot r (by rw [he']; rfl)
          rw [he'] at hR
          obtain ⟨A, cap, hu, hrow⟩ := hR.rowAt
          rw [← tmOf_ne B a hvs]
          show Src P w Fz sz (tmOf B a r) ys
          rw [hu]
          exact hrow.src hsz cap
        | const v => rcases const_cases v with h | h <;> simp_all [opv, okC]
        | global g =>
          have he : globPV g = _ := he
          rcases globPV_cases g with h' | ⟨_, _, h'⟩ <;> rw [h'] at he <;> cases he
        | func f => simp [opv] at he
      · rename_i he
        rw [he] at hok
        simp [okC] at hok
      · rename_i r pl st off len he
        split at hv
        · rename_i sz' xs' hrow
          cases hv
          have hx : ∃ s, x = .tmp s := by
            cases x with
            | tmp s => exact ⟨s, rfl⟩
            | const v => rcases const_cases v with h | h <;> simp_all [opv, okC]
            | global g =>
              have he : globPV g = _ := he
              rcases globPV_cases g with h' | ⟨_, _, h'⟩ <;> rw [h'] at he <;> cases he
            | func f => simp [opv] at he
          obtain ⟨s, rfl⟩ := hx
          obtain ⟨hvs, he'⟩ := tmp_val he (by simp)
          have hrow' : rowIf (e r) pl st = some (sz, xs') := by
            have : (res e (.tmp s)).2 = e r := by simp [res, opv, hvs, he', rootOf]
            rw [this] at hrow
            exact hrow
          have href := I.ref s (by rw [he']; rfl)
          rw [he'] at href
          obtain ⟨hl, A, n, cap, A', cap', hpl, hu, hcap, h0, hA⟩ := href sz xs' hrow'
          obtain ⟨u, bs, hpl', hR, _⟩ := I.row hrow'
          obtain rfl := PlaceVal.unique hpl hpl'
          obtain ⟨A2, cap2, hu2, hr2⟩ := hR.rowAt
          cases hu2
          have := hr2.part hl hA
          rw [← tmOf_ne B a hvs]
          show Src P w Fz sz (tmOf B a s) _
          rw [hu]
          have h3 : ((xs'.drop off).take len).length = len := by simp; omega
          have := this.src (P := P) hsz cap'
          rwa [h3] at this
        · cases hv
      · cases hv
      · split at hv
        · rename_i hk; exact absurd hk hok
        · cases hv
    · rename_i s hv
      split at hv
      · cases hv
      · cases hv
      · split at hv <;> cases hv
      · cases hv
      · split at hv
        · rename_i hk; exact absurd hk hok
        · cases hv
    · cases h
end
end Go.PE
namespace Go.PE
open Go.RowKit
section
variable {P : Program} {B : Base} {Fz : Nat → Prop} {e : Env} {a : Act} {tm : Tm} {w : World} {ob : Nat → List Nat} {S S' : Stamp → Prop} {p : Stamp}
theorem Flat.append {old news rest : List Value} {n : Nat} {xs ys : List (List PV)} (ho : old.length = xs.length * n) (hn : news.length = ys.length * n)
    (hx : ∀ x ∈ xs, x.length = n) (hy : ∀ x ∈ ys, x.length = n)
    (h1 : ∀ i j q, cell2 xs i j = some q → ∃ v, old[i * n + j]? = some v ∧ Imm w Fz v q)
    (h2 : ∀ i j q, cell2 ys i j = some q → ∃ v, news[i * n + j]? = some v ∧ Imm w Fz v q) : Flat w Fz (old ++ news ++ rest) n (xs ++ ys) := by
  have hxy : ∀ x ∈ xs ++ ys, x.length = n := fun x h => (List.mem_append.1 h).elim (hx x) (hy x)
  refine ⟨hxy, ?_, fun i j q hq => ?_⟩
  · simp only [List.length_append, ho, hn, Nat.add_mul]; omega
  · have hij := cell2_len hxy hq
    by_cases hi : i < xs.length
    · have hq' : cell2 xs i j = some q := by
        unfold cell2 at hq ⊢
        rwa [List.getElem?_append_left hi] at hq
      obtain ⟨v, h3, h4⟩ := h1 i j q hq'
      have := (List.getElem?_eq_some_iff.1 h3).1
      refine ⟨v, ?_, h4⟩
      rw [List.append_assoc, List.getElem?_append_left this, h3]
    · have hq' : cell2 ys (i - xs.length) j = some q := by
        unfold cell2 at hq ⊢
        rwa [List.getElem?_append_right (by omega)] at hq
      obtain ⟨v, h3, h4⟩ := h2 _ j q hq'
      have hl := (List.getElem?_eq_some_iff.1 h3).1
      have he : i * n + j = xs.length * n + ((i - xs.length) * n + j) := by
        have : i * n = xs.length * n + (i - xs.length) * n := by rw [← Nat.add_mul]; congr 1; omega
        omega
      refine ⟨v, ?_, h4⟩
      rw [he, List.append_assoc, List.getElem?_append_right (by omega), ho, show xs.length * n + ((i - xs.length) * n + j) - xs.length * n = (i - xs.length) * n + j from by omega,
        List.getElem?_append_left hl, h3]
theorem take_cells {cur : List Value} {n : Nat} {xs : List (List PV)} (h : Flat w Fz cur n xs) {len : Nat} :
    ∀ i j q, cell2 (xs.take len) i j = some q → ∃ v, (cur.take (len * n))[i * n + j]? = some v ∧ Imm w Fz v q := by
  intro i j q hq
  have h0 := hq
  rw [show xs.take len = (xs.drop 0).take len by simp] at hq
  obtain ⟨h1, h2⟩ := cell2_drop_take hq
  rw [Nat.zero_add] at h2
  obtain ⟨v, h3, h4⟩ := h.cell i j q h2
  have hij := cell2_len h.len h2
  refine ⟨v, ?_, h4⟩
  have : i * n + j < len * n := by
    have := Nat.mul_le_mul_right n (show i + 1 ≤ len by omega)
    rw [Nat.add_mul] at this
    omega
  rw [List.getElem?_take, if_pos this, h3]
theorem append_rep {t t2 ty el : TypeId} {inf : TypeInfo} {z : Value} (hu : P.underlying t = some (.slice el)) (hinf : P.info? el = some inf) (hiz : inf.zero = some z) (hzs : z.cells.size = inf.size)
    {d2 : TypeDesc} (hd2 : P.underlying t2 = some d2) (hz : appT (some d2) = true)
    {A : Option Addr} {n cap len : Nat} {st : Stamp} {xs : List (List PV)} {bs : List Nat} (hR : Rep w Fz (.slice A n cap) (.own st inf.size xs) bs) (hlen : len ≤ xs.length)
    (hbs : ∀ b ∈ bs, ¬ Fz b) (hlt : ∀ b ∈ bs, b < w.heap.size) (hfz : ∀ b, Fz b → b < w.heap.size)
    {y : Value} {ys : List (List PV)} (hsrc : Src P w Fz inf.size y ys) (hb : (len + ys.length) * inf.bytes ≤ 140737488355328) (hm : len + ys.length ≤ 140737488355328) (q : Stamp) :
    ∃ w' u bs', (Builtin.append_ #[t, t2] ty #[.slice A len cap, y]).run P w = .ok u w' ∧ w'.os = w.os ∧ w'.tape = w.tape ∧ w'.output = w.output ∧ w.heap.size ≤ w'.heap.size ∧
      (∀ b, b < w.heap.size → b ∉ bs → w'.heap[b]? = w.heap[b]?) ∧ (∀ b ∈ bs', b ∈ bs ∨ w.heap.size ≤ b ∧ b < w'.heap.size) ∧ bs'.Nodup ∧
      Rep w' Fz u (.own q inf.size (xs.take len ++ ys)) bs' := by
  obtain ⟨news, hn1, hn2, hn3, hn4, hrun⟩ := hsrc
  have hl63 : (xs.take len ++ ys).length = len + ys.length := by simp; omega
  have hmax : len + ys.length ≤ maxLen := by simp only [maxLen]; omega
  have grow : ∀ (olds : List Value), cap < len + ys.length → olds.length = len * inf.size → (∀ x ∈ xs.take len, x.length = inf.size) →
      (∀ i j q, cell2 (xs.take len) i j = some q → ∃ v, olds[i * inf.size + j]? = some v ∧ Imm w Fz v q) →
      (Builtin.firstCells inf.size len (.slice A len cap)).run P w.drew = .ok olds.toArray w.drew →
      ∃ w' u bs', (Builtin.append_ #[t, t2] ty #[.slice A len cap, y]).run P w = .ok u w' ∧ w'.os = w.os ∧ w'.tape = w.tape ∧ w'.output = w.output ∧ w.heap.size ≤ w'.heap.size ∧
        (∀ b, b < w.heap.size → b ∉ bs → w'.heap[b]? = w.heap[b]?) ∧ (∀ b ∈ bs', b ∈ bs ∨ w.heap.size ≤ b ∧ b < w'.heap.size) ∧ bs'.Nodup ∧
        Rep w' Fz u (.own q inf.size (xs.take len ++ ys)) bs' := by
    intro olds hroom ho1 ho2 ho3 ho4
    have hlw : (Builtin.lenOf y).run P w = .ok ys.length w := (hrun w rfl).1
    have hr := run_append_new (P := P) (w := w) (ty := ty) hu hinf hiz hd2 hz (A := A) (n := len) (cap := cap) hlw (hrun w.drew rfl).2 ho4 hroom hm hb
    generalize hgc : grownCap w (len + ys.length) cap el = gc at hr
    have hge : len + ys.length ≤ gc := hgc ▸ grownCap_ge w _ _ el
    have hle : gc ≤ maxLen := hgc ▸ grownCap_le_maxLen w _ _ el hmax
    have hold : ∀ b, b < w.heap.size → (w.drew.alloc (.cells (olds.toArray ++ news.toArray ++ Builtin.zeroCells z.cells (gc - (len + ys.length))) el)).heap[b]? = w.heap[b]? := fun b hb => alloc_heap_old w.drew _ b hb
    have hfl : Flat w Fz (olds ++ news ++ (Builtin.zeroCells z.cells (gc - (len + ys.length))).toList) inf.size (xs.take len ++ ys) :=
      Flat.append (by rw [ho1, List.length_take, Nat.min_eq_left hlen]) hn1 ho2 hn2 ho3 hn4
    have hfl' := hfl.mono (w' := w.drew.alloc (.cells (olds.toArray ++ news.toArray ++ Builtin.zeroCells z.cells (gc - (len + ys.length))) el)) (fun _ h => h) fun b hb => hold b (hfz b hb)
    have hrep := Flat.rep (g := w.heap.size) (arr := olds.toArray ++ news.toArray ++ Builtin.zeroCells z.cells (gc - (len + ys.length))) (t := el) (by simpa using hfl') (alloc_heap_new w.drew _) (cap := gc) (by rw [hl63]; exact hge) hle (by
      simp only [Array.size_append, List.size_toArray, ho1, hn1, Builtin.zeroCells, Array.size_map, Array.size_range, hzs]
      rw [← Nat.add_mul, ← Nat.add_mul]
      congr 1
      omega) q
    rw [hl63] at hrep
    exact ⟨_, _, [w.heap.size], hr, rfl, rfl, rfl, by simp, fun b hb _ => hold b hb, by simp, by simp, hrep⟩
  rcases hR.flat with ⟨h1, rfl, rfl⟩ | ⟨g, cap', cur, ty', h1, hg, hc, hcm, hcs, hf, rfl⟩
  · simp only [Value.slice.injEq] at h1
    obtain ⟨rfl, rfl, rfl⟩ := h1
    obtain rfl : len = 0 := by simpa using hlen
    by_cases hy : ys.length = 0
    · have hnil : ys = [] := List.length_eq_zero_iff.1 hy
      subst hnil
      have hlw := (hrun w rfl).1
      have hr := run_append_room' (P := P) (w := w) (ty := ty) hu hinf hd2 hz (A := none) (n := 0) (cap := 0) hlw (hrun w rfl).2 (by simp) (w' := w) (by simp) (fun _ => rfl)
      exact ⟨w, _, [], hr, rfl, rfl, rfl, Nat.le_refl _, fun _ _ _ => rfl, by simp, by simp, .ownNil q _⟩
    · refine grow [] (by omega) (by simp) (by simp) (fun i j q hq => by simp [cell2] at hq) ?_
      simp [Builtin.firstCells]
  · simp only [Value.slice.injEq] at h1
    obtain ⟨rfl, rfl, rfl⟩ := h1
    have hcur : cur.toList.length = cap * inf.size := by rw [← hcs]; rfl
    have hlc : len * inf.size ≤ cap * inf.size := Nat.mul_le_mul_right _ (by omega)
    have htk : ∀ x ∈ xs.take len, x.length = inf.size := fun x hx => hf.len x (List.mem_of_mem_take hx)
    by_cases hroom : len + ys.length ≤ cap
    · have hfit : len * inf.size + ys.length * inf.size ≤ cap * inf.size := by rw [← Nat.add_mul]; exact Nat.mul_le_mul_right _ hroom
      have hst := run_storeCells_at P g (len * inf.size) ty' news 0 cur w hg (by rw [hn1, hcs]; omega) hn3
      rw [Nat.add_zero] at hst
      have hr := run_append_room' (P := P) (w := w) (ty := ty) hu hinf hd2 hz (A := some ⟨g, 0, none⟩) (n := len) (cap := cap) (hrun w rfl).1 (hrun w rfl).2 hroom
        (w' := w.setRow g (cur.toList.take (len * inf.size) ++ news ++ cur.toList.drop (len * inf.size + news.length)).toArray)
        (fun ad hA => by cases hA; rw [add_lit, Nat.zero_add]; exact hst) (fun h => by cases h)
      have hold : ∀ b, b ∉ [g] → (w.setRow g (cur.toList.take (len * inf.size) ++ news ++ cur.toList.drop (len * inf.size + news.length)).toArray).heap[b]? = w.heap[b]? := by
        intro b hb
        simp only [List.mem_singleton] at hb
        exact setRow_other w g b _ hb
      have hfl : Flat w Fz (cur.toList.take (len * inf.size) ++ news ++ cur.toList.drop (len * inf.size + news.length)) inf.size (xs.take len ++ ys) :=
        Flat.append (by rw [List.length_take, List.length_take, Nat.min_eq_left (by omega), Nat.min_eq_left hlen]) hn1 htk hn2 (take_cells hf) hn4
      have hfl' := hfl.mono (w' := w.setRow g (cur.toList.take (len * inf.size) ++ news ++ cur.toList.drop (len * inf.size + news.length)).toArray) (fun _ h => h) fun b hb =>
        hold b fun h => hbs b h hb
      have hrep := Flat.rep (g := g) (arr := (cur.toList.take (len * inf.size) ++ news ++ cur.toList.drop (len * inf.size + news.length)).toArray) (t := ty') (by simpa using hfl')
        (setRow_heap w g cur _ ty' _ hg) (cap := cap) (by rw [hl63]; omega) hcm (by
          simp only [List.size_toArray, List.length_append, List.length_take, List.length_drop, hn1, hcur]; omega) q
      rw [hl63] at hrep
      exact ⟨_, _, [g], hr, rfl, rfl, rfl, by rw [setRow_size]; exact Nat.le_refl _, fun b _ hb => hold b hb, fun b hb => .inl hb, by simp, hrep⟩
    · refine grow (cur.toList.take (len * inf.size)) (by omega) (by rw [List.length_take]; omega) htk (take_cells hf) ?_
      refine run_firstCells_some (P := P) w.drew inf.size len _ len cap _ (by rw [List.length_take]; omega) fun j v hv => ?_
      rw [add_lit, Nat.zero_add]
      have hw : w.drew.heap[g]? = some (.cells cur ty' (0, 0)) := hg
      simp only [World.cell?, hw, Option.isSome_none, Bool.false_eq_true, if_false]
      rw [List.getElem?_take] at hv
      split at hv
      · simpa using hv
      · cases hv
end
end Go.PE
namespace Go.PE
open Go.RowKit
section
variable {P : Program} {B : Base} {Fz : Nat → Prop} {e : Env} {a : Act} {tm : Tm} {w : World} {ob : Nat → List Nat} {S S' : Stamp → Prop} {p : Stamp}
theorem run_builtin {o : Oper} {c : Call} (ho : o.op = .call c) {b : Builtin} (hc : c.callee = .builtin b) :
    ∃ cs, (execOp a.eval o).run P w = (builtin b c.argTypes o.type cs (c.args.map a.eval)).run P w := by
  simp only [execOp, ho, resolve, hc, Sem.run_bind, Sem.run_pure, Result.andThen_ok, invoke]
  exact ⟨_, rfl⟩
theorem opv_own_tmp {e : Env} {x : Operand} (h : okC (opv e x) = false) (h2 : opv e x ≠ .dead) : ∃ t, x = .tmp t := by
  cases x with
  | tmp t => exact ⟨t, rfl⟩
  | const v => rcases const_cases v with h' | h' <;> simp_all [opv]
  | global g =>
    have h : okC (globPV g) = false := h
    have h2 : globPV g ≠ .dead := h2
    rcases globPV_cases g with h' | ⟨_, _, h'⟩
    · exact absurd h' h2
    · rw [h'] at h; cases h
  | func f => simp [opv, okC] at h
theorem zeroT_size {t : TypeId} {inf : TypeInfo} {z : Value} (hinf : P.info? t = some inf) (hz : inf.zero = some z) {zs : List PV} (h : zeroT P t = some zs) : z.cells.size = zs.length := by
  obtain ⟨i, z', hi, hz', hf⟩ := zeroT_spec h
  rw [hinf] at hi
  cases hi
  rw [hz] at hz'
  cases hz'
  obtain ⟨h1, h2⟩ := zero_imm (w := { (default : World) with }) (Fz := fun _ => True) hf
  rw [← h1.1]; simp
theorem out_append (I : Inv B Fz e (tmOf B a) w ob S) (hp : ¬ S p) {o : Oper} {d : Nat} {c : Call} (ho : o.op = .call c) (hc : c.callee = .builtin .append) {x y : Operand} (hargs : c.args = #[x, y])
    {t t2 : TypeId} (hts : c.argTypes = #[t, t2]) {n b : Nat} (ht : rowT P t = some (n, b)) {el : TypeId} (hel : elemT P t = some el) {zs : List PV} (hzt : zeroT P el = some zs) (hzn : zs.length = n)
    (ht2 : appT (P.underlying t2) = true) {ups : Ups}
    (h : appendS p d (n, b) x (hint P t x (res e x)) (hint P t2 y (res e y)) = some ups) : Out P B e a w S p o d ups := by
  obtain ⟨el', hu, hel', inf, hinf, rfl, rfl⟩ := rowT_spec ht
  obtain rfl : el' = el := Option.some.inj (hel'.symm.trans hel)
  obtain ⟨i, z, hi, hiz, hf⟩ := zeroT_spec hzt
  rw [hinf] at hi
  cases hi
  have hzs := zeroT_size hinf hiz hzt
  obtain ⟨d2, hd2⟩ : ∃ d2, P.underlying t2 = some d2 := by
    cases h2 : P.underlying t2 with
    | none => rw [h2] at ht2; simp [appT] at ht2
    | some d2 => exact ⟨d2, rfl⟩
  rw [hd2] at ht2
  unfold appendS at h
  split at h
  · cases h
  · rename_i sz xs u happ
    split at h
    · cases h
    · rename_i sz' ys hys
      split at h
      · rename_i hcond
        obtain ⟨h1, h2, h3, h4, h5⟩ := hcond
        simp only at h1 h2 h3 h4
        subst h1
        subst h2
        split at h
        · rename_i hnd
          cases h
          have hsrc := I.src h3 hys
          have hrun : ∀ (A : Option Addr) (len cap : Nat) (w' : World) (v : Value), a.eval x = .slice A len cap →
              (Builtin.append_ #[t, t2] o.type #[.slice A len cap, a.eval y]).run P w = .ok v w' → (execOp a.eval o).run P w = .ok (.value v) w' := by
            intro A len cap w' v hx hr
            obtain ⟨cs, hcs⟩ := run_builtin (P := P) (a := a) (w := w) ho hc
            rw [hcs, hargs, hts]
            simp only [builtin, List.map_toArray, List.map_cons, List.map_nil, hx, Sem.run_bind]
            rw [hr]
            rfl
          unfold appendTo at happ
          split at happ
          · -- an owned row
            rename_i st sz0 xs0 hx1
            split at happ
            · rename_i r
              cases happ
              rw [hint_ne P t _ _ (by rw [hx1]; rfl)] at hx1
              obtain ⟨hvs, he⟩ := tmp_val hx1 (by simp)
              have hne : r ≠ d := by
                simp only [List.map_cons, List.map_nil, List.cons_append, List.nil_append, nodupB, Bool.and_eq_true, Bool.not_eq_true'] at hnd
                intro h
                subst h
                simp at hnd
              obtain ⟨u0, bs, hpl, hR, hbs, hcons⟩ := I.consume hp hne (pl := none) (st := st) (sz := inf.size) (xs := xs) (by simp [rowIf, rowAt?, he])
              obtain ⟨A, cap, rfl, _⟩ := hR.rowAt
              obtain ⟨w', v, bs', k1, k2, k3, k4, k5, k6, k7, k8, k9⟩ := append_rep (P := P) (ty := o.type) hu hinf hiz (by rw [hzs, hzn]) hd2 ht2 hR (Nat.le_refl _) (fun b hb => (hbs b hb).1) (fun b hb => (hbs b hb).2) I.fzlt
                hsrc h4 h5 p
              rw [List.take_length] at k9
              obtain ⟨ob', I'⟩ := hcons w' v _ bs' k2 k3 k4 k5 k6 k7 k8 rfl (by simp [stampsOf, stamps1]) (by simp [stamps1]) k9
              refine ⟨v, w', Fz, ob', hrun A _ cap w' v ((tmOf_ne B a hvs).symm.trans hpl) k1, ?_⟩
              have : apply ([(r, .dead)] ++ [(d, .own p inf.size (xs ++ ys))]) e = upd (upd e r (putAt (e r) none .dead)) d (.own p inf.size (xs ++ ys)) := rfl
              rw [this]
              exact I'
            · cases happ
          · -- nil
            rename_i sz0 hx1
            cases happ
            have hxi := I.immH P t x (by rw [hx1]; rfl)
            rw [hx1] at hxi
            have hxv : a.eval x = .slice none 0 0 := by
              generalize a.eval x = val at hxi
              cases hxi; rfl
            obtain ⟨w', v, bs', k1, k2, k3, k4, k5, k6, k7, k8, k9⟩ := append_rep (P := P) (w := w) (Fz := Fz) (ty := o.type) hu hinf hiz (by rw [hzs, hzn]) hd2 ht2 (.ownNil p inf.size) (Nat.le_refl _) (by simp) (by simp) I.fzlt
              hsrc (by simpa using h4) (by simpa using h5) p
            refine ⟨v, w', Fz, upd ob d bs', hrun none 0 0 w' v hxv k1, ?_⟩
            refine I.put1 d _ v bs' (fun _ h => .inl h) k2 k3 k4 k5 (fun b hb => k6 b hb (by simp)) (fun b hb => ?_) k8 ?_ ?_ ?_
            · rcases k7 b hb with h | h
              · cases h
              · exact h
            · intro st hs; exact .inr (by simpa [stampsOf, stamps1] using hs)
            · intro st hs hS
              have : st = p := by simpa [stamps1] using hs
              exact hp (this ▸ hS)
            · rw [if_neg (by simp [isRef])]
              simpa using k9
          · -- a row's head
            rename_i r pl st len hx1
            split at happ
            · rename_i sz0 xs0 hrow
              cases happ
              have hne0 := hint_ne P t x (res e x) (by rw [hx1]; rfl)
              rw [hne0] at hx1 hrow hnd ⊢
              obtain ⟨s, rfl⟩ := opv_own_tmp (e := e) (x := x) (by rw [← res_fst, hx1]; rfl) (by rw [← res_fst, hx1]; simp)
              obtain ⟨hvs, he⟩ := tmp_val hx1 (by simp)
              have hr2 : (res e (.tmp s)).2 = e r := by simp [res, opv, hvs, he, rootOf]
              rw [hr2] at hrow ⊢
              have hne : r ≠ d := by
                simp only [List.map_cons, List.map_nil, List.cons_append, List.nil_append, nodupB, Bool.and_eq_true, Bool.not_eq_true'] at hnd
                intro h
                subst h
                simp at hnd
              have href := I.ref s (by rw [he]; rfl)
              rw [he] at href
              obtain ⟨hl, A, n0, cap, A', cap', hpl, hus, hcap, h0, _⟩ := href _ xs0 hrow
              obtain ⟨rfl, rfl⟩ := h0 rfl
              obtain ⟨u0, bs, hpl', hR, hbs, hcons⟩ := I.consume hp hne hrow
              obtain rfl := PlaceVal.unique hpl hpl'
              have hxl : (xs0.take len).length = len := by simp; omega
              rw [hxl] at h4 h5
              obtain ⟨w', v, bs', k1, k2, k3, k4, k5, k6, k7, k8, k9⟩ := append_rep (P := P) (ty := o.type) (len := len) hu hinf hiz (by rw [hzs, hzn]) hd2 ht2 hR (by omega) (fun b hb => (hbs b hb).1) (fun b hb => (hbs b hb).2) I.fzlt
                hsrc h4 h5 p
              obtain ⟨ob', I'⟩ := hcons w' v _ bs' k2 k3 k4 k5 k6 k7 k8 rfl (by simp [stampsOf, stamps1]) (by simp [stamps1]) k9
              refine ⟨v, w', Fz, ob', hrun A' _ cap' w' v ((tmOf_ne B a hvs).symm.trans hus) k1, ?_⟩
              exact I'
            · cases happ
          · cases happ
        · cases h
      · cases h
end
end Go.PE
