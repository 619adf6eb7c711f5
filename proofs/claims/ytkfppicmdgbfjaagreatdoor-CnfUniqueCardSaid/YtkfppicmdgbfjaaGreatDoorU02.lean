/-
  A part of the proof that the law's function returns true and leaves its arguments as they were, for every input (no condition): own lemmas of the proof, in the order of their use.
-/
import Derived.Test.YtkfppicmdgbfjaaGreatDoorU01
import Derived.Below
set_option linter.all false
namespace Go.PE
open Go.RowKit
variable {α : Type}
def cell2 (xs : List (List PV)) (i j : Nat) : Option PV := (xs[i]?).bind (·[j]?)
def strV (k : List UInt8) : Value := .string ⟨k.toArray⟩
/-- The value under a key. -/
def entV (ag : Bool) (f : Nat → Value) (n : Nat) : Value := if ag then .agg ((List.range n).map f).toArray else f 0
/-- A map's entries, as the plain reading has them. -/
structure MapSh (es : Array MapEntry) (clock : Nat) (ks : MKeys) (vs : List (List PV)) (c : Nat → Nat → Value) : Prop where
  key : es.toList.map (·.key) = ks.2.map strV
  len : es.toList.length = vs.length
  val : ∀ (i : Nat) en row, es.toList[i]? = some en → vs[i]? = some row → en.val = entV ks.1 (c i) row.length ∧ (ks.1 = false → row.length = 1)
  nodup : (es.toList.map (·.born)).Nodup
  old : ∀ x ∈ es.toList, x.born < clock
/-- A value and its plain reading: all memory that it leads to lies in blocks that nobody writes. -/
inductive Imm (w : World) (Fz : Nat → Prop) : Value → PV → Prop
  | int (k n) : Imm w Fz (.int k n) (.int k n)
  | bool (b) : Imm w Fz (.bool b) (.bool b)
  | str (s) : Imm w Fz (.string s) (.str s.data.toList)
  | imm (a : Option Addr) (n cap sz : Nat) (xs : List (List PV)) (c : Nat → Nat → Value) (hn : xs.length = n) (hc : n ≤ cap)
      (hu : ∀ x ∈ xs, x.length = sz)
      (hcell : ∀ i j p, cell2 xs i j = some p → ∃ ad, a = some ad ∧ Fz ad.block ∧ w.cell? (ad.add (i * sz + j)) = some (c i j))
      (hr : ∀ i j p, cell2 xs i j = some p → Imm w Fz (c i j) p) : Imm w Fz (.slice a n cap) (.imm sz xs)
  | iptr (ad : Addr) (cs : List PV) (o : Nat) (c : Nat → Value)
      (hcell : ∀ j p, cs[j]? = some p → Fz ad.block ∧ w.cell? (ad.add j) = some (c j))
      (hr : ∀ j p, cs[j]? = some p → Imm w Fz (c j) p) : Imm w Fz (.pointer (some (ad.add o))) (.iptr cs o)
  | nils (sz) : Imm w Fz (.slice none 0 0) (.nils sz)
  | nilp : Imm w Fz (.pointer none) .nilp
  | func (f : FuncId) (caps : List PV) (vs : Array Value) (c : Nat → Value) (hs : vs.size = caps.length)
      (hv : ∀ i p, caps[i]? = some p → vs[i]? = some (c i))
      (hr : ∀ i p, caps[i]? = some p → Imm w Fz (c i) p) : Imm w Fz (.func (.func f) #[] vs) (.func f caps)
  | nilf : Imm w Fz .nilFunc .nilf
  | nili : Imm w Fz .nilIface .nili
  | ifi (t k n) : Imm w Fz (.iface t (.int k n)) (.ifi t k n)
  | erri (t v) : Imm w Fz (.iface t v) .erri
  | imapNil (ag : Bool) : Imm w Fz (.map none) (.imap (ag, []) [])
  | imap (g clock : Nat) (es : Array MapEntry) (ks : MKeys) (vs : List (List PV)) (c : Nat → Nat → Value) (hF : Fz g) (hg : w.heap[g]? = some (.map es clock)) (hm : MapSh es clock ks vs c)
      (hr : ∀ i j p, cell2 vs i j = some p → Imm w Fz (c i j) p) : Imm w Fz (.map (some g)) (.imap ks vs)
theorem Imm.mono {w w' : World} {Fz Fz' : Nat → Prop} {v : Value} {p : PV} (h : Imm w Fz v p) (hF : ∀ b, Fz b → Fz' b)
    (hw : ∀ b, Fz b → w'.heap[b]? = w.heap[b]?) : Imm w' Fz' v p := by
  induction h with
  | int k n => exact .int k n
  | bool b => exact .bool b
  | str s => exact .str s
  | imm a n cap sz xs c hn hc hu hcell hr ih =>
    refine .imm a n cap sz xs c hn hc hu (fun i j p hp => ?_) ih
    obtain ⟨ad, ha, hf, hc⟩ := hcell i j p hp
    refine ⟨ad, ha, hF _ hf, ?_⟩
    rw [← hc]
    have hb : (ad.add (i * sz + j)).block = ad.block := by unfold Addr.add; split <;> rfl
    exact World.cell?_of_block (by rw [hb]; exact hw _ hf)
  | iptr ad cs o c hcell hr ih =>
    refine .iptr ad cs o c (fun j p hp => ?_) ih
    obtain ⟨hf, hc⟩ := hcell j p hp
    refine ⟨hF _ hf, ?_⟩
    rw [← hc]
    have hb : (ad.add j).block = ad.block := by unfold Addr.add; split <;> rfl
    exact World.cell?_of_block (by rw [hb]; exact hw _ hf)
  | nils sz => exact .nils sz
  | nilp => exact .nilp
  | func f caps vs c hs hv hr ih => exact .func f caps vs c hs hv ih
  | nilf => exact .nilf
  | nili => exact .nili
  | ifi t k n => exact .ifi t k n
  | erri t v => exact .erri t v
  | imapNil ag => exact .imapNil ag
  | imap g clock es ks vs c hF' hg hm hr ih => exact .imap g clock es ks vs c (hF g hF') ((hw g hF').trans hg) hm ih
theorem Imm.okC {w : World} {Fz : Nat → Prop} {v : Value} {p : PV} (h : Imm w Fz v p) : okC p = true := by
  cases h <;> rfl
theorem Imm.cells {w : World} {Fz : Nat → Prop} {v : Value} {p : PV} (h : Imm w Fz v p) : v.cells = #[v] := by
  cases h <;> rfl
theorem Imm.one {w : World} {Fz : Nat → Prop} {v : Value} {p : PV} (h : Imm w Fz v p) : v.oneCell' = true := by
  cases h <;> rfl
theorem add_block (a : Addr) (n : Nat) : (a.add n).block = a.block := by unfold Addr.add; split <;> rfl
theorem add_add (a : Addr) (n m : Nat) : (a.add n).add m = a.add (n + m) := by
  unfold Addr.add
  by_cases hm : m = 0
  · subst hm; simp
  · by_cases hn : n = 0
    · subst hn; simp
    · simp [hm, hn, Nat.add_assoc]
theorem add_lit (g o : Nat) (m : Nat) : (⟨g, o, none⟩ : Addr).add m = ⟨g, o + m, none⟩ := by
  unfold Addr.add; split <;> simp_all
/-- Values and their plain readings, one by one. -/
def ImmL (w : World) (Fz : Nat → Prop) (vs : List Value) (ps : List PV) : Prop :=
  vs.length = ps.length ∧ ∀ (i : Nat) v p, vs[i]? = some v → ps[i]? = some p → Imm w Fz v p
theorem ImmL.mono {w w' : World} {Fz Fz' : Nat → Prop} {vs : List Value} {ps : List PV} (h : ImmL w Fz vs ps) (hF : ∀ b, Fz b → Fz' b)
    (hw : ∀ b, Fz b → w'.heap[b]? = w.heap[b]?) : ImmL w' Fz' vs ps := ⟨h.1, fun i v p hv hp => (h.2 i v p hv hp).mono hF hw⟩
/-- A cell of a variable of a known type: its own address, or nil where the address will go. -/
def isSelf : PV → Bool
  | .self _ => true
  | .bnil _ => true
  | _ => false
def selfSays (g : Nat) (e : TypeId) (v : Value) : PV → Prop
  | .self t => v = .pointer (some ⟨g, 0, none⟩) ∧ e = t
  | .bnil t => v = .pointer none ∧ e = t
  | _ => True
/-- The cells of a variable: a cell may hold the variable's own address. -/
def SelfOK (g : Nat) (e : TypeId) (vs : List Value) (ps : List PV) : Prop := ps.all cellC = true ∧ ∀ (i : Nat) q, ps[i]? = some q → isSelf q = true → ∃ v, vs[i]? = some v ∧ selfSays g e v q
theorem SelfOK.set {g : Nat} {e : TypeId} {vs : List Value} {ps : List PV} (h : SelfOK g e vs ps) {q : PV} (hq : cellC q = true) (hns : isSelf q = false) (c : Nat) (v : Value) : SelfOK g e (vs.set c v) (ps.set c q) := by
  refine ⟨?_, fun i q' hi hs => ?_⟩
  · have hc := h.1
    rw [List.all_eq_true] at hc ⊢
    intro x hx
    rcases List.mem_or_eq_of_mem_set hx with hx | rfl
    · exact hc x hx
    · exact hq
  · rw [List.getElem?_set] at hi
    by_cases hci : c = i
    · rw [if_pos hci] at hi
      split at hi
      · cases hi
        rw [hns] at hs
        cases hs
      · cases hi
    · rw [if_neg hci] at hi
      rw [List.getElem?_set, if_neg hci]
      exact h.2 i q' hi hs
theorem SelfOK.map {g : Nat} {e : TypeId} {vs : List Value} {ps : List PV} (h : SelfOK g e vs ps) {f : PV → PV} (hc : ∀ q, cellC q = true → cellC (f q) = true) (hf : ∀ q, isSelf (f q) = true → f q = q) : SelfOK g e vs (ps.map f) := by
  refine ⟨?_, fun i q' hi hs => ?_⟩
  · have h1 := h.1
    rw [List.all_eq_true] at h1 ⊢
    intro x hx
    obtain ⟨q, hq, rfl⟩ := List.mem_map.1 hx
    exact hc q (h1 q hq)
  · rw [List.getElem?_map] at hi
    obtain ⟨q, hq, rfl⟩ := Option.map_eq_some_iff.1 hi
    have := hf q hs
    rw [this] at hs ⊢
    exact h.2 i q hq hs
theorem SelfOK.ok {g : Nat} {e : TypeId} {vs : List Value} {ps : List PV} (h : ps.all okC = true) : SelfOK g e vs ps := by
  refine ⟨?_, fun i q hi hs => ?_⟩
  · rw [List.all_eq_true] at h ⊢
    intro x hx
    have := h x hx
    cases x <;> simp_all [cellC, okC]
  · have := List.all_eq_true.1 h q (List.mem_of_getElem? hi)
    cases q <;> simp_all [isSelf, okC]
theorem SelfOK.splice {g : Nat} {e : TypeId} {vs nv : List Value} {ps new : List PV} (h : SelfOK g e vs ps) {o : Nat} (hl : vs.length = ps.length) (hn : nv.length = new.length) (hfit : o + new.length ≤ ps.length)
    (hc : new.all cellC = true) (hns : ∀ q ∈ new, isSelf q = false) : SelfOK g e (vs.take o ++ nv ++ vs.drop (o + nv.length)) (PE.splice ps new o) := by
  refine ⟨?_, fun i q' hi hs => ?_⟩
  · have h1 := h.1
    rw [List.all_eq_true] at h1 hc ⊢
    intro x hx
    unfold PE.splice at hx
    simp only [List.mem_append] at hx
    rcases hx with (hx | hx) | hx
    · exact h1 x (List.mem_of_mem_take hx)
    · exact hc x hx
    · exact h1 x (List.mem_of_mem_drop hx)
  · unfold PE.splice at hi
    rw [List.append_assoc, List.getElem?_append, List.length_take, Nat.min_eq_left (by omega)] at hi ⊢
    split at hi
    · rename_i hlt
      rw [List.getElem?_take, if_pos hlt] at hi
      rw [if_pos (by omega), List.getElem?_take, if_pos hlt]
      exact h.2 i q' hi hs
    · rename_i hlt
      rw [List.getElem?_append] at hi
      split at hi
      · rename_i h2
        have := hns _ (List.mem_of_getElem? hi)
        rw [this] at hs
        cases hs
      · rename_i h2
        rw [List.getElem?_drop] at hi
        obtain ⟨v, hv1, hv2⟩ := h.2 _ q' hi hs
        refine ⟨v, ?_, hv2⟩
        rw [if_neg hlt, List.getElem?_append, if_neg (by omega), List.getElem?_drop]
        rw [← hv1]
        congr 1
        omega
mutual
/-- A value, its reading, and the blocks that it owns. -/
inductive Rep (w : World) (Fz : Nat → Prop) : Value → PV → List Nat → Prop
  | plain {v p} (h : Imm w Fz v p) : Rep w Fz v p []
  | dead (v) : Rep w Fz v .dead []
  | ownNil (st sz) : Rep w Fz (.slice none 0 0) (.own st sz []) []
  | own (g n cap : Nat) (cur : Array Value) (e : TypeId) (st : Stamp) (sz : Nat) (xs : List (List PV)) (c : Nat → Nat → Value)
      (hg : w.heap[g]? = some (.cells cur e (0, 0))) (hn : xs.length = n) (hc : n ≤ cap) (hm : cap ≤ maxLen) (hs : cur.size = cap * sz)
      (hu : ∀ x ∈ xs, x.length = sz) (hcell : ∀ i j p, cell2 xs i j = some p → cur[i * sz + j]? = some (c i j))
      (hr : ∀ i j p, cell2 xs i j = some p → Imm w Fz (c i j) p) : Rep w Fz (.slice (some ⟨g, 0, none⟩) n cap) (.own st sz xs) [g]
  | agg (arr : Array Value) (ps : List PV) (h : ImmL w Fz arr.toList ps) : Rep w Fz (.agg arr) (.agg ps) []
  | tup (arr : Array Value) (ps : List PV) (bs : List Nat) (h : Reps w Fz arr.toList ps bs) : Rep w Fz (.tuple arr) (.tup ps) bs
  | box (g : Nat) (arr : Array Value) (e : TypeId) (st : Stamp) (ps : List PV) (bs : List Nat) (hg : w.heap[g]? = some (.cells arr e (0, 0)))
      (h : Reps w Fz arr.toList ps bs) (hc : SelfOK g e arr.toList ps) :
      Rep w Fz (.pointer (some ⟨g, 0, none⟩)) (.box st ps) (g :: bs)
  | self (v t) : Rep w Fz v (.self t) []
  | bnil (v t) : Rep w Fz v (.bnil t) []
  | omap (g clock : Nat) (es : Array MapEntry) (st : Stamp) (ks : MKeys) (vs : List (List PV)) (c : Nat → Nat → Value) (hg : w.heap[g]? = some (.map es clock)) (hm : MapSh es clock ks vs c)
      (hr : ∀ i j p, cell2 vs i j = some p → Imm w Fz (c i j) p) : Rep w Fz (.map (some g)) (.omap st ks vs) [g]
  | oagg (arr : Array Value) (ps : List PV) (bs : List Nat) (h : Reps w Fz arr.toList ps bs) (hc : ps.all cellC = true) (hs : ∀ q ∈ ps, isSelf q = false) : Rep w Fz (.agg arr) (.oagg ps) bs
inductive Reps (w : World) (Fz : Nat → Prop) : List Value → List PV → List Nat → Prop
  | nil : Reps w Fz [] [] []
  | cons {v vs p ps b bs} (h : Rep w Fz v p b) (hs : Reps w Fz vs ps bs) : Reps w Fz (v :: vs) (p :: ps) (b ++ bs)
end
mutual
theorem Rep.mono {w w' : World} {Fz Fz' : Nat → Prop} {v : Value} {p : PV} {bs : List Nat} (h : Rep w Fz v p bs) (hF : ∀ b, Fz b → Fz' b)
    (hw : ∀ b, Fz b → w'.heap[b]? = w.heap[b]?) (hb : ∀ b ∈ bs, w'.heap[b]? = w.heap[b]?) : Rep w' Fz' v p bs := by
  cases h with
  | plain h => exact .plain (h.mono hF hw)
  | dead v => exact .dead v
  | self v t => exact .self v t
  | bnil v t => exact .bnil v t
  | omap g clock es st ks vs c hg hm hr => exact .omap g clock es st ks vs c ((hb g (by simp)).trans hg) hm fun i j p hp => (hr i j p hp).mono hF hw
  | oagg arr ps bs h hc hs => exact .oagg arr ps bs (Reps.mono h hF hw hb) hc hs
  | ownNil st sz => exact .ownNil st sz
  | own g n cap cur e st sz xs c hg hn hc hm hs hu hcell hr =>
    exact .own g n cap cur e st sz xs c ((hb g (by simp)).trans hg) hn hc hm hs hu hcell fun i j p hp => (hr i j p hp).mono hF hw
  | agg arr ps h => exact .agg arr ps (h.mono hF hw)
  | tup arr ps bs h => exact .tup arr ps bs (Reps.mono h hF hw hb)
  | box g arr e st ps bs hg h hc => exact .box g arr e st ps bs ((hb g (by simp)).trans hg) (Reps.mono h hF hw fun b hb' => hb b (by simp [hb'])) hc
theorem Reps.mono {w w' : World} {Fz Fz' : Nat → Prop} {vs : List Value} {ps : List PV} {bs : List Nat} (h : Reps w Fz vs ps bs) (hF : ∀ b, Fz b → Fz' b)
    (hw : ∀ b, Fz b → w'.heap[b]? = w.heap[b]?) (hb : ∀ b ∈ bs, w'.heap[b]? = w.heap[b]?) : Reps w' Fz' vs ps bs := by
  cases h with
  | nil => exact .nil
  | cons h hs => exact .cons (Rep.mono h hF hw fun b hb' => hb b (by simp [hb'])) (Reps.mono hs hF hw fun b hb' => hb b (by simp [hb']))
end
theorem Reps.length {w : World} {Fz : Nat → Prop} : ∀ {vs : List Value} {ps : List PV} {bs : List Nat}, Reps w Fz vs ps bs → vs.length = ps.length
  | _, _, _, .nil => rfl
  | _, _, _, .cons _ hs => by simp [Reps.length hs]
/-- The value that stands at a place of a slot. -/
def PlaceVal (w : World) (v : Value) (pl : Option Nat) (u : Value) : Prop :=
  match pl with
  | none => v = u
  | some c => ∃ g, v = .pointer (some ⟨g, 0, none⟩) ∧ w.cell? ⟨g, c, none⟩ = some u
abbrev Tm := Nat → Value
/-- What a slot that speaks of another slot says. -/
def RefV (w : World) (Fz : Nat → Prop) (e : Env) (tm : Tm) (u : Value) : PV → Prop
  | .loc r st o => ∀ cs, e r = .box st cs → ∃ g, tm r = .pointer (some ⟨g, 0, none⟩) ∧ u = .pointer (some ⟨g, o, none⟩)
  | .eloc r pl st i k => ∀ sz xs, rowIf (e r) pl st = some (sz, xs) → ∃ ad n cap, PlaceVal w (tm r) pl (.slice (some ad) n cap) ∧ i < xs.length ∧
      u = .pointer (some (ad.add (i * sz + k)))
  | .snap r pl st off len => ∀ sz xs, rowIf (e r) pl st = some (sz, xs) → off + len ≤ xs.length ∧ ∃ A n cap A' cap', PlaceVal w (tm r) pl (.slice A n cap) ∧
      u = .slice A' len cap' ∧ len ≤ cap' ∧ (off = 0 → A' = A ∧ cap' = cap) ∧ (∀ ad, A = some ad → 0 < len → A' = some (ad.add (off * sz)))
  | .back g r pl st off len => ∀ sz xs, rowIf (e r) pl st = some (sz, xs) → sz = 1 ∧ off + len ≤ xs.length ∧ ∃ A n cap A' cap' bx ty, PlaceVal w (tm r) pl (.slice A n cap) ∧
      u = .func (.func g) #[] #[.pointer (some ⟨bx, 0, none⟩)] ∧ Fz bx ∧ w.heap[bx]? = some (.cells #[.slice A' len cap'] ty (0, 0)) ∧ (∀ ad, A = some ad → 0 < len → A' = some (ad.add (off * sz)))
  | .pvar r st => ∀ cs, e r = .box st cs → ∃ g ty, u = .pointer (some ⟨g, 0, none⟩) ∧ Fz g ∧ w.heap[g]? = some (.cells #[tm r] ty (0, 0))
  | .mref r pl st => ∀ ks vs, mapIf (e r) pl st = some (ks, vs) → PlaceVal w (tm r) pl u
  | _ => True
def isRef : PV → Bool
  | .loc .. | .eloc .. | .snap .. | .dead | .back .. | .pvar .. | .mref .. => true
  | _ => false
def SlotRep (w : World) (Fz : Nat → Prop) (e : Env) (tm : Tm) (s : Nat) (bs : List Nat) : Prop :=
  if isRef (e s) then bs = [] ∧ RefV w Fz e tm (tm s) (e s) else Rep w Fz (tm s) (e s) bs
def stampsC : PV → List Stamp
  | .own st _ _ => [st]
  | .omap st _ _ => [st]
  | _ => []
def stamps1 : PV → List Stamp
  | .own st _ _ => [st]
  | .omap st _ _ => [st]
  | .oagg cs => cs.flatMap stampsC
  | .box st cs => st :: cs.flatMap stampsC
  | _ => []
def stampsOf : PV → List Stamp
  | .tup vs => vs.flatMap stamps1
  | .loc _ st _ => [st]
  | .eloc _ _ st _ _ => [st]
  | .snap _ _ st _ _ => [st]
  | .back _ _ _ st _ _ => [st]
  | .pvar _ st => [st]
  | .mref _ _ st => [st]
  | v => stamps1 v
/-- What is fixed for a call: the world in which it began, the blocks that it was given to write, the blocks that nobody wrote ahead of it. -/
structure Base where
  w0 : World
  A0 : List Nat
  F0 : Nat → Prop
  vv : Value := undef
  D0 : List Nat := []
/-- The package variables that nobody writes: they read as told; block 0 holds just the table's cells. -/
def Glob (w : World) (Fz : Nat → Prop) : Prop := (∀ g, okC (globPV g) = true → Imm w Fz (.pointer (some ⟨g, 0, none⟩)) (globPV g)) ∧ Fz 3 ∧ ∃ cs e r, w.heap[3]? = some (.cells cs e r) ∧ cs.size = 20
theorem Glob.mono {w w' : World} {Fz Fz' : Nat → Prop} (h : Glob w Fz) (hF : ∀ b, Fz b → Fz' b) (hw : ∀ b, Fz b → w'.heap[b]? = w.heap[b]?) : Glob w' Fz' :=
  ⟨fun g hg => (h.1 g hg).mono hF hw, hF 3 h.2.1, by rw [hw 3 h.2.1]; exact h.2.2⟩
theorem globPV_cases (g : Nat) : globPV g = .dead ∨ ∃ cs o, globPV g = .iptr cs o := by
  unfold globPV
  split
  · exact .inr ⟨_, _, rfl⟩
  · exact .inl rfl
structure Inv (B : Base) (Fz : Nat → Prop) (e : Env) (tm : Tm) (w : World) (ob : Nat → List Nat) (S : Stamp → Prop) : Prop where
  rep : ∀ s, SlotRep w Fz e tm s (ob s)
  nodup : ∀ s, (ob s).Nodup
  disj : ∀ s t, s ≠ t → ∀ b ∈ ob s, b ∉ ob t
  notFz : ∀ s, ∀ b ∈ ob s, ¬ Fz b
  lt : ∀ s, ∀ b ∈ ob s, b < w.heap.size
  fzlt : ∀ b, Fz b → b < w.heap.size
  mine : ∀ s, ∀ b ∈ ob s, b ∈ B.A0 ∨ B.w0.heap.size ≤ b
  fz0 : ∀ b, B.F0 b → Fz b
  fzo : ∀ b, Fz b → B.F0 b ∨ b ∈ B.A0 ∨ B.w0.heap.size ≤ b
  stamps : ∀ s, ∀ st ∈ stampsOf (e s), S st
  os : w.os = B.w0.os
  tape : w.tape = B.w0.tape
  output : w.output = B.w0.output
  size : B.w0.heap.size ≤ w.heap.size
  frame : ∀ i, i < B.w0.heap.size → i ∉ B.A0 → w.heap[i]? = B.w0.heap[i]?
  glob : Glob w Fz
  dfr : ∀ D ∈ B.D0, w.heap[D]? = some (.deferred (some [])) ∧ ¬ Fz D ∧ (∀ s, D ∉ ob s) ∧ B.w0.heap.size ≤ D
/-- What a slot was and what it is, seen by those that speak of it. -/
def RootStep (S : Stamp → Prop) (w w' : World) (v v' : PV) (u u' : Value) : Prop :=
  (∀ st cs', v' = .box st cs' → S st → ∃ cs, v = .box st cs ∧ u' = u) ∧
  (∀ pl st sz xs', rowIf v' pl st = some (sz, xs') → S st → ∃ xs, rowIf v pl st = some (sz, xs) ∧ xs.length = xs'.length ∧
    ∀ x, PlaceVal w u pl x → PlaceVal w' u' pl x) ∧
  (∀ pl st ks' vs', mapIf v' pl st = some (ks', vs') → S st → ∃ ks vs, mapIf v pl st = some (ks, vs) ∧ ∀ x, PlaceVal w u pl x → PlaceVal w' u' pl x)
theorem RootStep.refl {S : Stamp → Prop} {w : World} {v : PV} {u : Value} : RootStep S w w v v u u :=
  ⟨fun _ cs h _ => ⟨cs, h, rfl⟩, fun _ _ _ xs h _ => ⟨xs, h, rfl, fun _ h => h⟩, fun _ _ ks vs h _ => ⟨ks, vs, h, fun _ h => h⟩⟩
theorem rowIf_stamp {v : PV} {pl : Option Nat} {st : Stamp} {sz : Nat} {xs : List (List PV)} (h : rowIf v pl st = some (sz, xs)) : rowAt? v pl = some (st, sz, xs) := by
  unfold rowIf at h
  split at h
  · rename_i st' sz' xs' h'
    split at h
    · rename_i hs; subst hs; simp only [Option.some.injEq, Prod.mk.injEq] at h; rw [h', h.1, h.2]
    · cases h
  · cases h
theorem rowIf_of {v : PV} {pl : Option Nat} {st : Stamp} {sz : Nat} {xs : List (List PV)} (h : rowAt? v pl = some (st, sz, xs)) : rowIf v pl st = some (sz, xs) := by
  simp [rowIf, h]
theorem mapIf_stamp {v : PV} {pl : Option Nat} {st : Stamp} {ks : MKeys} {vs : List (List PV)} (h : mapIf v pl st = some (ks, vs)) : mapAt? v pl = some (st, ks, vs) := by
  unfold mapIf at h
  split at h
  · rename_i st' ks' vs' h'
    split at h
    · rename_i hs; subst hs; simp only [Option.some.injEq, Prod.mk.injEq] at h; rw [h', h.1, h.2]
    · cases h
  · cases h
theorem mapIf_of {v : PV} {pl : Option Nat} {st : Stamp} {ks : MKeys} {vs : List (List PV)} (h : mapAt? v pl = some (st, ks, vs)) : mapIf v pl st = some (ks, vs) := by
  simp [mapIf, h]
/-- Whatever is new in a slot bears a fresh stamp: nobody speaks of it. -/
theorem RootStep.fresh {S : Stamp → Prop} {w w' : World} {v v' : PV} {u u' : Value} (h : ∀ st ∈ stamps1 v', ¬ S st) : RootStep S w w' v v' u u' := by
  refine ⟨fun st cs' hv hs => absurd hs (h st (by simp [hv, stamps1])), fun pl st sz xs' hr hs => ?_, fun pl st ks' vs' hr hs => ?_⟩
  rotate_left
  · have hr := mapIf_stamp hr
    unfold mapAt? at hr
    split at hr
    · simp only [Option.some.injEq, Prod.mk.injEq] at hr
      exact absurd hs (h st (by simp [stamps1, hr.1]))
    · split at hr
      · rename_i hc
        simp only [Option.some.injEq, Prod.mk.injEq] at hr
        refine absurd hs (h st ?_)
        simp only [stamps1, List.mem_cons, List.mem_flatMap]
        exact .inr ⟨_, List.mem_of_getElem? hc, by simp [stampsC, hr.1]⟩
      · cases hr
    · cases hr
  have hr := rowIf_stamp hr
  unfold rowAt? at hr
  split at hr
  · simp only [Option.some.injEq, Prod.mk.injEq] at hr
    exact absurd hs (h st (by simp [stamps1, hr.1]))
  · rename_i c st' cs
    split at hr
    · rename_i st'' sz' xs'' hc
      simp only [Option.some.injEq, Prod.mk.injEq] at hr
      refine absurd hs (h st ?_)
      simp only [stamps1, List.mem_cons, List.mem_flatMap]
      exact .inr ⟨_, List.mem_of_getElem? hc, by simp [stampsC, hr.1]⟩
    · cases hr
  · cases hr
theorem PlaceVal.mono {w w' : World} {v : Value} {pl : Option Nat} {x : Value} (h : PlaceVal w v pl x)
    (hb : ∀ g, v = .pointer (some ⟨g, 0, none⟩) → w'.heap[g]? = w.heap[g]?) : PlaceVal w' v pl x := by
  cases pl with
  | none => exact h
  | some c =>
    obtain ⟨g, hv, hc⟩ := h
    exact ⟨g, hv, (World.cell?_of_block (a := ⟨g, c, none⟩) (hb g hv)).trans hc⟩
/-- A slot whose blocks stay as they are. -/
theorem RootStep.kept {S : Stamp → Prop} {w w' : World} {Fz : Nat → Prop} {e : Env} {tm : Tm} {s : Nat} {bs : List Nat} (h : SlotRep w Fz e tm s bs)
    (hb : ∀ b ∈ bs, w'.heap[b]? = w.heap[b]?) : RootStep S w w' (e s) (e s) (tm s) (tm s) := by
  have box : ∀ c st cs, e s = .box st cs → ∀ x, PlaceVal w (tm s) (some c) x → PlaceVal w' (tm s) (some c) x := fun c st cs he x hx => by
    refine hx.mono fun g hg => ?_
    unfold SlotRep at h
    rw [he, if_neg (by simp [isRef])] at h
    generalize tm s = u at *
    cases h with
    | plain h => exact absurd h.okC (by simp [okC])
    | box g' arr e' st ps bs hg' h hc =>
      simp only [Value.pointer.injEq, Option.some.injEq, Addr.mk.injEq, and_true] at hg
      subst hg
      exact hb _ (by simp)
  refine ⟨fun _ cs h _ => ⟨cs, h, rfl⟩, fun pl st sz xs hr _ => ⟨xs, hr, rfl, fun x hx => ?_⟩, fun pl st ks vs hr _ => ⟨ks, vs, hr, fun x hx => ?_⟩⟩
  rotate_left
  · have hr := mapIf_stamp hr
    cases pl with
    | none => exact hx
    | some c =>
      unfold mapAt? at hr
      split at hr
      · rename_i h0 _; cases h0
      · rename_i c' st' cs h1 h2
        cases h1
        exact box c st' cs h2 x hx
      · cases hr
  have hr := rowIf_stamp hr
  cases pl with
  | none => exact hx
  | some c =>
    unfold rowAt? at hr
    split at hr
    · rename_i h0 _; cases h0
    · rename_i c' st' cs h1 h2
      cases h1
      exact box c st' cs h2 x hx
    · cases hr
theorem RefV.step {S : Stamp → Prop} {w w' : World} {Fz Fz' : Nat → Prop} {e e' : Env} {tm tm' : Tm} {u : Value} {v : PV} (h : RefV w Fz e tm u v)
    (hS : ∀ st ∈ stampsOf v, S st) (hF : ∀ b, Fz b → Fz' b) (hw : ∀ b, Fz b → w'.heap[b]? = w.heap[b]?) (hr : ∀ r, RootStep S w w' (e r) (e' r) (tm r) (tm' r)) : RefV w' Fz' e' tm' u v := by
  cases v <;> simp only [RefV] at h ⊢
  case loc r st o =>
    intro cs' hc
    obtain ⟨cs, h1, h2⟩ := (hr r).1 st cs' hc (hS st (by simp [stampsOf]))
    rw [h2]
    exact h cs h1
  case eloc r pl st i k =>
    intro sz xs' hx
    obtain ⟨xs, h1, h2, h3⟩ := (hr r).2.1 pl st sz xs' hx (hS st (by simp [stampsOf]))
    obtain ⟨ad, n, cap, h4, h5, h6⟩ := h sz xs h1
    exact ⟨ad, n, cap, h3 _ h4, by omega, h6⟩
  case snap r pl st off len =>
    intro sz xs' hx
    obtain ⟨xs, h1, h2, h3⟩ := (hr r).2.1 pl st sz xs' hx (hS st (by simp [stampsOf]))
    obtain ⟨h4, A, n, cap, A', cap', h5, h6⟩ := h sz xs h1
    exact ⟨by omega, A, n, cap, A', cap', h3 _ h5, h6⟩
  case back g r pl st off len =>
    intro sz xs' hx
    obtain ⟨xs, h1, h2, h3⟩ := (hr r).2.1 pl st sz xs' hx (hS st (by simp [stampsOf]))
    obtain ⟨h0, h4, A, n, cap, A', cap', bx, ty, h5, h6, h7, h8, h9⟩ := h sz xs h1
    exact ⟨h0, by omega, A, n, cap, A', cap', bx, ty, h3 _ h5, h6, hF _ h7, (hw _ h7).trans h8, h9⟩
  case pvar r st =>
    intro cs' hc
    obtain ⟨cs, h1, h2⟩ := (hr r).1 st cs' hc (hS st (by simp [stampsOf]))
    obtain ⟨g, ty, h3, h4, h5⟩ := h cs h1
    exact ⟨g, ty, h3, hF _ h4, by rw [h2]; exact (hw _ h4).trans h5⟩
  case mref r pl st =>
    intro ks' vs' hx
    obtain ⟨ks, vs, h1, h2⟩ := (hr r).2.2 pl st ks' vs' hx (hS st (by simp [stampsOf]))
    exact h2 _ (h ks vs h1)
/-- A step: T: the slots that it touches. -/
theorem Inv.step {B : Base} {Fz Fz' : Nat → Prop} {e e' : Env} {tm tm' : Tm} {w w' : World} {ob ob' : Nat → List Nat} {S S' : Stamp → Prop}
    (I : Inv B Fz e tm w ob S) (T : Nat → Prop) (hSS : ∀ st, S st → S' st)
    (hos : w'.os = w.os) (htape : w'.tape = w.tape) (hout : w'.output = w.output) (hsize : w.heap.size ≤ w'.heap.size)
    (hheap : ∀ b, b < w.heap.size → (∀ t, T t → b ∉ ob t) → w'.heap[b]? = w.heap[b]?)
    (hkeep : ∀ s, ¬ T s → e' s = e s ∧ tm' s = tm s ∧ ob' s = ob s)
    (hFF : ∀ b, Fz b → Fz' b) (hF' : ∀ b, Fz' b → Fz b ∨ (∃ t, T t ∧ b ∈ ob t) ∨ w.heap.size ≤ b ∧ b < w'.heap.size)
    (hob : ∀ s, T s → ∀ b ∈ ob' s, ((∃ t, T t ∧ b ∈ ob t) ∨ w.heap.size ≤ b ∧ b < w'.heap.size) ∧ ¬ Fz' b)
    (hnd : ∀ s, T s → (ob' s).Nodup) (hdj : ∀ s t, T s → T t → s ≠ t → ∀ b ∈ ob' s, b ∉ ob' t)
    (hst : ∀ s, T s → ∀ st ∈ stampsOf (e' s), S' st)
    (hroot : ∀ s, T s → RootStep S w w' (e s) (e' s) (tm s) (tm' s))
    (hrep : (∀ r, RootStep S w w' (e r) (e' r) (tm r) (tm' r)) → ∀ s, T s → SlotRep w' Fz' e' tm' s (ob' s)) :
    Inv B Fz' e' tm' w' ob' S' := by
  have hown : ∀ s, ¬ T s → ∀ b ∈ ob s, w'.heap[b]? = w.heap[b]? := fun s hs b hb =>
    hheap b (I.lt s b hb) fun t ht hbt => I.disj s t (fun h => hs (h ▸ ht)) b hb hbt
  have hfz : ∀ b, Fz b → w'.heap[b]? = w.heap[b]? := fun b hb => hheap b (I.fzlt b hb) fun t _ hbt => I.notFz t b hbt hb
  have hroot' : ∀ r, RootStep S w w' (e r) (e' r) (tm r) (tm' r) := fun r => by
    by_cases hr : T r
    · exact hroot r hr
    · rw [(hkeep r hr).1, (hkeep r hr).2.1]
      exact RootStep.kept (I.rep r) (hown r hr)
  have hk : ∀ s, ¬ T s → SlotRep w' Fz' e' tm' s (ob' s) := fun s hs => by
    obtain ⟨h1, h2, h3⟩ := hkeep s hs
    have h := I.rep s
    unfold SlotRep at h ⊢
    rw [h1, h3]
    split
    · rename_i hr
      rw [if_pos hr] at h
      rw [h2]
      exact ⟨h.1, h.2.step (I.stamps s) hFF hfz hroot'⟩
    · rename_i hr
      rw [if_neg hr] at h
      rw [h2]
      exact h.mono hFF hfz (hown s hs)
  have hin : ∀ s b, b ∈ ob' s → (∃ t, b ∈ ob t) ∨ w.heap.size ≤ b ∧ b < w'.heap.size := fun s b hb => by
    by_cases hs : T s
    · rcases (hob s hs b hb).1 with ⟨t, _, h⟩ | h
      · exact .inl ⟨t, h⟩
      · exact .inr h
    · exact .inl ⟨s, by rw [(hkeep s hs).2.2] at hb; exact hb⟩
  refine ⟨fun s => ?_, fun s => ?_, fun s t hne b hs ht => ?_, fun s b hb hf => ?_, fun s b hb => ?_, fun b hb => ?_, fun s b hb => ?_, fun b hb => hFF b (I.fz0 b hb), fun b hb => ?_,
    fun s st hs => ?_, hos.trans I.os, htape.trans I.tape, hout.trans I.output, Nat.le_trans I.size hsize, fun i hi hA => ?_, I.glob.mono hFF hfz,
    fun D hD => ?_⟩
  rotate_right
  · obtain ⟨d1, d2, d3, d4⟩ := I.dfr D hD
    have dlt : D < w.heap.size := (Array.getElem?_eq_some_iff.1 d1).1
    refine ⟨(hheap D dlt fun t _ h => d3 t h).trans d1, fun hf => ?_, fun s hs => ?_, d4⟩
    · rcases hF' D hf with h | ⟨t, _, h⟩ | h
      · exact d2 h
      · exact d3 t h
      · omega
    · rcases hin s D hs with ⟨t, h⟩ | h
      · exact d3 t h
      · omega
  · by_cases hs : T s
    · exact hrep hroot' s hs
    · exact hk s hs
  · by_cases hs : T s
    · exact hnd s hs
    · rw [(hkeep s hs).2.2]; exact I.nodup s
  · by_cases hTs : T s <;> by_cases hTt : T t
    · exact hdj s t hTs hTt hne b hs ht
    · rw [(hkeep t hTt).2.2] at ht
      rcases (hob s hTs b hs).1 with ⟨r, hr, hbr⟩ | h
      · exact I.disj r t (fun h => hTt (h ▸ hr)) b hbr ht
      · have := I.lt t b ht; omega
    · rw [(hkeep s hTs).2.2] at hs
      rcases (hob t hTt b ht).1 with ⟨r, hr, hbr⟩ | h
      · exact I.disj r s (fun h => hTs (h ▸ hr)) b hbr hs
      · have := I.lt s b hs; omega
    · rw [(hkeep s hTs).2.2] at hs
      rw [(hkeep t hTt).2.2] at ht
      exact I.disj s t hne b hs ht
  · by_cases hs : T s
    · exact (hob s hs b hb).2 hf
    · rw [(hkeep s hs).2.2] at hb
      rcases hF' b hf with h | ⟨t, ht, h⟩ | h
      · exact I.notFz s b hb h
      · exact I.disj t s (fun e => hs (e ▸ ht)) b h hb
      · have := I.lt s b hb; omega
  · rcases hin s b hb with ⟨t, h⟩ | h
    · exact Nat.lt_of_lt_of_le (I.lt t b h) hsize
    · exact h.2
  · rcases hF' b hb with h | ⟨t, _, h⟩ | h
    · exact Nat.lt_of_lt_of_le (I.fzlt b h) hsize
    · exact Nat.lt_of_lt_of_le (I.lt t b h) hsize
    · exact h.2
  · rcases hin s b hb with ⟨t, h⟩ | h
    · exact I.mine t b h
    · exact .inr (Nat.le_trans I.size h.1)
  · rcases hF' b hb with h | ⟨t, _, h⟩ | h
    · exact I.fzo b h
    · exact .inr (I.mine t b h)
    · exact .inr (.inr (Nat.le_trans I.size h.1))
  · by_cases hs' : T s
    · exact hst s hs' st hs
    · rw [(hkeep s hs').1] at hs
      exact hSS _ (I.stamps s st hs)
  · rw [← I.frame i hi hA]
    refine hheap i (Nat.lt_of_lt_of_le hi I.size) fun t _ hb => ?_
    rcases I.mine t i hb with h | h
    · exact hA h
    · omega
def upd (e : Nat → α) (d : Nat) (v : α) : Nat → α := fun t => if t = d then v else e t
theorem upd_same (e : Nat → α) (d : Nat) (v : α) : upd e d v d = v := by simp [upd]
theorem upd_other {e : Nat → α} {d : Nat} {v : α} {t : Nat} (h : t ≠ d) : upd e d v t = e t := by simp [upd, h]
/-- One slot gets a value: what it owns is new. -/
theorem Inv.put1 {B : Base} {Fz : Nat → Prop} {e : Env} {tm : Tm} {w w' : World} {ob : Nat → List Nat} {S S' : Stamp → Prop}
    (I : Inv B Fz e tm w ob S) (d : Nat) (v : PV) (u : Value) (bs : List Nat) (hSS : ∀ st, S st → S' st)
    (hos : w'.os = w.os) (htape : w'.tape = w.tape) (hout : w'.output = w.output) (hsize : w.heap.size ≤ w'.heap.size)
    (hheap : ∀ b, b < w.heap.size → w'.heap[b]? = w.heap[b]?)
    (hbs : ∀ b ∈ bs, w.heap.size ≤ b ∧ b < w'.heap.size) (hnd : bs.Nodup)
    (hst : ∀ st ∈ stampsOf v, S' st) (hfresh : ∀ st ∈ stamps1 v, ¬ S st)
    (hrep : if isRef v then bs = [] ∧ RefV w Fz e tm u v ∧ ∀ st ∈ stampsOf v, S st else Rep w' Fz u v bs) :
    Inv B Fz (upd e d v) (upd tm d u) w' (upd ob d bs) S' := by
  refine I.step (fun s => s = d) hSS hos htape hout hsize (fun b hb _ => hheap b hb) (fun s hs => ⟨upd_other hs, upd_other hs, upd_other hs⟩)
    (fun b hb => hb) (fun b hb => .inl hb) ?_ ?_ ?_ ?_ ?_ ?_
  · rintro s rfl b hb
    rw [upd_same] at hb
    exact ⟨.inr (hbs b hb), fun hf => by have := I.fzlt b hf; have := (hbs b hb).1; omega⟩
  · rintro s rfl; rw [upd_same]; exact hnd
  · rintro s t rfl rfl hne; exact absurd rfl hne
  · rintro s rfl st hs; rw [upd_same] at hs; exact hst st hs
  · rintro s rfl; rw [upd_same, upd_same]; exact RootStep.fresh hfresh
  · rintro hr s rfl
    unfold SlotRep
    rw [upd_same, upd_same, upd_same]
    split
    · rename_i h; rw [if_pos h] at hrep; exact ⟨hrep.1, hrep.2.1.step hrep.2.2 (fun _ h => h) (fun b hb => hheap b (I.fzlt b hb)) hr⟩
    · rename_i h; rw [if_neg h] at hrep; exact hrep
end Go.PE
namespace Go.PE
open Go.RowKit
def tmOf (B : Base) (a : Act) : Tm := fun s => if s = VS then B.vv else a.tmps.getD s undef
theorem tmOf_ne (B : Base) (a : Act) {t : Nat} (h : t ≠ VS) : tmOf B a t = a.eval (.tmp t) := if_neg h
theorem opv_tmp (e : Env) (t : Nat) : (opv e (.tmp t) = .dead ∧ t = VS) ∨ (opv e (.tmp t) = e t ∧ t ≠ VS) := by
  by_cases h : t = VS
  · exact .inl ⟨if_pos h, h⟩
  · exact .inr ⟨if_neg h, h⟩
theorem res_tmp (e : Env) (s : Nat) : (s = VS ∧ res e (.tmp s) = (.dead, .dead)) ∨ (s ≠ VS ∧ res e (.tmp s) = (e s, match rootOf (e s) with | some r => e r | none => .dead)) := by
  by_cases h : s = VS
  · refine .inl ⟨h, ?_⟩
    simp only [res, opv, if_pos h, rootOf]
  · refine .inr ⟨h, ?_⟩
    simp only [res, opv, if_neg h]
    rfl
theorem res_ne (e : Env) {s : Nat} (h : s ≠ VS) : res e (.tmp s) = (e s, match rootOf (e s) with | some r => e r | none => .dead) := by simp only [res, opv, if_neg h]; rfl
theorem tmp_val {e : Env} {t : Nat} {v : PV} (h : (res e (.tmp t)).1 = v) (hd : v ≠ .dead) : t ≠ VS ∧ e t = v := by
  rcases res_tmp e t with ⟨_, h2⟩ | ⟨h1, h2⟩
  · rw [h2] at h; exact absurd h.symm hd
  · rw [h2] at h; exact ⟨h1, h⟩
theorem const_imm {w : World} {Fz : Nat → Prop} (v : Value) (h : okC (constPV v) = true) : Imm w Fz v (constPV v) := by
  unfold constPV at h ⊢
  split <;> simp only [okC, Bool.false_eq_true] at h
  · exact .int _ _
  · exact .bool _
  · exact .str _
  · exact .nilp
  · exact .nilf
  · exact .nili
  · exact .imapNil false
theorem const_cases (v : Value) : okC (constPV v) = true ∨ constPV v = .dead := by
  unfold constPV
  split <;> simp [okC]
theorem Rep.imm {w : World} {Fz : Nat → Prop} {v : Value} {p : PV} {bs : List Nat} (h : Rep w Fz v p bs) (hp : okC p = true) : Imm w Fz v p := by
  cases h with
  | plain h => exact h
  | dead => simp [okC] at hp
  | self => simp [okC] at hp
  | bnil => simp [okC] at hp
  | omap => simp [okC] at hp
  | oagg => simp [okC] at hp
  | ownNil => simp [okC] at hp
  | own => simp [okC] at hp
  | agg => simp [okC] at hp
  | tup => simp [okC] at hp
  | box => simp [okC] at hp
theorem ok_not_ref {p : PV} (h : okC p = true) : isRef p = false := by cases p <;> simp_all [okC, isRef]
section
variable {B : Base} {Fz : Nat → Prop} {e : Env} {a : Act} {tm : Tm} {w : World} {ob : Nat → List Nat} {S : Stamp → Prop}
theorem Inv.slot (I : Inv B Fz e tm w ob S) (t : Nat) (h : isRef (e t) = false) : Rep w Fz (tm t) (e t) (ob t) := by
  have := I.rep t
  unfold SlotRep at this
  rw [h] at this
  exact this
theorem Inv.ref (I : Inv B Fz e tm w ob S) (t : Nat) (h : isRef (e t) = true) : RefV w Fz e tm (tm t) (e t) := by
  have := I.rep t
  unfold SlotRep at this
  rw [h] at this
  exact this.2
/-- A plain operand's value. -/
theorem Inv.imm (I : Inv B Fz e (tmOf B a) w ob S) (x : Operand) (h : okC (opv e x) = true) : Imm w Fz (a.eval x) (opv e x) := by
  cases x with
  | tmp t =>
    rcases opv_tmp e t with ⟨h1, _⟩ | ⟨h1, h2⟩
    · rw [h1] at h; simp [okC] at h
    · rw [h1] at h ⊢
      have := (I.slot t (ok_not_ref h)).imm h
      rw [tmOf_ne B a h2] at this
      exact this
  | const v => exact const_imm v h
  | global g => exact I.glob.1 g h
  | func f => exact .func f [] #[] (fun _ => undef) rfl (fun i p hp => by simp at hp) (fun i p hp => by simp at hp)
theorem res_fst (e : Env) (x : Operand) : (res e x).1 = opv e x := rfl
/-- The hint speaks of a literal nil alone. -/
theorem hint_cases (P : Program) (t : TypeId) (x : Operand) (vr : PV × PV) : hint P t x vr = vr ∨ (x = .const (.slice none 0 0) ∧ ∃ n, hint P t x vr = (.nils n, .dead)) := by
  unfold hint
  split
  · split
    · exact .inr ⟨rfl, _, rfl⟩
    · exact .inl rfl
  · exact .inl rfl
theorem Inv.immH (I : Inv B Fz e (tmOf B a) w ob S) (P : Program) (t : TypeId) (x : Operand) (h : okC (hint P t x (res e x)).1 = true) :
    Imm w Fz (a.eval x) (hint P t x (res e x)).1 := by
  rcases hint_cases P t x (res e x) with h' | ⟨rfl, n, h'⟩
  · rw [h'] at h ⊢
    exact I.imm x h
  · rw [h']
    exact .nils n
theorem hint_ne (P : Program) (t : TypeId) (x : Operand) (vr : PV × PV) (h : okC (hint P t x vr).1 = false) : hint P t x vr = vr := by
  rcases hint_cases P t x vr with h' | ⟨_, n, h'⟩
  · exact h'
  · rw [h'] at h; simp [okC] at h
theorem Reps.get {w : World} {Fz : Nat → Prop} : ∀ {vs : List Value} {ps : List PV} {bs : List Nat}, Reps w Fz vs ps bs → ∀ {i : Nat} {p : PV}, ps[i]? = some p →
    ∃ v b, vs[i]? = some v ∧ Rep w Fz v p b ∧ ∀ x ∈ b, x ∈ bs
  | _, _, _, .nil, i, p, h => by simp at h
  | _, _, _, .cons (v := v) (b := b) h hs, 0, p, hp => by
    simp only [List.getElem?_cons_zero, Option.some.injEq] at hp
    subst hp
    exact ⟨v, b, rfl, h, fun x hx => by simp [hx]⟩
  | _, _, _, .cons h hs, i + 1, p, hp => by
    obtain ⟨v, b, h1, h2, h3⟩ := Reps.get hs (i := i) (p := p) (by simpa using hp)
    exact ⟨v, b, by simpa using h1, h2, fun x hx => by simp [h3 x hx]⟩
/-- The row at a place of a slot: the value that stands there. -/
theorem Inv.row (I : Inv B Fz e tm w ob S) {r : Nat} {pl : Option Nat} {st : Stamp} {sz : Nat} {xs : List (List PV)} (h : rowIf (e r) pl st = some (sz, xs)) :
    ∃ u bs, PlaceVal w (tm r) pl u ∧ Rep w Fz u (.own st sz xs) bs ∧ ∀ b ∈ bs, b ∈ ob r := by
  replace h := rowIf_stamp h
  unfold rowAt? at h
  split at h
  · rename_i st' sz' xs' he
    simp only [Option.some.injEq, Prod.mk.injEq] at h
    obtain ⟨rfl, rfl, rfl⟩ := h
    have := I.slot r (by rw [he]; rfl)
    rw [he] at this
    exact ⟨_, _, rfl, this, fun b hb => hb⟩
  · rename_i c st' cs he
    split at h
    · rename_i st'' sz' xs' hc
      simp only [Option.some.injEq, Prod.mk.injEq] at h
      obtain ⟨rfl, rfl, rfl⟩ := h
      have := I.slot r (by rw [he]; rfl)
      rw [he] at this
      generalize tm r = u at *
      generalize ob r = bs at *
      cases this with
      | plain h => exact absurd h.okC (by simp [okC])
      | box g arr e' _ _ bs' hg hR hcc =>
        obtain ⟨v, b, h1, h2, h3⟩ := hR.get hc
        refine ⟨v, b, ⟨g, rfl, ?_⟩, h2, fun x hx => by simp [h3 x hx]⟩
        simp only [World.cell?, hg]
        simpa using h1
    · cases h
  · cases h
end
/-- A row that is owned reads as a plain one, where its block counts as one that nobody writes. -/
theorem Rep.row_imm {w : World} {Fz : Nat → Prop} {u : Value} {st : Stamp} {sz : Nat} {xs : List (List PV)} {bs : List Nat} (h : Rep w Fz u (.own st sz xs) bs) :
    Imm w (fun b => Fz b ∨ b ∈ bs) u (.imm sz xs) := by
  cases h with
  | plain h => exact absurd h.okC (by simp [okC])
  | ownNil => exact .imm none 0 0 sz [] (fun _ _ => undef) rfl (Nat.le_refl _) (by simp) (fun i j p hp => by simp [cell2] at hp) (fun i j p hp => by simp [cell2] at hp)
  | own g n cap cur e st sz xs c hg hn hc hm hs hu hcell hr =>
    refine .imm _ n cap sz xs c hn hc hu (fun i j p hp => ⟨_, rfl, .inr (by simp), ?_⟩) (fun i j p hp => (hr i j p hp).mono (fun b hb => .inl hb) fun _ _ => rfl)
    rw [add_lit]
    simp only [World.cell?, hg, Nat.zero_add]
    simpa using hcell i j p hp
theorem cell2_drop_take {xs : List (List PV)} {off len i j : Nat} {p : PV} (h : cell2 ((xs.drop off).take len) i j = some p) : i < len ∧ cell2 xs (off + i) j = some p := by
  unfold cell2 at h ⊢
  rw [List.getElem?_take] at h
  split at h
  · rename_i hi
    rw [List.getElem?_drop] at h
    exact ⟨hi, h⟩
  · simp at h
/-- A part of a row. -/
theorem Imm.part {w : World} {Fz : Nat → Prop} {A A' : Option Addr} {n cap cap' sz off len : Nat} {xs : List (List PV)} (h : Imm w Fz (.slice A n cap) (.imm sz xs))
    (hl : off + len ≤ xs.length) (hc : len ≤ cap') (ha : ∀ ad, A = some ad → 0 < len → A' = some (ad.add (off * sz))) :
    Imm w Fz (.slice A' len cap') (.imm sz ((xs.drop off).take len)) := by
  cases h with
  | imm _ _ _ _ _ c hn hc' hu hcell hr =>
    refine .imm A' len cap' sz _ (fun i j => c (off + i) j) ?_ hc (fun x hx => hu x (List.mem_of_mem_drop (List.mem_of_mem_take hx))) ?_ ?_
    · simp; omega
    · intro i j p hp
      obtain ⟨hi, hp⟩ := cell2_drop_take hp
      obtain ⟨ad, h1, h2, h3⟩ := hcell _ _ _ hp
      refine ⟨ad.add (off * sz), ha ad h1 (by omega), by rw [add_block]; exact h2, ?_⟩
      rw [add_add, ← Nat.add_assoc, ← Nat.add_mul]
      exact h3
    · intro i j p hp
      obtain ⟨hi, hp⟩ := cell2_drop_take hp
      exact hr _ _ _ hp
/-- The slot whose memory an operand leads to. -/
def srcOf (x : Operand) (vr : PV × PV) : Nat → Prop := fun t =>
  (x = .tmp t ∧ ∃ st sz xs, vr.1 = .own st sz xs) ∨ rootOf vr.1 = some t
/-- A plain value: one cell, or a struct of such cells. -/
def Plain (w : World) (Fz : Nat → Prop) (v : Value) (p : PV) : Prop :=
  Imm w Fz v p ∨ ∃ arr ps, v = .agg arr ∧ p = .agg ps ∧ ImmL w Fz arr.toList ps
theorem Plain.mono {w w' : World} {Fz Fz' : Nat → Prop} {v : Value} {p : PV} (h : Plain w Fz v p) (hF : ∀ b, Fz b → Fz' b)
    (hw : ∀ b, Fz b → w'.heap[b]? = w.heap[b]?) : Plain w' Fz' v p := by
  rcases h with h | ⟨arr, ps, h1, h2, h3⟩
  · exact .inl (h.mono hF hw)
  · exact .inr ⟨arr, ps, h1, h2, h3.mono hF hw⟩
theorem Imm.frzC {w : World} {Fz : Nat → Prop} {v : Value} {p : PV} (h : Imm w Fz v p) : Imm w Fz v (frzC p) := by
  have h0 := h
  cases h with
  | nils sz => exact .imm none 0 0 sz [] (fun _ _ => undef) rfl (Nat.le_refl _) (by simp) (fun i j p hp => by simp [cell2] at hp) (fun i j p hp => by simp [cell2] at hp)
  | _ => exact h0
section
variable {B : Base} {Fz : Nat → Prop} {e : Env} {a : Act} {w : World} {ob : Nat → List Nat} {S : Stamp → Prop}
/-- What is read of an operand holds of its value, where the memory that it leads to counts as written by nobody. -/
theorem Inv.view (I : Inv B Fz e (tmOf B a) w ob S) (P : Program) (t : TypeId) (x : Operand) {v : PV} (h : view (hint P t x (res e x)) = some v) :
    ∃ bs : List Nat, Plain w (fun b => Fz b ∨ b ∈ bs) (a.eval x) v ∧ ∀ b ∈ bs, ∃ s, srcOf x (hint P t x (res e x)) s ∧ b ∈ ob s := by
  by_cases hok : okC (hint P t x (res e x)).1 = true
  · have hi := I.immH P t x hok
    refine ⟨[], .inl ?_, by simp⟩
    have hi := hi.mono (Fz' := fun b => Fz b ∨ b ∈ ([] : List Nat)) (fun b hb => .inl hb) (fun _ _ => rfl)
    generalize hint P t x (res e x) = vr at *
    obtain ⟨v1, v2⟩ := vr
    cases v1 <;> simp_all [PE.view, okC]
    case nils sz => subst h; exact hi.frzC
    all_goals (subst h; exact hi)
  · rw [Bool.not_eq_true] at hok
    rw [hint_ne P t x _ hok] at h ⊢
    have hf := res_fst e x
    rw [hint_ne P t x _ hok] at hok
    rw [hf] at hok
    unfold PE.view at h
    rw [hf] at h
    unfold srcOf
    rw [hf]
    cases x with
    | const c =>
      have hv : opv e (.const c) = constPV c := rfl
      rw [hv] at h hok
      rcases const_cases c with h' | h'
      · rw [h'] at hok; cases hok
      · rw [h'] at h; simp [okC] at h
    | global g =>
      have hv : opv e (.global g) = globPV g := rfl
      rw [hv] at h hok
      rcases globPV_cases g with h' | ⟨_, _, h'⟩
      · rw [h'] at h; simp [okC] at h
      · rw [h'] at hok; cases hok
    | func f => simp [opv, okC] at hok
    | tmp s =>
      obtain ⟨hv, hne⟩ : opv e (.tmp s) = e s ∧ s ≠ VS := by
        rcases opv_tmp e s with ⟨h1, _⟩ | h1
        · rw [h1] at h; simp [okC] at h
        · exact h1
      rw [hv] at h hok ⊢
      have hev : a.eval (.tmp s) = tmOf B a s := (tmOf_ne B a hne).symm
      rw [hev]
      cases hes : e s with
      | own st sz xs =>
        rw [hes] at h
        simp only [Option.some.injEq] at h
        subst h
        have := I.slot s (by rw [hes]; rfl)
        rw [hes] at this
        exact ⟨ob s, .inl this.row_imm, fun b hb => ⟨s, .inl ⟨rfl, st, sz, xs, rfl⟩, hb⟩⟩
      | agg cs =>
        rw [hes] at h
        simp only [Option.some.injEq] at h
        subst h
        have := I.slot s (by rw [hes]; rfl)
        rw [hes] at this
        generalize tmOf B a s = u at *
        generalize ob s = bs at *
        cases this with
        | plain h => exact absurd h.okC (by simp [okC])
        | agg arr ps h =>
          refine ⟨[], .inr ⟨arr, _, rfl, rfl, by simpa using h.1, fun i v p hv hp => ?_⟩, by simp⟩
          rw [List.getElem?_map] at hp
          obtain ⟨q, hq, rfl⟩ := Option.map_eq_some_iff.1 hp
          exact ((h.2 i v q hv hq).frzC).mono (fun b hb => .inl hb) fun _ _ => rfl
      | snap r pl st off len =>
        rw [hes] at h
        simp only [res, opv, if_neg hne, hes, rootOf] at h
        split at h
        · rename_i sz xs hr
          simp only [Option.some.injEq] at h
          subst h
          obtain ⟨u, bs, h1, h2, h3⟩ := I.row hr
          have hR := I.ref s (by rw [hes]; rfl)
          rw [hes] at hR
          obtain ⟨h4, A, n, cap, A', cap', h5, h6, h7, _, h8⟩ := hR sz xs hr
          have hu : u = .slice A n cap := by
            cases pl with
            | none => exact h1.symm.trans h5
            | some c =>
              obtain ⟨g, e1, e2⟩ := h1
              obtain ⟨g', e3, e4⟩ := h5
              rw [e1] at e3
              simp only [Value.pointer.injEq, Option.some.injEq, Addr.mk.injEq, and_true] at e3
              subst e3
              rw [e2] at e4
              exact Option.some.inj e4
          subst hu
          refine ⟨bs, .inl ?_, fun b hb => ⟨r, .inr rfl, h3 b hb⟩⟩
          rw [h6]
          exact h2.row_imm.part h4 h7 h8
        · cases h
      | _ => rw [hes] at h hok; simp_all [okC]
end
end Go.PE
namespace Go.PE
open Go.RowKit
theorem apply_cons (q : Nat × PV) (u : Ups) (e : Env) : apply (q :: u) e = apply u (upd e q.1 q.2) := rfl
theorem apply_append (u v : Ups) (e : Env) : apply (u ++ v) e = apply v (apply u e) := by simp [apply, List.foldl_append]
theorem Reps.append {w : World} {Fz : Nat → Prop} : ∀ {vs : List Value} {ps : List PV} {bs : List Nat} {vs' : List Value} {ps' : List PV} {bs' : List Nat},
    Reps w Fz vs ps bs → Reps w Fz vs' ps' bs' → Reps w Fz (vs ++ vs') (ps ++ ps') (bs ++ bs')
  | _, _, _, _, _, _, .nil, h => h
  | _, _, _, _, _, _, .cons h hs, h' => by
    rw [List.append_assoc]
    exact .cons h (hs.append h')
theorem Reps.split {w : World} {Fz : Nat → Prop} : ∀ {vs : List Value} {ps : List PV} {bs : List Nat} (o : Nat), Reps w Fz vs ps bs →
    ∃ b1 b2, bs = b1 ++ b2 ∧ Reps w Fz (vs.take o) (ps.take o) b1 ∧ Reps w Fz (vs.drop o) (ps.drop o) b2
  | _, _, _, 0, h => ⟨[], _, rfl, .nil, h⟩
  | _, _, _, o + 1, .nil => ⟨[], [], rfl, .nil, .nil⟩
  | _, _, _, o + 1, .cons h hs => by
    obtain ⟨b1, b2, rfl, h1, h2⟩ := hs.split o
    exact ⟨_, b2, (List.append_assoc ..).symm, .cons h h1, h2⟩
theorem Reps.one {w : World} {Fz : Nat → Prop} {v : Value} {p : PV} {b : List Nat} (h : Rep w Fz v p b) : Reps w Fz [v] [p] b := by
  have := Reps.cons h .nil
  rwa [List.append_nil] at this
theorem Reps.ofImmL {w : World} {Fz : Nat → Prop} : ∀ {vs : List Value} {ps : List PV}, ImmL w Fz vs ps → Reps w Fz vs ps []
  | [], [], _ => .nil
  | v :: vs, p :: ps, h => .cons (b := []) (.plain (h.2 0 v p rfl rfl)) (Reps.ofImmL ⟨by simpa using h.1, fun i v p hv hp => h.2 (i + 1) v p (by simpa using hv) (by simpa using hp)⟩)
  | [], _ :: _, h => by simpa using h.1
  | _ :: _, [], h => by simpa using h.1
theorem set_eq {α : Type} (l : List α) (c : Nat) (x : α) (h : c < l.length) : l.set c x = l.take c ++ x :: l.drop (c + 1) := by
  rw [List.set_eq_take_append_cons_drop, if_pos h]
/-- One cell of many: the others go on. -/
theorem Reps.cell {w : World} {Fz : Nat → Prop} {vs : List Value} {ps : List PV} {bs : List Nat} (h : Reps w Fz vs ps bs) {c : Nat} {p : PV} (hp : ps[c]? = some p) :
    ∃ v b1 b b3, vs[c]? = some v ∧ bs = b1 ++ (b ++ b3) ∧ Rep w Fz v p b ∧
      ∀ (w' : World) (Fz' : Nat → Prop) (v' : Value) (p' : PV) (b' : List Nat), Rep w' Fz' v' p' b' → (∀ b, Fz b → Fz' b) → (∀ x, Fz x → w'.heap[x]? = w.heap[x]?) →
        (∀ x ∈ b1 ++ b3, w'.heap[x]? = w.heap[x]?) → Reps w' Fz' (vs.set c v') (ps.set c p') (b1 ++ (b' ++ b3)) := by
  have hlen := h.length
  have hc : c < ps.length := (List.getElem?_eq_some_iff.1 hp).1
  obtain ⟨b1, b2, rfl, h1, h2⟩ := h.split c
  have e2 : ps.drop c = p :: ps.drop (c + 1) := by
    rw [List.drop_eq_getElem_cons hc, (List.getElem?_eq_some_iff.1 hp).2]
  have e3 : vs.drop c = vs[c]'(by omega) :: vs.drop (c + 1) := List.drop_eq_getElem_cons (by omega)
  rw [e2, e3] at h2
  cases h2 with
  | cons hr hs =>
    rename_i b b3
    refine ⟨_, b1, b, b3, List.getElem?_eq_getElem (by omega), rfl, hr, fun w' Fz' v' p' b' hr' hF hw hb => ?_⟩
    rw [set_eq _ _ _ hc, set_eq _ _ _ (by omega)]
    exact (h1.mono hF hw fun x hx => hb x (by simp [hx])).append (.cons hr' (hs.mono hF hw fun x hx => hb x (by simp [hx])))
section
variable {B : Base} {Fz : Nat → Prop} {e : Env} {tm : Tm} {w : World} {ob : Nat → List Nat} {S : Stamp → Prop}
/-- An owned row at a place is written by nobody any more. -/
theorem Inv.freezeRow (I : Inv B Fz e tm w ob S) {r : Nat} {pl : Option Nat} {st : Stamp} {sz : Nat} {xs : List (List PV)} (h : rowIf (e r) pl st = some (sz, xs)) :
    ∃ (bs : List Nat) (ob' : Nat → List Nat), Inv B (fun b => Fz b ∨ b ∈ bs) (upd e r (putAt (e r) pl (.imm sz xs))) tm w ob' S ∧ (∀ s, s ≠ r → ob' s = ob s) ∧ (∀ b ∈ ob' r, b ∈ ob r) ∧
      (∀ b ∈ bs, b ∈ ob r) ∧ ∃ u, PlaceVal w (tm r) pl u ∧ Imm w (fun b => Fz b ∨ b ∈ bs) u (.imm sz xs) := by
  replace h := rowIf_stamp h
  unfold rowAt? at h
  split at h
  · -- the slot's own row
    rename_i st' sz' xs' he
    simp only [Option.some.injEq, Prod.mk.injEq] at h
    obtain ⟨rfl, rfl, rfl⟩ := h
    have hR := I.slot r (by rw [he]; rfl)
    rw [he] at hR
    have hi := hR.row_imm
    refine ⟨ob r, upd ob r [], ?_, fun s hs => upd_other hs, by simp [upd], fun b hb => hb, tm r, rfl, hi⟩
    refine I.step (fun s => s = r) (fun _ h => h) rfl rfl rfl (Nat.le_refl _) (fun _ _ _ => rfl) (fun s hs => ⟨upd_other hs, rfl, upd_other hs⟩)
      (fun b hb => .inl hb) (fun b hb => ?_) ?_ ?_ ?_ ?_ ?_ ?_
    · rcases hb with hb | hb
      · exact .inl hb
      · exact .inr (.inl ⟨r, rfl, hb⟩)
    · rintro s rfl b hb; simp [upd] at hb
    · rintro s rfl; simp [upd]
    · rintro s t rfl rfl hne; exact absurd rfl hne
    · rintro s rfl st hs; rw [upd_same] at hs; simp [putAt, stampsOf, stamps1] at hs
    · rintro s rfl; rw [upd_same]; exact RootStep.fresh (by simp [putAt, stamps1])
    · rintro _ s rfl
      unfold SlotRep
      rw [upd_same, upd_same]
      simp only [putAt, isRef, Bool.false_eq_true, if_false]
      exact .plain hi
  · rename_i c st' cs he
    split at h
    · rename_i st'' sz' xs' hc
      simp only [Option.some.injEq, Prod.mk.injEq] at h
      obtain ⟨rfl, rfl, rfl⟩ := h
      have hR := I.slot r (by rw [he]; rfl)
      rw [he] at hR
      have hnd := I.nodup r
      have hdisj := I.disj r
      have hnF := I.notFz r
      have hlt := I.lt r
      obtain ⟨g, arr, e', bs0, hg, hreps, hcc, htm, hob⟩ : ∃ g arr e' bs0, w.heap[g]? = some (.cells arr e' (0, 0)) ∧ Reps w Fz arr.toList cs bs0 ∧ SelfOK g e' arr.toList cs ∧ tm r = .pointer (some ⟨g, 0, none⟩) ∧ ob r = g :: bs0 := by
        generalize tm r = u at hR ⊢
        generalize ob r = o at hR ⊢
        cases hR with
        | plain h => exact absurd h.okC (by simp [okC])
        | box g arr e' _ _ bs0 hg hreps hcc => exact ⟨g, arr, e', bs0, hg, hreps, hcc, rfl, rfl⟩
      obtain ⟨v, b1, b, b3, hv, rfl, hr, hset⟩ := hreps.cell hc
      have hi := hr.row_imm
      rw [hob] at hnd
      have hnd' : (g :: (b1 ++ ([] ++ b3))).Nodup ∧ ∀ x ∈ b, x ∉ (g :: (b1 ++ ([] ++ b3))) := by
        simp only [List.nodup_cons, List.nodup_append, List.mem_append, List.nil_append, List.mem_cons] at hnd ⊢
        grind
      have harr : arr.toList.set c v = arr.toList := by
        obtain ⟨h1, h2⟩ := List.getElem?_eq_some_iff.1 hv
        rw [← h2]
        exact List.set_getElem_self h1
      refine ⟨b, upd ob r (g :: (b1 ++ ([] ++ b3))), ?_, fun s hs => upd_other hs, ?_, ?_, v, ⟨g, htm, ?_⟩, hi⟩
      · refine I.step (fun s => s = r) (fun _ h => h) rfl rfl rfl (Nat.le_refl _) (fun _ _ _ => rfl) (fun s hs => ⟨upd_other hs, rfl, upd_other hs⟩)
          (fun b hb => .inl hb) (fun x hx => ?_) ?_ ?_ ?_ ?_ ?_ ?_
        · rcases hx with hx | hx
          · exact .inl hx
          · exact .inr (.inl ⟨r, rfl, by rw [hob]; simp [hx]⟩)
        · rintro s rfl x hx
          rw [upd_same] at hx
          have hx' : x ∈ ob s := by rw [hob]; simp at hx ⊢; grind
          exact ⟨.inl ⟨s, rfl, hx'⟩, fun hf => hf.elim (hnF x hx') fun hb => hnd'.2 x hb hx⟩
        · rintro s rfl; rw [upd_same]; exact hnd'.1
        · rintro s t rfl rfl hne; exact absurd rfl hne
        · rintro s rfl st hs
          rw [upd_same, he] at hs
          refine I.stamps s st ?_
          rw [he]
          simp only [putAt, stampsOf, stamps1, List.mem_cons, List.mem_flatMap] at hs ⊢
          rcases hs with hs | ⟨q, hq, hs⟩
          · exact .inl hs
          · rcases List.mem_or_eq_of_mem_set hq with hq | rfl
            · exact .inr ⟨q, hq, hs⟩
            · simp [stampsC] at hs
        · rintro s rfl
          rw [upd_same, he]
          refine ⟨fun st cs' h _ => ?_, fun pl st sz xs' h _ => ?_, fun pl st ks' vs' h _ => ?_⟩
          rotate_left 2
          · have h := mapIf_stamp h
            unfold mapAt? at h
            simp only [putAt] at h
            cases pl with
            | none => simp at h
            | some c' =>
              simp only [List.getElem?_set] at h
              by_cases hcc' : c = c'
              · subst hcc'
                rw [if_pos rfl] at h
                split at h
                · rename_i heq
                  split at heq <;> simp at heq
                · cases h
              · simp only [if_neg hcc'] at h
                refine ⟨ks', vs', mapIf_of ?_, fun x hx => hx⟩
                unfold mapAt?
                exact h
          · simp only [putAt, PV.box.injEq] at h
            exact ⟨cs, by rw [h.1], rfl⟩
          · have h := rowIf_stamp h
            unfold rowAt? at h
            simp only [putAt] at h
            cases pl with
            | none => simp at h
            | some c' =>
              simp only [List.getElem?_set] at h
              by_cases hcc' : c = c'
              · subst hcc'
                rw [if_pos rfl] at h
                split at h
                · rename_i heq
                  split at heq <;> simp at heq
                · cases h
              · simp only [if_neg hcc'] at h
                refine ⟨xs', rowIf_of ?_, rfl, fun x hx => hx⟩
                unfold rowAt?
                exact h
        · rintro _ s rfl
          unfold SlotRep
          rw [upd_same, upd_same, he]
          simp only [putAt, isRef, Bool.false_eq_true, if_false, htm]
          have hrep := hset w (fun x => Fz x ∨ x ∈ b) v _ [] (.plain hi) (fun _ h => .inl h) (fun _ _ => rfl) (fun _ _ => rfl)
          rw [harr] at hrep
          refine .box g arr e' st' _ _ hg hrep ?_
          have := SelfOK.set hcc (q := .imm sz' xs') rfl rfl c v
          rwa [harr] at this
      · rw [upd_same, hob]; intro x hx; simp at hx ⊢; grind
      · rw [hob]; intro x hx; simp [hx]
      · simp only [World.cell?, hg]
        simpa using hv
    · cases h
  · cases h
end
end Go.PE
