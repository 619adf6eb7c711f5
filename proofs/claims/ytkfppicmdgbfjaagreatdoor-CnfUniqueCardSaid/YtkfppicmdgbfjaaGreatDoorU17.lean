/-
  A part of the proof that the law's function returns true and leaves its arguments as they were, for every input (no condition): own lemmas of the proof, in the order of their use.
-/
import Derived.Test.YtkfppicmdgbfjaaGreatDoorU12
import Derived.ChangeArms
import Derived.WideShapes
import Derived.ChangeShapes
import GoSem.ClaimJoined
import Derived.RangeFuncBox
import Derived.RangeFuncFrom
import Derived.RangeFuncLeaves
import Derived.RangeFuncCalls
import Derived.Shelf.Abstract
import Derived.WalkKit
import Derived.OwnWalkIn
import Derived.TacticsInMore
import Derived.LoopNIn
import Derived.LoopIn
import Derived.Test.YtkfppicmdgbfjaaGreatDoorU14
import Derived.Test.YtkfppicmdgbfjaaGreatDoorProg
import Derived.Lib.SliceRun
import Derived.Test.YtkfppicmdgbfjaaGreatDoorU16
import Derived.Laws.EntriesVeiled
import Derived.KernelRfl
import Derived.Deep.QuietTactic
import Derived.Deep.RegionWith
import Derived.LoopN
import Derived.LoopTactic
import Derived.Deep.RegionHeld3
set_option linter.all false
namespace Go.PE
open Go.RowKit
/-! ### The arguments of a row, read as plain values -/
/-- The make of a type's cells. -/
inductive Ty where
  | int (k : IntKind)
  | bool
  | str
  | sl (sz : Nat) (t : Ty)
  | pair (a b : Ty)
  | unit
def Ty.size : Ty → Nat
  | .pair a b => a.size + b.size
  | .unit => 0
  | _ => 1
def shape : Ty → List PV → Prop
  | .int k, ps => ∃ n, ps = [.int k n] ∧ (Lit.int k n).wf = true
  | .bool, ps => ∃ b, ps = [.bool b]
  | .str, ps => ∃ s : List UInt8, ps = [.str s] ∧ s.length ≤ reachBytes
  | .sl sz t, ps => ∃ xs : List (List PV), ps = [.imm sz xs] ∧ xs.length ≤ reachBytes ∧ ∀ x ∈ xs, shape t x
  | .pair a b, ps => ∃ p q, ps = p ++ q ∧ shape a p ∧ shape b q
  | .unit, ps => ps = []
theorem shape_len : ∀ {t : Ty} {ps : List PV}, shape t ps → ps.length = t.size
  | .int _, _, ⟨_, h, _⟩ => by rw [h]; rfl
  | .bool, _, ⟨_, h⟩ => by rw [h]; rfl
  | .str, _, ⟨_, h, _⟩ => by rw [h]; rfl
  | .sl _ _, _, ⟨_, h, _⟩ => by rw [h]; rfl
  | .pair a b, _, ⟨p, q, h, h1, h2⟩ => by rw [h, List.length_append, shape_len h1, shape_len h2]; rfl
  | .unit, _, h => by
    have h : _ = [] := h
    rw [h]; rfl
section
variable (P : Program)
def fitF (g : TypeId → Ty → Bool) : List Field → Nat → Nat → Ty → Bool
  | [], off, tot, .unit => off == tot
  | f :: l, off, tot, .pair a b => f.offset == off && P.cellsOf f.type == a.size && g f.type a && fitF g l (off + a.size) tot b
  | _, _, _, _ => false
/-- Is a type made so? -/
def fits : Nat → TypeId → Ty → Bool
  | 0, _, _ => false
  | n + 1, t, ty => match P.underlying t, ty with
    | some .bool, .bool => true
    | some (.int k), .int k' => decide (k = k')
    | some .string, .str => true
    | some (.slice e), .sl sz a => P.cellsOf e == sz && a.size == sz && Nat.blt 0 (P.bytesOf e) && fits n e a
    | some (.struct fs), ty => fitF P (fits n) fs.toList 0 (P.cellsOf t) ty
    | _, _ => false
end
theorem ImmL.append {w : World} {Fz : Nat → Prop} {a b : List Value} {p q : List PV} (h1 : ImmL w Fz a p) (h2 : ImmL w Fz b q) : ImmL w Fz (a ++ b) (p ++ q) := by
  refine ⟨by rw [List.length_append, List.length_append, h1.1, h2.1], fun i v x hv hx => ?_⟩
  by_cases hi : i < a.length
  · rw [List.getElem?_append_left hi] at hv
    rw [List.getElem?_append_left (by rw [← h1.1]; exact hi)] at hx
    exact h1.2 i v x hv hx
  · rw [List.getElem?_append_right (by omega)] at hv
    rw [List.getElem?_append_right (by rw [← h1.1]; omega), ← h1.1] at hx
    exact h2.2 _ v x hv hx
theorem ImmL.sg {w : World} {Fz : Nat → Prop} {v : Value} {q : PV} (h : Imm w Fz v q) : ImmL w Fz [v] [q] := by
  refine ⟨rfl, fun i v' p hv hp => ?_⟩
  cases i with
  | zero => simp only [List.getElem?_cons_zero, Option.some.injEq] at hv hp; subst hv hp; exact h
  | succ i => simp at hv
theorem list_choose {α : Type} {Q : Nat → α → Prop} : ∀ (n : Nat), (∀ i, i < n → ∃ x, Q i x) → ∃ xs : List α, xs.length = n ∧ ∀ i x, xs[i]? = some x → Q i x
  | 0, _ => ⟨[], rfl, fun i x h => by simp at h⟩
  | n + 1, h => by
    obtain ⟨xs, hl, hx⟩ := list_choose n fun i hi => h i (by omega)
    obtain ⟨y, hy⟩ := h n (by omega)
    refine ⟨xs ++ [y], by simp [hl], fun i x hi => ?_⟩
    by_cases hin : i < n
    · rw [List.getElem?_append_left (by omega)] at hi
      exact hx i x hi
    · rw [List.getElem?_append_right (by omega)] at hi
      have : i - xs.length = 0 := by
        have := (List.getElem?_eq_some_iff.1 hi).1
        simp at this; omega
      rw [this] at hi
      simp only [List.getElem?_cons_zero, Option.some.injEq] at hi
      have : i = n := by omega
      subst this hi
      exact hy
theorem cell_lt {w : World} {a : Addr} {v : Value} (h : w.cell? a = some v) : a.block < w.heap.size := by
  unfold World.cell? at h
  by_cases hb : a.block < w.heap.size
  · exact hb
  · rw [Array.getElem?_eq_none (by omega)] at h
    cases h
section
variable {H : Type} {enc : TypeId × Value → H} {P : Program} {w : World} {base : Nat} {spare : Nat → Bool} {held : Bool}
theorem all_sub {a b : List Nat} (h : ∀ n ∈ a, n ∈ b) (hb : b.all (· ≤ reachBytes) = true) : a.all (· ≤ reachBytes) = true := by
  rw [List.all_eq_true] at hb ⊢
  exact fun n hn => hb n (h n hn)
theorem weightsAll_mem {e : TypeId} : ∀ {l : List (DataW H)} {d : DataW H}, d ∈ l → ∀ n ∈ d.weights P e, n ∈ DataW.weightsAll P e l
  | x :: l, d, h, n, hn => by
    rw [DataW.weightsAll, List.mem_append]
    rcases List.mem_cons.1 h with rfl | h
    · exact .inl hn
    · exact .inr (weightsAll_mem h n hn)
theorem tr_imm : ∀ (fuel : Nat) (t : TypeId) (cs : List Value) (x : DataW H × List MemPlace), DataW.trod enc P w base spare held fuel t cs = some x → (x.1.weights P t).all (· ≤ reachBytes) = true →
    ∀ (n : Nat) (ty : Ty), fits P n t ty = true → ∃ ps, shape ty ps ∧ ImmL w (fun b => b < w.heap.size) cs ps := by
  intro fuel
  induction fuel using Nat.strongRecOn with
  | _ fuel ih =>
  intro t cs x h hwt n ty hf
  cases n with
  | zero => simp [fits] at hf
  | succ n =>
    unfold fits at hf
    split at hf
    · rename_i ht
      obtain ⟨b, rfl, _⟩ := DataW.trod_bool ht h
      exact ⟨[.bool b], ⟨b, rfl⟩, ImmL.sg (.bool b)⟩
    · rename_i k k' ht
      have hk : k = k' := by simpa using hf
      subst hk
      obtain ⟨m, rfl, _, hw⟩ := DataW.trod_int ht h
      exact ⟨[.int k m], ⟨m, rfl, hw⟩, ImmL.sg (.int k m)⟩
    · rename_i ht
      obtain ⟨s, rfl, rfl, hs⟩ := DataW.trod_string ht h
      exact ⟨[.str s.data.toList], ⟨_, rfl, by simpa [DataW.weights] using hwt⟩, ImmL.sg (.str s)⟩
    · rename_i e sz a ht
      simp only [Bool.and_eq_true, beq_iff_eq] at hf
      obtain ⟨⟨⟨hsz, hasz⟩, hby⟩, hfe⟩ := hf
      rcases DataW.trod_slice ht h with ⟨rfl, _⟩ | ⟨ad, len, cap, elems, rest, m, rfl, rfl, rfl, hb, hlc, hcm, hlen, hel, _, _⟩
      · exact ⟨[.imm sz []], ⟨[], rfl, Nat.zero_le _, by simp⟩, ImmL.sg (.imm none 0 0 sz [] (fun _ _ => undef) rfl (Nat.le_refl _) (by simp) (fun i j p hp => by simp [cell2] at hp) (fun i j p hp => by simp [cell2] at hp))⟩
      · simp only [DataW.weights, ht, List.all_cons, Bool.and_eq_true, decide_eq_true_eq, List.all_append, List.length_map] at hwt
        have hlenB : len ≤ reachBytes := by
          have h1 : 0 < P.bytesOf e := by
            simp only [Nat.blt, Nat.ble_eq] at hby
            omega
          have h2 := Nat.le_mul_of_pos_right (elems.length + rest.length) h1
          omega
        have each : ∀ i, i < len → ∃ ps : List PV, shape a ps ∧ ∃ cs : List Value, cs.length = sz ∧ (∀ j, j < sz → w.cell? (ad.add (i * sz + j)) = cs[j]?) ∧ ImmL w (fun b => b < w.heap.size) cs ps := by
          intro i hi
          have h1 := hel i hi
          have hie : i < elems.length := by omega
          rw [List.getElem?_eq_getElem hie] at h1
          obtain ⟨cs, h2, h3⟩ := Option.bind_eq_some_iff.1 h1
          obtain ⟨ps, h4, h5⟩ := ih m (by omega) e cs _ h3 (all_sub (weightsAll_mem (l := elems.map (·.1)) (List.mem_map.2 ⟨_, List.getElem_mem hie, rfl⟩)) hwt.2.1) n a hfe
          obtain ⟨_, k2, k3⟩ := World.cells?_some h2
          refine ⟨ps, h4, cs, by rw [← hsz]; exact k2, fun j hj => ?_, h5⟩
          have := k3 j (by rw [hsz]; exact hj)
          rw [hsz, add_add] at this
          exact this
        obtain ⟨xs, hxl, hxs⟩ := list_choose len each
        refine ⟨[.imm sz xs], ⟨xs, rfl, by omega, fun y hy => ?_⟩, ImmL.sg (.imm (some ad) len cap sz xs (fun i j => (w.cell? (ad.add (i * sz + j))).getD undef) hxl hlc (fun y hy => ?_) (fun i j p hp => ?_) (fun i j p hp => ?_))⟩
        · obtain ⟨i, hi⟩ := List.getElem?_of_mem hy
          exact (hxs i y hi).1
        · obtain ⟨i, hi⟩ := List.getElem?_of_mem hy
          rw [shape_len (hxs i y hi).1]; exact hasz
        · obtain ⟨y, hy, hp⟩ := Option.bind_eq_some_iff.1 hp
          obtain ⟨_, cs, k1, k2, k3⟩ := hxs i y hy
          have hj : j < sz := by
            have := (List.getElem?_eq_some_iff.1 hp).1
            rw [← k3.1, k1] at this; exact this
          have h1 := k2 j hj
          rw [List.getElem?_eq_getElem (by omega)] at h1
          refine ⟨ad, rfl, ?_, ?_⟩
          · have := cell_lt h1
            rw [add_block] at this; exact this
          · rw [h1]; rfl
        · obtain ⟨y, hy, hp⟩ := Option.bind_eq_some_iff.1 hp
          obtain ⟨_, cs, k1, k2, k3⟩ := hxs i y hy
          have hj : j < sz := by
            have := (List.getElem?_eq_some_iff.1 hp).1
            rw [← k3.1, k1] at this; exact this
          have h1 := k2 j hj
          rw [List.getElem?_eq_getElem (by omega)] at h1
          rw [h1]
          exact k3.2 j _ p (List.getElem?_eq_getElem (by omega)) hp
    · rename_i ty _ _ fs ht
      obtain ⟨xs, m, rfl, rfl, hlen, hxl, hx⟩ := DataW.trod_struct ht h
      simp only [DataW.weights, ht] at hwt
      have go : ∀ (l : List Field) (ys : List (DataW H × List MemPlace)) (off : Nat) (ty : Ty), l.length = ys.length → (∀ (i : Nat) f, l[i]? = some f → DataW.trod enc P w base spare held m f.type ((cs.drop f.offset).take (P.cellsOf f.type)) = ys[i]?) →
          (DataW.weightsEach P (l.map (·.type)) (ys.map (·.1))).all (· ≤ reachBytes) = true → fitF P (fits P n) l off (P.cellsOf t) ty = true →
          ∃ ps, shape ty ps ∧ ImmL w (fun b => b < w.heap.size) (cs.drop off) ps := by
        intro l
        induction l with
        | nil =>
          intro ys off ty _ _ _ hf
          cases ty <;> simp [fitF] at hf
          refine ⟨[], rfl, ?_⟩
          rw [List.drop_of_length_le (by omega)]
          exact ⟨rfl, fun i v p hv => by simp at hv⟩
        | cons f l ihl =>
          intro ys off ty hll hl hwt hf
          cases ys with
          | nil => simp at hll
          | cons y ys =>
          cases ty <;> simp [fitF] at hf
          rename_i a b
          obtain ⟨⟨⟨h1, h2⟩, h3⟩, h4⟩ := hf
          have hy := hl 0 f rfl
          rw [List.getElem?_cons_zero] at hy
          simp only [List.map_cons, DataW.weightsEach, List.all_append, Bool.and_eq_true] at hwt
          obtain ⟨p, k1, k2⟩ := ih m (by omega) f.type _ y hy hwt.1 n a h3
          obtain ⟨q, j1, j2⟩ := ihl ys (off + a.size) b (by simpa using hll) (fun i f hf => by
            have := hl (i + 1) f (by simpa using hf)
            simpa using this) hwt.2 h4
          refine ⟨p ++ q, ⟨p, q, rfl, k1, j1⟩, ?_⟩
          rw [h1, h2] at k2
          have := k2.append j2
          rw [← List.drop_drop, List.take_append_drop] at this
          exact this
      obtain ⟨ps, k1, k2⟩ := go fs.toList xs 0 ty (by simpa using hxl.symm) (fun i f hf => hx i f (by simpa using hf)) hwt hf
      exact ⟨ps, k1, by simpa using k2⟩
    · cases hf
theorem arg_cell {t : TypeId} {v : Value} {d : DataW H} {ps : List MemPlace} {ty : Ty} (hv : v.cells = #[v]) (hd : DataW.Trod enc P w base spare held t v d ps) (hwt : (d.weights P t).all (· ≤ reachBytes) = true)
    (hf : fits P 8 t ty = true) : ∃ qs, shape ty qs ∧ ∀ q, qs = [q] → Rep w (fun b => b < w.heap.size) v q [] := by
  obtain ⟨fuel, hd⟩ := hd
  rw [hv] at hd
  obtain ⟨qs, h1, h2⟩ := tr_imm fuel t _ _ hd hwt 8 ty hf
  exact ⟨qs, h1, fun q hq => .plain (h2.2 0 v q rfl (by rw [hq]; rfl))⟩
end
end Go.PE
namespace Go.PE
open Go.RowKit Go.Shelf Go.Proofs Go.Proofs.Tryz
/-! ### slices.Backward over integers -/
set_option maxRecDepth 100000 in
set_option maxHeartbeats 2000000 in
theorem iter173 : IterB prog 173 := by
  refine ⟨fun args w => rfl, fun m l bx len cap A J W hlen hJ hY h0 => ?_⟩
  have hmx : (len : Int) ≤ 9223372036854775807 := by
    have : maxLen ≤ 9223372036854775807 := by decide
    omega
  refine callsIn_of_wp func173 rfl trivial ?_ rfl
  simp only [ntmps173, List.size_toArray, List.length_cons, List.length_nil, Nat.reduceAdd, Nat.reduceSub, Array.replicate_succ, Array.replicate_zero, List.push_toArray, List.append_toArray, List.nil_append, List.cons_append]
  have hbx := hJ len W h0
  gi_wp2
  gi_loopw [3] (fun i wr => ∃ j : Nat, j ≤ len ∧ i = .int .i64 ((j : Int) - 1) ∧ J j wr) (fun i _ => (intOf i + 1).toNat)
  case atStart => exact ⟨len, Nat.le_refl _, by first | rfl | (simp [IntKind.wrap]; omega), h0⟩
  case round =>
    obtain ⟨j, hj, rfl, hJs⟩ := hrel
    have hbx' := hJ _ _ hJs
    cases j with
    | zero =>
      gi_wp2
      go_end0
      exact ⟨⟨_, rfl⟩, hJs⟩
    | succ j =>
      rw [show ((j + 1 : Nat) : Int) - 1 = (j : Int) by omega]
      obtain ⟨b, o, z, rfl, hcx, fn, tmps, assign, body, hy, hR⟩ := hY j wr (by omega) hJs
      gi_wp2
      refine hR.mono ?_
      rintro e W3 ⟨rfl, hJ3⟩
      gi_wp2
      go_roundw
      case rel => exact ⟨j, by omega, by simp, hJ3⟩
      case measure => simp [intOf]
set_option maxRecDepth 100000 in
set_option maxHeartbeats 1000000 in
theorem backward_in (A : Option Addr) (len cap : Nat) (w : World) :
    CallsIn Fence.wide 1 prog 145 #[.slice A len cap] w fun e w' => e = .returned (.func (.func 173) #[] #[.pointer (some ⟨w.heap.size, 0, none⟩)]) ∧ w' = w.alloc (.cells #[.slice A len cap] 59) := by
  refine callsIn_of_wp func145 rfl trivial ?_ rfl
  simp only [ntmps145, List.size_toArray, List.length_cons, List.length_nil, Nat.reduceAdd, Nat.reduceSub, Array.replicate_succ, Array.replicate_zero, List.push_toArray, List.append_toArray, List.nil_append, List.cons_append]
  gi_wp2
  go_ret
  exact ⟨rfl, rfl⟩
set_option maxRecDepth 100000 in
theorem back145 : MeetsB prog 145 173 := fun A len cap w => ⟨59, fun o a next Q h => by
  have henter : (callFunc 145 #[.slice A len cap]).run prog w = .ok (.enter 145 #[.slice A len cap]) w := rfl
  rw [henter, Oper.upon_enter]
  refine Calls.mono (callsIn_wide.1 (backward_in A len cap w)) ?_
  rintro e w' ⟨rfl, rfl⟩
  exact h⟩
end Go.PE
namespace Go.PE
open Go.RowKit Go.Shelf Go.Proofs Go.Proofs.Tryz
/-! ### slices.Clone of nothing -/
set_option maxRecDepth 100000 in
set_option maxHeartbeats 1000000 in
theorem clone_in (A : Option Addr) (cap : Nat) (w : World) :
    CallsIn Fence.wide 1 prog 91 #[.slice A 0 cap] w fun e w' => ∃ A', e = .returned (.slice A' 0 0) ∧ (w' = w ∨ ∃ o, w' = w.alloc o) := by
  refine callsIn_of_wp func91 rfl trivial ?_ rfl
  simp only [ntmps91, List.size_toArray, List.length_cons, List.length_nil, Nat.reduceAdd, Nat.reduceSub, Array.replicate_succ, Array.replicate_zero, List.push_toArray, List.append_toArray, List.nil_append, List.cons_append]
  have hnil := Lib.run_eql_slice_nil (P := prog) w 36 _ A 0 cap 0 0 underlying36
  cases A with
  | none =>
    gi_wp2
    go_ret
    exact ⟨_, rfl, .inl rfl⟩
  | some ad =>
    gi_wp2
    go_ret
    exact ⟨_, rfl, .inr ⟨_, rfl⟩⟩
end Go.PE
namespace Go.PE
open Go.RowKit Go.Shelf Go.Proofs Go.Proofs.Tryz
set_option maxRecDepth 100000
/-! ### The contracts of extend and of slices.Clone at nothing -/
section
variable {w : World} {Fz : Nat → Prop}
theorem spot_none {ad : Addr} {v : Value} (h : w.cell? ad = some v) : ad = ⟨ad.block, ad.off, none⟩ := by
  obtain ⟨b, off, sp⟩ := ad
  cases sp with
  | none => rfl
  | some s =>
    unfold World.cell? at h
    simp at h
    split at h <;> simp at h
theorem imm_deref {v : Value} {q : PV} {cs : List PV} (h : Imm w Fz v (.iptr (q :: cs) 0)) : ∃ b o, v = .pointer (some ⟨b, o, none⟩) ∧ ∀ j p, (q :: cs)[j]? = some p → ∃ u, w.cell? ⟨b, o + j, none⟩ = some u ∧ Imm w Fz u p := by
  cases h with
  | iptr ad _ _ c hcell hr =>
    have h0 := hcell 0 q rfl
    have e0 : ad.add 0 = ad := by unfold Addr.add; simp
    rw [e0] at h0
    have hsp := spot_none h0.2
    refine ⟨ad.block, ad.off, by rw [e0]; exact congrArg (fun x => Value.pointer (some x)) hsp, fun j p hp => ⟨c j, ?_, hr j p hp⟩⟩
    have := (hcell j p hp).2
    rw [hsp, add_lit] at this
    exact this
theorem imm_elems {v : Value} {sz : Nat} {xs : List (List PV)} {q : PV} (h : Imm w Fz v (.imm sz xs)) (h0 : cell2 xs 0 0 = some q) : ∃ b o cap, v = .slice (some ⟨b, o, none⟩) xs.length cap ∧ xs.length ≤ cap ∧ ∀ i j p, cell2 xs i j = some p → ∃ u, w.cell? ⟨b, o + (i * sz + j), none⟩ = some u ∧ Imm w Fz u p := by
  cases h with
  | imm A n cap _ _ c hn hc hu hcell hr =>
    obtain ⟨ad, rfl, _, hx⟩ := hcell 0 0 q h0
    have e0 : ad.add (0 * sz + 0) = ad := by unfold Addr.add; simp
    rw [e0] at hx
    have hsp := spot_none hx
    refine ⟨ad.block, ad.off, cap, by rw [hn]; exact congrArg (fun x => Value.slice (some x) n cap) hsp, by omega, fun i j p hp => ⟨c i j, ?_, hr i j p hp⟩⟩
    obtain ⟨ad', he, _, hy⟩ := hcell i j p hp
    cases he
    rw [hsp, add_lit] at hy
    exact hy
theorem below_plain {w' : World} (hb : RowKit.Below w.heap.size w w') {bs : List Nat} {boxes : List Value} {u : Value} {r : PV} (hbx : boxes = []) (hr : isRef r = false) (hu : Imm w' Fz u r) : Post w Fz bs boxes r [] u w' := by
  subst hbx
  exact ⟨hb.os, hb.tape, hb.output, hb.size, fun b hb' _ => hb.block b hb', hr, Fz, [], [], fun _ h => h, fun _ h => .inl h, by simp, by simp, .plain hu, .nil⟩
end
theorem clone_meets : Meets prog 91 cloneF := by
  refine ⟨fun _ _ => ?_, fun h => (by cases h), fun _ h => (by cases h), fun g' h => (by cases h)⟩
  intro w Fz args avs bs r outs hgl hfz hnd hbs hreps hF o a next Q hnext
  have key : ∀ (A : Option Addr) (cap : Nat), args = #[.slice A 0 cap] → boxVals args.toList avs = [] → r = .imm 1 [] → outs = [] → o.upon prog a next Q ((callFunc 91 args).run prog w) := by
    rintro A cap rfl hbx rfl rfl
    have henter : (callFunc 91 #[.slice A 0 cap]).run prog w = .ok (.enter 91 #[.slice A 0 cap]) w := enters_of func91 (by kernel_rfl) rfl _ _
    rw [henter, Oper.upon_enter]
    refine (callsIn_wide.1 (clone_in A cap w)).mono ?_
    rintro e w' ⟨A', rfl, hw⟩
    have hb : RowKit.Below w.heap.size w w' := by
      rcases hw with rfl | ⟨o, rfl⟩
      · exact RowKit.Below.refl _ _
      · exact (RowKit.Below.refl _ w).alloc (Nat.le_refl _) _
    exact hnext _ _ (below_plain hb hbx rfl (.imm A' 0 0 1 [] (fun _ _ => undef) rfl (Nat.le_refl _) (by simp) (fun i j p hp => by simp [cell2] at hp) (fun i j p hp => by simp [cell2] at hp)))
  obtain ⟨al, hal⟩ : ∃ al, args.toList = al := ⟨_, rfl⟩
  have harr : args = al.toArray := by rw [← hal, Array.toArray_toList]
  rw [hal] at hreps
  unfold cloneF at hF
  split at hF
  · cases hF
    cases hreps with
    | cons h1 h2 =>
      cases h2
      have h1 := h1.imm rfl
      cases h1 with
      | imm A n cap _ _ c hn hc hu hcell hr =>
        have : n = 0 := hn.symm
        subst this
        exact key A cap harr (by rw [hal]; rfl) rfl rfl
  · cases hF
    cases hreps with
    | cons h1 h2 =>
      cases h2
      have h1 := h1.imm rfl
      cases h1
      exact key none 0 harr (by rw [hal]; rfl) rfl rfl
  · cases hF
end Go.PE
namespace Go.PE
open Go.RowKit Go.Shelf Go.Proofs Go.Proofs.Tryz
set_option maxRecDepth 100000
/-! ### The encoder's memory -/
structure EncM (w : World) (pb po tb to : Nat) (nd so fr kr : List (List PV)) : Prop where
  e0 : w.cell? ⟨pb, po, none⟩ = some (.pointer (some ⟨tb, to, none⟩))
  e2 : ∃ b o c, w.cell? ⟨pb, po + 2, none⟩ = some (.slice (some ⟨b, o, none⟩) fr.length c) ∧ ∀ v i, intAt fr v = some i → w.cell? ⟨b, o + v, none⟩ = some (.int .i64 i) ∧ v < fr.length
  t0 : ∀ (i : Nat) (o : Int), opAt nd i = some o → ∃ b p c, w.cell? ⟨tb, to, none⟩ = some (.slice (some ⟨b, p, none⟩) nd.length c) ∧ w.cell? ⟨b, p + i * 5, none⟩ = some (.int .i64 o) ∧ i < nd.length
  t2 : ∀ (i : Nat) (z : Int), intAt so i = some z → ∃ b p c, w.cell? ⟨tb, to + 2, none⟩ = some (.slice (some ⟨b, p, none⟩) so.length c) ∧ w.cell? ⟨b, p + i, none⟩ = some (.int .i64 z) ∧ i < so.length
  k3 : ∀ (v : Nat) (ks : List Int), kidsAt kr v = some ks → ∃ b p c A cc, w.cell? ⟨pb, po + 3, none⟩ = some (.slice (some ⟨b, p, none⟩) kr.length c) ∧ v < kr.length ∧ w.cell? ⟨b, p + v, none⟩ = some (.slice A ks.length cc) ∧ ∀ j, j < ks.length → ∃ kb ko, A = some ⟨kb, ko, none⟩ ∧ w.cell? ⟨kb, ko + j, none⟩ = some (.int .i64 (ks.getD j 0))
theorem olds {w W : World} (hb : RowKit.Below w.heap.size w W) {ad : Addr} {v : Value} (h : w.cell? ad = some v) : W.cell? ad = some v := (hb.cell (cell_lt h)).trans h
section
variable {w W : World} {pb po tb to : Nat} {nd so fr kr : List (List PV)}
theorem EncM.grown (h : EncM w pb po tb to nd so fr kr) (hb : RowKit.Below w.heap.size w W) : EncM W pb po tb to nd so fr kr where
  e0 := olds hb h.e0
  e2 := by
    obtain ⟨b, o, c, h1, h2⟩ := h.e2
    exact ⟨b, o, c, olds hb h1, fun v i hv => ⟨olds hb (h2 v i hv).1, (h2 v i hv).2⟩⟩
  t0 := fun i o hi => by
    obtain ⟨b, p, c, h1, h2, h3⟩ := h.t0 i o hi
    exact ⟨b, p, c, olds hb h1, olds hb h2, h3⟩
  t2 := fun i z hi => by
    obtain ⟨b, p, c, h1, h2, h3⟩ := h.t2 i z hi
    exact ⟨b, p, c, olds hb h1, olds hb h2, h3⟩
  k3 := fun v ks hv => by
    obtain ⟨b, p, c, A, cc, h1, h2, h3, h4⟩ := h.k3 v ks hv
    exact ⟨b, p, c, A, cc, olds hb h1, h2, olds hb h3, fun j hj => by
      obtain ⟨kb, ko, h5, h6⟩ := h4 j hj
      exact ⟨kb, ko, h5, olds hb h6⟩⟩
theorem conn_nat {i : Int} {b : Bool} (h : connAt nd so i = some b) : ∃ n : Nat, i = n ∧ ∃ o, opAt nd n = some o ∧ 1 ≤ o ∧ o ≤ 20 := by
  unfold connAt at h
  cases ho : opAt nd i with
  | none => rw [ho] at h; cases h
  | some o =>
    rw [ho] at h
    simp only at h
    have h0 : 0 ≤ i := by
      unfold opAt at ho
      split at ho
      · assumption
      · cases ho
    obtain ⟨n, rfl⟩ := Int.eq_ofNat_of_zero_le h0
    split at h
    · cases h
    · exact ⟨n, rfl, o, ho, by omega, by omega⟩
set_option maxHeartbeats 4000000 in
theorem conn_calls (M : EncM w pb po tb to nd so fr kr) {i : Int} {b : Bool} (h : connAt nd so i = some b) (hi : i < 4611686018427387904) : Calls prog 34 #[.pointer (some ⟨tb, to, none⟩), .int .i64 i] w fun e w' => e = .returned (.bool b) ∧ w' = w := by
  obtain ⟨n, rfl, o, ho, h1, h2⟩ := conn_nat h
  obtain ⟨nb, no, nc, c0, cn, hn⟩ := M.t0 n o ho
  unfold connAt at h
  rw [ho] at h
  simp only at h
  rw [if_neg (by omega)] at h
  have hw : IntKind.i64.wrap ((n : Int) + 1) = ((n + 1 : Nat) : Int) := by rw [wrap_i64 (by omega) (by omega)]; omega
  have ho : o = 10 ∨ o = 11 ∨ o = 1 ∨ o = 2 ∨ o = 3 ∨ o = 4 ∨ o = 5 ∨ o = 6 ∨ o = 7 ∨ o = 8 ∨ o = 9 ∨ o = 12 ∨ o = 13 ∨ o = 14 ∨ o = 15 ∨ o = 16 ∨ o = 17 ∨ o = 18 ∨ o = 19 ∨ o = 20 := by omega
  rcases ho with rfl | rfl | ho
  · cases hz : intAt so (n : Int).toNat with
    | none => rw [hz] at h; cases h
    | some z =>
      rw [hz] at h
      rw [Int.toNat_natCast] at hz
      obtain rfl : decide (z = 1) = b := by simpa using h
      obtain ⟨sb, sp, sc, c2, cz, hs⟩ := M.t2 n z hz
      go_enter func34, ntmps34
      go_wp2
      go_ret
      exact ⟨rfl, rfl⟩
  · cases hz : intAt so ((n : Int).toNat + 1) with
    | none => rw [hz] at h; cases h
    | some z =>
      rw [hz] at h
      rw [Int.toNat_natCast] at hz
      obtain rfl : decide (z = 1) = b := by simpa using h
      obtain ⟨sb, sp, sc, c2, cz, hs⟩ := M.t2 (n + 1) z hz
      go_enter func34, ntmps34
      go_wp2
      go_ret
      exact ⟨rfl, rfl⟩
  · rcases ho with rfl | rfl | rfl | rfl | rfl | rfl | rfl | rfl | rfl | rfl | rfl | rfl | rfl | rfl | rfl | rfl | rfl | rfl
    all_goals (
      cases h
      go_enter func34, ntmps34
      go_wp2
      go_ret
      exact ⟨rfl, rfl⟩)
end
/-! ### What vv gives with less means it gives with more -/
section
variable (nd so fr kr ar : List (List PV))
theorem litB_mono {f g : Nat → Option Bool} (h : ∀ v b, f v = some b → g v = some b) {x : Int} {b : Bool} (hx : litB f x = some b) : litB g x = some b := by
  unfold litB at *
  split at hx
  · rename_i h0
    rw [if_pos h0]
    exact h _ _ hx
  · rename_i h0
    rw [if_neg h0]
    split at hx
    · rename_i h1
      rw [if_pos h1]
      cases hf : f ((-x).toNat - 1) with
      | none => rw [hf] at hx; cases hx
      | some c => rw [hf] at hx; rw [h _ _ hf]; exact hx
    · cases hx
theorem allB_get {f : Int → Option Bool} : ∀ {l : List Int} {bs : List Bool}, allB f l = some bs → bs.length = l.length ∧ ∀ j, j < l.length → f (l.getD j 0) = some (bs.getD j false)
  | [], bs, h => by cases h; exact ⟨rfl, fun j hj => by simp at hj⟩
  | x :: l, bs, h => by
    unfold allB at h
    split at h
    · rename_i b bs' h1 h2
      cases h
      obtain ⟨h3, h4⟩ := allB_get h2
      refine ⟨by rw [List.length_cons, List.length_cons, h3], fun j hj => ?_⟩
      cases j with
      | zero => exact h1
      | succ j => exact h4 j (by simpa using hj)
    · cases h
theorem allB_mono {f g : Int → Option Bool} (h : ∀ x b, f x = some b → g x = some b) : ∀ {l : List Int} {bs : List Bool}, allB f l = some bs → allB g l = some bs
  | [], _, e => e
  | x :: l, bs, e => by
    unfold allB at *
    split at e
    · rename_i b bs' h1 h2
      cases e
      rw [h _ _ h1, allB_mono h h2]
    · cases e
/-- A variable's value: that of an atom, or of a connective by those of its children. -/
theorem vv_some {f v : Nat} {b : Bool} (h : vv nd so fr kr ar (f + 1) v = some b) : ∃ i, intAt fr v = some i ∧ ((connAt nd so i = some false ∧ boolAt ar (cntA nd so fr v) = some b) ∨
    (connAt nd so i = some true ∧ ∃ o ks bs, opAt nd i = some o ∧ kidsAt kr v = some ks ∧ allB (litB (vv nd so fr kr ar f)) ks = some bs ∧ connV o bs = some b)) := by
  unfold vv at h
  cases h1 : intAt fr v with
  | none => rw [h1] at h; cases h
  | some i =>
    rw [h1] at h
    simp only at h
    refine ⟨i, rfl, ?_⟩
    cases h2 : connAt nd so i with
    | none => rw [h2] at h; cases h
    | some c =>
      rw [h2] at h
      cases c with
      | false => exact .inl ⟨rfl, h⟩
      | true =>
        refine .inr ⟨rfl, ?_⟩
        cases h3 : opAt nd i with
        | none => rw [h3] at h; cases h
        | some o =>
          rw [h3] at h
          simp only at h
          cases h4 : kidsAt kr v with
          | none => rw [h4] at h; cases h
          | some ks =>
            rw [h4] at h
            simp only at h
            cases h5 : allB (litB (vv nd so fr kr ar f)) ks with
            | none => rw [h5] at h; cases h
            | some bs =>
              rw [h5] at h
              exact ⟨o, ks, bs, rfl, rfl, h5, h⟩
theorem vv_mono : ∀ (f v : Nat) (b : Bool), vv nd so fr kr ar f v = some b → vv nd so fr kr ar (f + 1) v = some b
  | 0, _, _, h => by cases h
  | f + 1, v, b, h => by
    obtain ⟨i, h1, h2⟩ := vv_some nd so fr kr ar h
    unfold vv
    rw [h1]
    simp only
    rcases h2 with ⟨h2, h3⟩ | ⟨h2, o, ks, bs, h3, h4, h5, h6⟩
    · rw [h2]; exact h3
    · have := allB_mono (fun x b => litB_mono (vv_mono f)) h5
      rw [h2, h3, h4]
      simp only [this]
      exact h6
theorem vv_le {f g : Nat} (h : f ≤ g) {v : Nat} {b : Bool} (hv : vv nd so fr kr ar f v = some b) : vv nd so fr kr ar g v = some b := by
  induction g with
  | zero => rw [show f = 0 by omega] at hv; exact hv
  | succ g ih =>
    by_cases e : f = g + 1
    · rw [← e]; exact hv
    · exact vv_mono nd so fr kr ar g v b (ih (by omega))
end
end Go.PE
namespace Go.PE
open Go.RowKit Go.Shelf Go.Proofs Go.Proofs.Tryz
set_option maxRecDepth 100000
/-! ### truth and connect -/
/-- Where extend's variables lie, and what the encoder's memory holds. -/
structure Pl where
  (b10 b6 b2 b5 rd ro pb po tb to n : Nat)
  (nd so fr kr ar : List (List PV))
def Pl.V (p : Pl) (f v : Nat) : Option Bool := vv p.nd p.so p.fr p.kr p.ar f v
structure Pl.Sep (p : Pl) (s : Nat) : Prop where
  ge : s ≤ p.ro ∧ s ≤ p.rd
  ne : p.ro ≠ p.rd ∧ p.ro ≠ p.b5 ∧ p.ro ≠ p.b6 ∧ p.rd ≠ p.b5 ∧ p.rd ≠ p.b6 ∧ p.ro ≠ p.b2 ∧ p.rd ≠ p.b2 ∧ p.ro ≠ p.b10 ∧ p.rd ≠ p.b10
  n : p.n = p.fr.length ∧ p.n ≤ 1000000
def brw (l : List Bool) : Array Value := (l.map Value.bool).toArray
structure TS (p : Pl) (w W : World) (o d : List Bool) : Prop where
  bel : RowKit.Below w.heap.size w W
  c2 : W.cell? ⟨p.b2, 0, none⟩ = some (.pointer (some ⟨p.pb, p.po, none⟩))
  c5 : W.cell? ⟨p.b5, 0, none⟩ = some (.slice (some ⟨p.ro, 0, none⟩) p.n p.n)
  c6 : W.cell? ⟨p.b6, 0, none⟩ = some (.slice (some ⟨p.rd, 0, none⟩) p.n p.n)
  c10 : W.cell? ⟨p.b10, 0, none⟩ = some (.func (.func 60) #[] #[.pointer (some ⟨p.b10, 0, none⟩), .pointer (some ⟨p.b6, 0, none⟩), .pointer (some ⟨p.b2, 0, none⟩), .pointer (some ⟨p.b5, 0, none⟩)])
  ho : W.heap[p.ro]? = some (.cells (brw o) 4 (0, 0))
  hd : W.heap[p.rd]? = some (.cells (brw d) 4 (0, 0))
  lo : o.length = p.n
  ld : d.length = p.n
  val : ∀ v, v < p.n → d.getD v false = true → p.V 1000000 v = some (o.getD v false)
  atm : ∀ v, v < p.n → connOf p.nd p.so p.fr v = some false → d.getD v false = true
theorem brw_cell {W : World} {r : Nat} {l : List Bool} (h : W.heap[r]? = some (.cells (brw l) 4 (0, 0))) {v : Nat} (hv : v < l.length) : W.cell? ⟨r, v, none⟩ = some (.bool (l.getD v false)) := by
  simp only [World.cell?, h, brw]
  simp [List.getD, List.getElem?_eq_getElem hv]
theorem brw_frz {W : World} {r : Nat} {l : List Bool} (h : W.heap[r]? = some (.cells (brw l) 4 (0, 0))) (v : Nat) : W.frozen? ⟨r, v, none⟩ = false := by
  simp [World.frozen?, h]
theorem set_block {W : World} {r : Nat} {cs : Array Value} {e : TypeId} (h : W.heap[r]? = some (.cells cs e (0, 0))) (j : Nat) (v : Value) : (W.setCell ⟨r, j, none⟩ v).heap[r]? = some (.cells (cs.setIfInBounds j v) e (0, 0)) := by
  have hlt := lt_of_block h
  have h' : W.heap[r] = .cells cs e (0, 0) := by simpa [Array.getElem?_eq_getElem hlt] using h
  show (W.heap.modify r _)[r]? = _
  rw [Array.getElem?_eq_getElem (by simpa using hlt), Array.getElem_modify_self, h']
  rfl
theorem brw_set (l : List Bool) (v : Nat) (b : Bool) : (brw l).setIfInBounds v (.bool b) = brw (l.set v b) := by
  simp [brw, List.map_set]
section
variable {p : Pl} {w W : World} {o d : List Bool}
theorem TS.drewN (h : TS p w W o d) (n : Nat) : TS p w (W.drewN n) o d := ⟨⟨h.bel.os, h.bel.tape, h.bel.output, h.bel.size, h.bel.block⟩, h.c2, h.c5, h.c6, h.c10, h.ho, h.hd, h.lo, h.ld, h.val, h.atm⟩
/-- One more value. -/
theorem TS.put (h : TS p w W o d) (S : p.Sep w.heap.size) {v : Nat} {b : Bool} (hv : v < p.n) (hb : p.V 1000000 v = some b) (n : Nat) :
    TS p w (((W.setCell ⟨p.ro, v, none⟩ (.bool b)).drewN n).setCell ⟨p.rd, v, none⟩ (.bool true)) (o.set v b) (d.set v true) := by
  obtain ⟨s1, s2, s3, s4, s5, s6, s7, s8, s9⟩ := S.ne
  have hk : ∀ {x : Nat} {j : Nat} {u : Value}, x ≠ p.ro → x ≠ p.rd → W.cell? ⟨x, j, none⟩ = some u → (((W.setCell ⟨p.ro, v, none⟩ (.bool b)).drewN n).setCell ⟨p.rd, v, none⟩ (.bool true)).cell? ⟨x, j, none⟩ = some u := fun h1 h2 h3 => by
    rw [World.cell?_setCell_other _ _ _ _ (by simp only [ne_eq, Addr.mk.injEq, not_and]; intro e; exact absurd e.symm h2)]
    exact (World.cell?_setCell_other _ _ _ _ (by simp only [ne_eq, Addr.mk.injEq, not_and]; intro e; exact absurd e.symm h1)).trans h3
  have hg := S.ge
  have b1 : RowKit.Below w.heap.size w (W.setCell ⟨p.ro, v, none⟩ (.bool b)) := h.bel.setCell (by simp; omega) (.bool b)
  have b2 : RowKit.Below w.heap.size w ((W.setCell ⟨p.ro, v, none⟩ (.bool b)).drewN n) := ⟨b1.os, b1.tape, b1.output, b1.size, b1.block⟩
  refine ⟨b2.setCell (by simp; omega) _, hk s6.symm s7.symm h.c2, hk s2.symm s4.symm h.c5, hk s3.symm s5.symm h.c6, hk s8.symm s9.symm h.c10, ?_, ?_, by rw [List.length_set]; exact h.lo, by rw [List.length_set]; exact h.ld, fun x hx hd => ?_, fun x hx hc => ?_⟩
  · refine (Below.heap_setCell _ _ _ _ (by simp; omega)).trans ?_
    rw [← brw_set]
    exact set_block h.ho v _
  · rw [← brw_set]
    refine set_block ?_ v _
    exact (Below.heap_setCell _ _ _ _ (by simp; omega)).trans h.hd
  · by_cases e : x = v
    · subst e
      rw [show (o.set x b).getD x false = b by simp [List.getD, List.getElem?_set, h.lo, hx]]
      exact hb
    · have h1 : (d.set v true).getD x false = d.getD x false := by simp [List.getD, List.getElem?_set, Ne.symm e]
      have h2 : (o.set v b).getD x false = o.getD x false := by simp [List.getD, List.getElem?_set, Ne.symm e]
      rw [h2]
      exact h.val x hx (h1 ▸ hd)
  · by_cases e : x = v
    · subst e
      simp [List.getD, List.getElem?_set, h.ld, hx]
    · have h1 : (d.set v true).getD x false = d.getD x false := by simp [List.getD, List.getElem?_set, Ne.symm e]
      rw [h1]
      exact h.atm x hx hc
end
def Mono (n : Nat) (d d' : List Bool) : Prop := ∀ v, v < n → d.getD v false = true → d'.getD v false = true
def Pl.args (p : Pl) (x : Int) : Array Value := #[.int .i64 x, .pointer (some ⟨p.b10, 0, none⟩), .pointer (some ⟨p.b6, 0, none⟩), .pointer (some ⟨p.b2, 0, none⟩), .pointer (some ⟨p.b5, 0, none⟩)]
/-- What truth does. -/
def TruthAt (p : Pl) (w : World) (f : Nat) : Prop := ∀ v b, v < p.n → p.V f v = some b → ∀ W o d, TS p w W o d → Calls prog 60 #[.int .i64 ((v : Int) + 1), .pointer (some ⟨p.b10, 0, none⟩), .pointer (some ⟨p.b6, 0, none⟩), .pointer (some ⟨p.b2, 0, none⟩), .pointer (some ⟨p.b5, 0, none⟩)] W fun e W' => e = .returned (.bool b) ∧ ∃ o' d', TS p w W' o' d' ∧ Mono p.n d d' ∧ d'.getD v false = true
def LitAt (p : Pl) (w : World) (f : Nat) : Prop := ∀ x b, litB (p.V f) x = some b → ∀ W o d, TS p w W o d → Calls prog 60 #[.int .i64 x, .pointer (some ⟨p.b10, 0, none⟩), .pointer (some ⟨p.b6, 0, none⟩), .pointer (some ⟨p.b2, 0, none⟩), .pointer (some ⟨p.b5, 0, none⟩)] W fun e W' => e = .returned (.bool b) ∧ ∃ o' d', TS p w W' o' d' ∧ Mono p.n d d'
def ConnAt (p : Pl) (w : World) (f : Nat) : Prop := ∀ v i b o ks bs, v < p.n → intAt p.fr v = some i → connAt p.nd p.so i = some true → opAt p.nd i = some o → kidsAt p.kr v = some ks → allB (litB (p.V f)) ks = some bs → connV o bs = some b →
  ∀ W oo dd, TS p w W oo dd → Calls prog 61 #[.pointer (some ⟨p.pb, p.po, none⟩), .int .i64 ((v : Int) + 1), .func (.func 60) #[] #[.pointer (some ⟨p.b10, 0, none⟩), .pointer (some ⟨p.b6, 0, none⟩), .pointer (some ⟨p.b2, 0, none⟩), .pointer (some ⟨p.b5, 0, none⟩)]] W
    fun e W' => e = .returned (.bool b) ∧ ∃ o' d', TS p w W' o' d' ∧ Mono p.n dd d'
theorem V_lt {p : Pl} {f v : Nat} {b : Bool} (S : p.n = p.fr.length) (h : p.V f v = some b) : v < p.n := by
  cases f with
  | zero => cases h
  | succ f =>
    obtain ⟨i, h1, _⟩ := vv_some _ _ _ _ _ h
    unfold intAt at h1
    split at h1
    · rename_i e
      have := (List.getElem?_eq_some_iff.1 e).1
      omega
    · cases h1
theorem lit_of {p : Pl} {w : World} {f : Nat} (S : p.Sep w.heap.size) (hT : TruthAt p w f) : LitAt p w f := by
  intro x b hx W o d h
  unfold litB at hx
  split at hx
  · rename_i h0
    have hlt := V_lt S.n.1 hx
    obtain ⟨v, rfl⟩ : ∃ v : Nat, x = (v : Int) + 1 := ⟨x.toNat - 1, by omega⟩
    rw [show ((v : Int) + 1).toNat - 1 = v by omega] at hx hlt
    refine (hT v b hlt hx W o d h).mono ?_
    rintro e W' ⟨he, o', d', h1, h2, _⟩
    exact ⟨he, o', d', h1, h2⟩
  · split at hx
    · rename_i h0 h1
      cases hv : p.V f ((-x).toNat - 1) with
      | none => rw [hv] at hx; cases hx
      | some c =>
        rw [hv] at hx
        obtain rfl : (!c) = b := by simpa using hx
        have hlt := V_lt S.n.1 hv
        have hn := S.n.2
        obtain ⟨v, rfl⟩ : ∃ v : Nat, x = -((v : Int) + 1) := ⟨(-x).toNat - 1, by omega⟩
        rw [show (-(-((v : Int) + 1))).toNat - 1 = v by omega] at hv hlt
        have hc := hT v c hlt hv W o d h
        have hw : IntKind.i64.wrap (0 - -((v : Int) + 1)) = (v : Int) + 1 := by rw [wrap_i64 (by omega) (by omega)]; omega
        have hneg : -((v : Int) + 1) < 0 := by omega
        have c10 := h.c10
        go_enter func60, ntmps60
        go_wp2_with (go_at_call 60; refine hc.mono ?_; rintro e w' ⟨rfl, o', d', h1, h2, h3⟩)
        go_ret
        exact ⟨rfl, o', d', h1, h2⟩
    · cases hx
end Go.PE
namespace Go.PE
open Go.RowKit Go.Shelf Go.Proofs Go.Proofs.Tryz
set_option maxRecDepth 100000
set_option maxHeartbeats 4000000 in
theorem truth_of {p : Pl} {w : World} {f : Nat} (S : p.Sep w.heap.size) (hf : f < 1000000) (hC : ConnAt p w f) : TruthAt p w (f + 1) := by
  intro v b hv hV W o d h
  obtain ⟨s1, s2, s3, s4, s5, s6, s7, s8, s9⟩ := S.ne
  obtain ⟨sn, sm⟩ := S.n
  have hM : p.V 1000000 v = some b := vv_le _ _ _ _ _ (by omega) hV
  have hpos : ¬ ((v : Int) + 1 < 0) := by omega
  have hw : IntKind.i64.wrap ((v : Int) + 1 - 1) = (v : Int) := by rw [wrap_i64 (by omega) (by omega)]; omega
  have hw2 : IntKind.i64.wrap (v : Int) = (v : Int) := wrap_i64 (by omega) (by omega)
  have c5 := h.c5
  have c6 := h.c6
  have hdc := brw_cell h.hd (v := v) (by rw [h.ld]; exact hv)
  have hoc := brw_cell h.ho (v := v) (by rw [h.lo]; exact hv)
  cases hd : d.getD v false with
  | true =>
    have := h.val v hv hd
    rw [hM] at this
    obtain rfl : b = o.getD v false := by simpa using this
    rw [hd] at hdc
    generalize o.getD v false = b at *
    go_enter func60, ntmps60
    go_wp2
    go_ret
    exact ⟨rfl, o, d, h, fun _ _ h => h, hd⟩
  | false =>
    rw [hd] at hdc
    obtain ⟨i, h1, h2⟩ := vv_some _ _ _ _ _ hV
    rcases h2 with ⟨h2, _⟩ | ⟨h2, op, ks, bs, h3, h4, h5, h6⟩
    · have := h.atm v hv (by unfold connOf; rw [h1]; exact h2)
      rw [hd] at this
      cases this
    · have q := hC v i b op ks bs hv h1 h2 h3 h4 h5 h6 W.drew o d (h.drewN 1)
      have c2 := h.c2
      have c10 := h.c10
      have fo0 := brw_frz h.ho v
      have so0 : (W.cell? ⟨p.ro, v, none⟩).isSome = true := by rw [hoc]; rfl
      clear sn sm
      go_enter func60, ntmps60
      go_wp2_with fail
      go_region_held3 (fun w' => w'.cell? ⟨p.b5, 0, none⟩ = some (.slice (some ⟨p.ro, 0, none⟩) p.n p.n) ∧ w'.cell? ⟨p.b2, 0, none⟩ = some (.pointer (some ⟨p.pb, p.po, none⟩)) ∧ w'.cell? ⟨p.b10, 0, none⟩ = some (.func (.func 60) #[] #[.pointer (some ⟨p.b10, 0, none⟩), .pointer (some ⟨p.b6, 0, none⟩), .pointer (some ⟨p.b2, 0, none⟩), .pointer (some ⟨p.b5, 0, none⟩)]) ∧ w'.frozen? ⟨p.ro, v, none⟩ = false ∧ (w'.cell? ⟨p.ro, v, none⟩).isSome = true)
        (first | exact ⟨c5, c2, c10, fo0, so0⟩ | exact ⟨c5', c2', c10', fo0', so0'⟩ | exact ⟨(World.cell?_setCell_other _ _ _ _ (by simp [s2])).trans c5', (World.cell?_setCell_other _ _ _ _ (by simp [s6])).trans c2', (World.cell?_setCell_other _ _ _ _ (by simp [s8])).trans c10', (World.frozen?_setCell _ _ _ _).trans fo0', (congrArg Option.isSome (World.cell?_setCell_same' _ _ _ so0')).trans rfl⟩)
        (first | (go_at_call 61; refine q.mono ?_; rintro e w1 ⟨rfl, o1, d1, t1, hm⟩; have c5' := t1.c5; have c2' := t1.c2; have c10' := t1.c10; have fo0' := brw_frz t1.ho v; have hoc' := brw_cell t1.ho (v := v) (by rw [t1.lo]; exact hv); have so0' : (w1.cell? ⟨p.ro, v, none⟩).isSome = true := (by rw [hoc']; rfl)))
      have hdc' := brw_cell t1.hd (v := v) (by rw [t1.ld]; exact hv)
      have fd0' := brw_frz t1.hd v
      have k6 : (w1.setCell ⟨p.ro, v, none⟩ (.bool b)).cell? ⟨p.b6, 0, none⟩ = some (.slice (some ⟨p.rd, 0, none⟩) p.n p.n) := (World.cell?_setCell_other _ _ _ _ (by simp [s3])).trans t1.c6
      have kd : (w1.setCell ⟨p.ro, v, none⟩ (.bool b)).cell? ⟨p.rd, v, none⟩ = some (.bool (d1.getD v false)) := (World.cell?_setCell_other _ _ _ _ (by simp [s1])).trans hdc'
      have kf : (w1.setCell ⟨p.ro, v, none⟩ (.bool b)).frozen? ⟨p.rd, v, none⟩ = false := (World.frozen?_setCell _ _ _ _).trans fd0'
      have k5 : (w1.setCell ⟨p.ro, v, none⟩ (.bool b)).cell? ⟨p.b5, 0, none⟩ = some (.slice (some ⟨p.ro, 0, none⟩) p.n p.n) := (World.cell?_setCell_other _ _ _ _ (by simp [s2])).trans t1.c5
      have ko : (w1.setCell ⟨p.ro, v, none⟩ (.bool b)).cell? ⟨p.ro, v, none⟩ = some (.bool b) := World.cell?_setCell_same' _ _ _ so0'
      have m5 : ((w1.setCell ⟨p.ro, v, none⟩ (.bool b)).setCell ⟨p.rd, v, none⟩ (.bool true)).cell? ⟨p.b5, 0, none⟩ = some (.slice (some ⟨p.ro, 0, none⟩) p.n p.n) := (World.cell?_setCell_other _ _ _ _ (by simp [s4])).trans k5
      have mo : ((w1.setCell ⟨p.ro, v, none⟩ (.bool b)).setCell ⟨p.rd, v, none⟩ (.bool true)).cell? ⟨p.ro, v, none⟩ = some (.bool b) := (World.cell?_setCell_other _ _ _ _ (by simp [Ne.symm s1])).trans ko
      go_wp2_with fail
      go_ret
      have tp := t1.put S hv hM 0
      refine ⟨rfl, _, _, tp, fun x hx hdx => ?_, ?_⟩
      · have := hm x hx hdx
        by_cases e : x = v
        · subst e
          simp [List.getD, List.getElem?_set, t1.ld, hx]
        · simp only [List.getD, List.getElem?_set, Ne.symm e, if_false]
          exact this
      · simp [List.getD, List.getElem?_set, t1.ld, hv]
end Go.PE
namespace Go.PE
open Go.RowKit Go.Shelf Go.Proofs Go.Proofs.Tryz
set_option maxRecDepth 100000
theorem Mono.trans {n : Nat} {a b c : List Bool} (h : Mono n a b) (h' : Mono n b c) : Mono n a c := fun v hv hd => h' v hv (h v hv hd)
theorem Mono.refl (n : Nat) (a : List Bool) : Mono n a a := fun _ _ h => h
/-- A list that lies in memory. -/
structure KM (w : World) (A : Option Addr) (l : List Int) : Prop where
  at' : ∀ j, j < l.length → ∃ kb ko, A = some ⟨kb, ko, none⟩ ∧ w.cell? ⟨kb, ko + j, none⟩ = some (.int .i64 (l.getD j 0))
theorem KM.two {w : World} {A : Option Addr} {l : List Int} (h : KM w A l) (h0 : 0 < l.length) : ∃ kb ko, A = some ⟨kb, ko, none⟩ ∧ ∀ j, j < l.length → w.cell? ⟨kb, ko + j, none⟩ = some (.int .i64 (l.getD j 0)) := by
  obtain ⟨kb, ko, rfl, _⟩ := h.at' 0 h0
  refine ⟨kb, ko, rfl, fun j hj => ?_⟩
  obtain ⟨kb', ko', h1, h2⟩ := h.at' j hj
  cases h1
  exact h2
theorem unInts_len : ∀ {xs : List (List PV)} {l : List Int}, unInts xs = some l → l.length = xs.length
  | [], l, h => by cases h; rfl
  | x :: xs, l, h => by
    unfold unInts at h
    split at h
    · rename_i he; cases he
    · rename_i z r he
      simp only [List.cons.injEq] at he
      obtain ⟨rfl, rfl⟩ := he
      split at h
      · rename_i l' hl
        cases h
        rw [List.length_cons, List.length_cons, unInts_len hl]
      · cases h
    · cases h
theorem kids_len {kr : List (List PV)} {v : Nat} {ks : List Int} (h : kidsAt kr v = some ks) : ks.length ≤ 1000000 := by
  unfold kidsAt at h
  split at h
  · split at h
    · rw [unInts_len h]; assumption
    · cases h
  · cases h
set_option maxHeartbeats 16000000 in
theorem conn_of' {p : Pl} {w : World} {f tb to : Nat} (S : p.Sep w.heap.size) (M : EncM w p.pb p.po tb to p.nd p.so p.fr p.kr) (hL : LitAt p w f) : ConnAt p w f := by
  intro v i b op ks bs hv hi hcn hop hks hbs hcv W oo dd h
  obtain ⟨n, rfl, _⟩ := conn_nat hcn
  obtain ⟨sn, sm⟩ := S.n
  have MW := M.grown h.bel
  obtain ⟨fb, fo, fc, e2, hf⟩ := MW.e2
  obtain ⟨hf, hvl⟩ := hf v n hi
  have e0 := MW.e0
  obtain ⟨nb, no, nc, t0, cn, hnl⟩ := MW.t0 n op hop
  obtain ⟨_, _, _, A', _, e3w, _, ckw, hkw⟩ := M.k3 v ks hks
  obtain ⟨kb, ko, kc, A, cc, e3, hvk, ck, _⟩ := MW.k3 v ks hks
  have hKM : KM w A ks := by
    have e3' := olds h.bel e3w
    rw [e3] at e3'
    cases e3'
    have ck' := olds h.bel ckw
    rw [ck] at ck'
    cases ck'
    exact ⟨hkw⟩
  have hw : IntKind.i64.wrap ((v : Int) + 1 - 1) = (v : Int) := by rw [wrap_i64 (by omega) (by omega)]; omega
  have hw2 : IntKind.i64.wrap (v : Int) = (v : Int) := wrap_i64 (by omega) (by omega)
  have hle := kids_len hks
  obtain ⟨hbl, hbg⟩ := allB_get hbs
  have q := fun j hj n => hL _ _ (hbg j hj) (W.drewN n) oo dd (h.drewN n)
  clear sn sm
  have hops : op = 1 ∨ op = 2 ∨ op = 7 ∨ op = 8 ∨ op = 9 ∨ op = 10 ∨ op = 11 := by
    unfold connV at hcv
    repeat' split at hcv
    all_goals first | omega | cases hcv
  rcases hops with rfl | rfl | rfl | rfl | rfl | rfl | rfl
  · obtain rfl : true = b := by simpa [connV] using hcv
    go_enter func61, ntmps61
    go_wp2_with fail
    go_quiet (fail)
    go_wp2_with fail
    go_ret
    exact ⟨rfl, oo, dd, h.drewN _, Mono.refl _ _⟩
  · obtain rfl : false = b := by simpa [connV] using hcv
    go_enter func61, ntmps61
    go_wp2_with fail
    go_quiet (fail)
    go_wp2_with fail
    go_ret
    exact ⟨rfl, oo, dd, h.drewN _, Mono.refl _ _⟩
  · obtain rfl : bs.all id = b := by simpa [connV] using hcv
    go_enter func61, ntmps61
    go_wp2_with fail
    go_quiet (fail)
    go_wp2_with fail
    go_loopw [44] (fun i wr => ∃ k : Nat, k ≤ ks.length ∧ i = .int .i64 k ∧ (bs.take k).all id = true ∧ ∃ o1 d1, TS p w wr o1 d1 ∧ Mono p.n dd d1) (fun i _ => ks.length - (intOf i).toNat)
    case atStart => exact ⟨0, Nat.zero_le _, rfl, rfl, oo, dd, h.drewN _, Mono.refl _ _⟩
    case round =>
      obtain ⟨k, hk, rfl, hall, o1, d1, t1, m1⟩ := hrel
      by_cases hkn : k < ks.length
      · obtain ⟨kb, ko, rfl, hc⟩ := hKM.at' k hkn
        have lk := olds t1.bel hc
        have q1 := hL _ _ (hbg k hkn) wr o1 d1 t1
        have htk : (bs.take (k + 1)).all id = ((bs.take k).all id && bs.getD k false) := by
          rw [List.take_add_one, List.all_append, List.getElem?_eq_getElem (show k < bs.length by omega)]
          simp [List.getD, List.getElem?_eq_getElem (show k < bs.length by omega)]
        generalize ks.getD k 0 = x at *
        cases hbk : bs.getD k false with
        | false =>
          rw [hbk] at q1
          have hres : bs.all id = false := by
            have := congrArg (fun l : List Bool => l.all id) (List.take_append_drop (k + 1) bs)
            simp only [List.all_append, htk, hall, hbk] at this
            rw [← this]; rfl
          go_wp2_with (go_at_call 60; refine q1.mono ?_; rintro e w2 ⟨rfl, o2, d2, t2, m2⟩)
          go_ret
          exact ⟨by rw [hres]; rfl, o2, d2, t2, m1.trans m2⟩
        | true =>
          rw [hbk] at q1
          go_wp2_with (go_at_call 60; refine q1.mono ?_; rintro e w2 ⟨rfl, o2, d2, t2, m2⟩)
          exact ⟨⟨k + 1, by omega, by simp, by rw [htk, hall, hbk]; rfl, o2, d2, t2, m1.trans m2⟩, by simp [intOf]; omega⟩
      · have hkn : k = ks.length := by omega
        subst hkn
        rw [← hbl, List.take_length] at hall
        go_wp2_with fail
        go_ret
        exact ⟨by rw [hall]; rfl, o1, d1, t1, m1⟩
  · obtain rfl : bs.any id = b := by simpa [connV] using hcv
    go_enter func61, ntmps61
    go_wp2_with fail
    go_quiet (fail)
    go_wp2_with fail
    go_loopw [57] (fun i wr => ∃ k : Nat, k ≤ ks.length ∧ i = .int .i64 k ∧ (bs.take k).any id = false ∧ ∃ o1 d1, TS p w wr o1 d1 ∧ Mono p.n dd d1) (fun i _ => ks.length - (intOf i).toNat)
    case atStart => exact ⟨0, Nat.zero_le _, rfl, rfl, oo, dd, h.drewN _, Mono.refl _ _⟩
    case round =>
      obtain ⟨k, hk, rfl, hall, o1, d1, t1, m1⟩ := hrel
      by_cases hkn : k < ks.length
      · obtain ⟨kb, ko, rfl, hc⟩ := hKM.at' k hkn
        have lk := olds t1.bel hc
        have q1 := hL _ _ (hbg k hkn) wr o1 d1 t1
        have htk : (bs.take (k + 1)).any id = ((bs.take k).any id || bs.getD k false) := by
          rw [List.take_add_one, List.any_append, List.getElem?_eq_getElem (show k < bs.length by omega)]
          simp [List.getD, List.getElem?_eq_getElem (show k < bs.length by omega)]
        generalize ks.getD k 0 = x at *
        cases hbk : bs.getD k false with
        | true =>
          rw [hbk] at q1
          have hres : bs.any id = true := by
            have := congrArg (fun l : List Bool => l.any id) (List.take_append_drop (k + 1) bs)
            simp only [List.any_append, htk, hall, hbk] at this
            rw [← this]; rfl
          go_wp2_with (go_at_call 60; refine q1.mono ?_; rintro e w2 ⟨rfl, o2, d2, t2, m2⟩)
          go_ret
          exact ⟨by rw [hres]; rfl, o2, d2, t2, m1.trans m2⟩
        | false =>
          rw [hbk] at q1
          go_wp2_with (go_at_call 60; refine q1.mono ?_; rintro e w2 ⟨rfl, o2, d2, t2, m2⟩)
          exact ⟨⟨k + 1, by omega, by simp, by rw [htk, hall, hbk]; rfl, o2, d2, t2, m1.trans m2⟩, by simp [intOf]; omega⟩
      · have hkn : k = ks.length := by omega
        subst hkn
        rw [← hbl, List.take_length] at hall
        go_wp2_with fail
        go_ret
        exact ⟨by rw [hall]; rfl, o1, d1, t1, m1⟩
  · have h2 : ∃ a0 a1, bs.getD 0 false = a0 ∧ bs.getD 1 false = a1 ∧ 2 ≤ bs.length ∧ b = (!a0 || a1) := by
      unfold connV at hcv
      match bs, hcv with
      | [], hcv => cases hcv
      | [_], hcv => cases hcv
      | x :: y :: _, hcv => exact ⟨x, y, rfl, rfl, by simp, by simpa using hcv.symm⟩
    obtain ⟨a0, a1, g0, g1, hl2, rfl⟩ := h2
    obtain ⟨kb, ko, rfl, hk⟩ := hKM.two (by omega)
    have l0 := olds h.bel (hk 0 (by omega))
    rw [Nat.add_zero] at l0
    have l1 := hk 1 (by omega)
    have hL1 := hL _ _ (hbg 1 (by omega))
    have q0 := q 0 (by omega)
    rw [g0] at q0
    rw [g1] at hL1
    generalize ks.getD 0 0 = x0 at *
    generalize ks.getD 1 0 = x1 at *
    have hk0 : 0 < ks.length := by omega
    have hk1 : 1 < ks.length := by omega
    go_enter func61, ntmps61
    go_wp2_with fail
    go_quiet (fail)
    cases a0 with
    | false =>
      go_wp2_with (go_at_call 60; refine (q0 _).mono ?_; rintro e w1 ⟨rfl, o1, d1, t1, m1⟩)
      go_ret
      exact ⟨rfl, o1, d1, t1, m1⟩
    | true =>
      go_wp2_with (go_at_call 60; refine (q0 _).mono ?_; clear q0; rintro e w1 ⟨rfl, o1, d1, t1, m1⟩; have l1' := olds t1.bel l1; have q1 := hL1 w1 o1 d1 t1; clear hL1)
      go_wp2_with (go_at_call 60; refine q1.mono ?_; rintro e w2 ⟨rfl, o2, d2, t2, m2⟩)
      go_ret
      exact ⟨rfl, o2, d2, t2, m1.trans m2⟩
  · have h2 : ∃ a0 a1 a2, bs.getD 0 false = a0 ∧ bs.getD 1 false = a1 ∧ bs.getD 2 false = a2 ∧ 3 ≤ bs.length ∧ b = (if a0 then a1 else a2) := by
      unfold connV at hcv
      match bs, hcv with
      | [], hcv => cases hcv
      | [_], hcv => cases hcv
      | [_, _], hcv => cases hcv
      | x :: y :: z :: _, hcv => exact ⟨x, y, z, rfl, rfl, rfl, by simp, by simpa using hcv.symm⟩
    obtain ⟨a0, a1, a2, g0, g1, g2, hl2, rfl⟩ := h2
    obtain ⟨kb, ko, rfl, hk⟩ := hKM.two (by omega)
    have l0 := olds h.bel (hk 0 (by omega))
    rw [Nat.add_zero] at l0
    have l1 := hk 1 (by omega)
    have l2 := hk 2 (by omega)
    have hL1 := hL _ _ (hbg 1 (by omega))
    have hL2 := hL _ _ (hbg 2 (by omega))
    have q0 := q 0 (by omega)
    rw [g0] at q0
    rw [g1] at hL1
    rw [g2] at hL2
    clear hk q hbg
    generalize ks.getD 0 0 = x0 at *
    generalize ks.getD 1 0 = x1 at *
    generalize ks.getD 2 0 = x2 at *
    have hk0 : 0 < ks.length := by omega
    have hk1 : 1 < ks.length := by omega
    have hk2 : 2 < ks.length := by omega
    go_enter func61, ntmps61
    go_wp2_with fail
    go_quiet (fail)
    cases a0 with
    | true =>
      go_wp2_with (go_at_call 60; refine (q0 _).mono ?_; clear q0; rintro e w1 ⟨rfl, o1, d1, t1, m1⟩; have l1' := olds t1.bel l1; have q1 := hL1 w1 o1 d1 t1; clear hL1)
      go_wp2_with (go_at_call 60; refine q1.mono ?_; rintro e w2 ⟨rfl, o2, d2, t2, m2⟩)
      go_ret
      exact ⟨rfl, o2, d2, t2, m1.trans m2⟩
    | false =>
      go_wp2_with (go_at_call 60; refine (q0 _).mono ?_; clear q0; rintro e w1 ⟨rfl, o1, d1, t1, m1⟩; have l2' := olds t1.bel l2; have q1 := hL2 w1 o1 d1 t1; clear hL2)
      go_wp2_with (go_at_call 60; refine q1.mono ?_; rintro e w2 ⟨rfl, o2, d2, t2, m2⟩)
      go_ret
      exact ⟨rfl, o2, d2, t2, m1.trans m2⟩
  · have h2 : ∃ a0 a1, bs.getD 0 false = a0 ∧ bs.getD 1 false = a1 ∧ 2 ≤ bs.length ∧ b = (a0 == a1) := by
      unfold connV at hcv
      match bs, hcv with
      | [], hcv => cases hcv
      | [_], hcv => cases hcv
      | x :: y :: _, hcv => exact ⟨x, y, rfl, rfl, by simp, by simpa using hcv.symm⟩
    obtain ⟨a0, a1, g0, g1, hl2, rfl⟩ := h2
    obtain ⟨kb, ko, rfl, hk⟩ := hKM.two (by omega)
    have l0w := hk 0 (by omega)
    have l1w := hk 1 (by omega)
    rw [Nat.add_zero] at l0w
    have l0 := olds h.bel l0w
    have l1 := olds h.bel l1w
    have hL1 := hL _ _ (hbg 1 (by omega))
    have hL0 := hL _ _ (hbg 0 (by omega))
    rw [g0] at hL0
    rw [g1] at hL1
    clear hk q hbg
    generalize ks.getD 0 0 = x0 at *
    generalize ks.getD 1 0 = x1 at *
    have hk0 : 0 < ks.length := by omega
    have hk1 : 1 < ks.length := by omega
    have hk2 : (1 : Int) < (ks.length : Int) := by omega
    go_enter func61, ntmps61
    go_wp2_with fail
    go_quiet (fail)
    go_wp2_with fail
    have q0 := hL0 (W.drewN nq).drew oo dd ((h.drewN nq).drewN 1)
    go_region_held3 (fun w' => w'.cell? ⟨kb, ko, none⟩ = some (.int .i64 x0) ∧ w'.cell? ⟨kb, ko + 1, none⟩ = some (.int .i64 x1))
      (first | exact ⟨l0, l1⟩ | exact ⟨l0', l1'⟩ | exact ⟨l0'', l1''⟩)
      (first | (go_at_call 60; refine q0.mono ?_; clear q0; rintro e w1 ⟨rfl, o1, d1, t1, m1⟩; have l0' := olds t1.bel l0w; have l1' := olds t1.bel l1w; have q1 := hL1 w1 o1 d1 t1; clear hL1) | (go_at_call 60; refine q1.mono ?_; rintro e w2 ⟨rfl, o2, d2, t2, m2⟩; have l0'' := olds t2.bel l0w; have l1'' := olds t2.bel l1w))
    all_goals first | (go_ret; exact ⟨rfl, o2, d2, t2, m1.trans m2⟩) | (go_wp2_with fail; go_ret; exact ⟨rfl, o2, d2, t2, m1.trans m2⟩)
end Go.PE
