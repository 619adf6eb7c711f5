/-
  A part of the proof that the law's function returns true and leaves its arguments as they were, for every input (no condition): own lemmas of the proof, in the order of their use.
-/
import Derived.Test.YtggpmnlmbfogeaaGreatDoorX10
set_option linter.all false
namespace Go.PE
open Go.RowKit
section
variable {P : Program} {Φ : FuncId → List PV → Option (PV × List (List PV))} {keep : List Nat} {p : Stamp} {rs : Operand → PV × PV} {c : Prop} {u : Ups}
theorem yes_eq {a : Option Ups} (h : yes a = some (c, u)) : a = some u := by
 unfold yes at h
 split at h
 ·cases h; rfl
 ·cases h
theorem indexC_sound {d sz : Nat} {x : Operand} {vr : PV × PV} {i : Int} (h : indexC d sz x vr i = some (c, u)) (hc : c) : indexS d sz x vr i = some u := by
 unfold indexC at h
 unfold indexS
 split at h
 ·rename_i st sz' xs hv
  split at h
  ·split at h
   ·rename_i h1
    cases h
    simp only [hv]
    rw [if_pos ⟨h1.1, h1.2, hc⟩]
   ·cases h
  ·cases h
 ·rename_i r pl st off len hv
  split at h
  ·rename_i sz' xs hr
   split at h
   ·rename_i h1
    cases h
    simp only [hv, hr]
    rw [if_pos ⟨h1.1, h1.2, hc⟩]
   ·cases h
  ·cases h
 ·cases h
theorem bnd_some {hi d0 : Nat} {k : IntKind} {n : Int} (h0 : 0 ≤ n) (h1 : n ≤ hi) : bndS hi (some (.int k n)) d0 = some n.toNat := by
 simp only [bndS]
 rw [if_pos ⟨h0, h1⟩]
theorem bnd_none {hi d0 : Nat} : bndS hi none d0 = some d0 := rfl
theorem sliceC_sound {d : Nat} {n : Option Nat} {x : Operand} {vr : PV × PV} {lo hi : Option PV} (h : sliceC d n x vr lo hi = some (c, u)) (hc : c) : sliceS d n x vr lo hi = some u := by
 unfold sliceC at h
 split at h
 ·exact yes_eq h
 ·rename_i k l
  unfold sliceS
  split at h
  ·rename_i s hv
   split at h
   ·cases h
   ·rename_i hn
    cases h
    simp only [hv]
    rw [if_neg hn]
    simp only [bnd_none, bnd_some hc.1 hc.2]
    rw [List.take_of_length_le (by simp)]
  ·rename_i sz xs hv
   split at h
   ·cases h
   ·rename_i hn
    cases h
    simp only [hv]
    rw [if_neg hn]
    simp only [bnd_none, bnd_some hc.1 hc.2]
    rw [List.take_of_length_le (by simp)]
  ·rename_i st sz xs hv
   split at h
   ·split at h
    ·cases h
    ·rename_i hn
     cases h
     simp only [hv]
     rw [if_neg hn]
     simp only [bnd_none, bnd_some hc.1 hc.2]
   ·cases h
  ·rename_i r pl st off len hv
   split at h
   ·cases h
   ·rename_i sz xs hr
    split at h
    ·cases h
    ·rename_i hn
     cases h
     simp only [hv, hr]
     rw [if_neg hn]
     simp only [bnd_none, bnd_some hc.1 hc.2]
  ·cases h
 ·rename_i k hh
  unfold sliceS
  split at h
  ·rename_i s hv
   split at h
   ·cases h
   ·rename_i hn
    cases h
    simp only [hv]
    rw [if_neg hn]
    simp only [bnd_none, bnd_some hc.1 hc.2, List.drop_zero, Nat.sub_zero]
  ·rename_i sz xs hv
   split at h
   ·cases h
   ·rename_i hn
    cases h
    simp only [hv]
    rw [if_neg hn]
    simp only [bnd_none, bnd_some hc.1 hc.2, List.drop_zero, Nat.sub_zero]
  ·rename_i st sz xs hv
   split at h
   ·split at h
    ·cases h
    ·rename_i hn
     cases h
     simp only [hv]
     rw [if_neg hn]
     simp only [bnd_none, bnd_some hc.1 hc.2, Nat.sub_zero]
   ·cases h
  ·rename_i r pl st off len hv
   split at h
   ·cases h
   ·rename_i sz xs hr
    split at h
    ·cases h
    ·rename_i hn
     cases h
     simp only [hv, hr]
     rw [if_neg hn]
     simp only [bnd_none, bnd_some hc.1 hc.2, Nat.sub_zero, Nat.add_zero]
  ·cases h
 ·rename_i k1 l k2 hh
  unfold sliceS
  split at h
  ·rename_i s hv
   split at h
   ·cases h
   ·rename_i hn
    cases h
    simp only [hv]
    rw [if_neg hn]
    simp only [bnd_some (show 0 ≤ hh by omega) hc.2.2, bnd_some hc.1 (show l ≤ (hh.toNat : Int) by omega)]
  ·rename_i sz xs hv
   split at h
   ·cases h
   ·rename_i hn
    cases h
    simp only [hv]
    rw [if_neg hn]
    simp only [bnd_some (show 0 ≤ hh by omega) hc.2.2, bnd_some hc.1 (show l ≤ (hh.toNat : Int) by omega)]
  ·rename_i st sz xs hv
   split at h
   ·split at h
    ·cases h
    ·rename_i hn
     cases h
     simp only [hv]
     rw [if_neg hn]
     simp only [bnd_some (show 0 ≤ hh by omega) hc.2.2, bnd_some hc.1 (show l ≤ (hh.toNat : Int) by omega)]
   ·cases h
  ·rename_i r pl st off len hv
   split at h
   ·cases h
   ·rename_i sz xs hr
    split at h
    ·cases h
    ·rename_i hn
     cases h
     simp only [hv, hr]
     rw [if_neg hn]
     simp only [bnd_some (show 0 ≤ hh by omega) hc.2.2, bnd_some hc.1 (show l ≤ (hh.toNat : Int) by omega)]
  ·cases h
 ·cases h
theorem und_iface {t : Option TypeDesc} (h : ukOf t = .iface) : ∃ ms, t = some (.interface ms) := by
 cases t with
 | none => simp [ukOf] at h
 | some t => cases t <;> simp [ukOf] at h ⊢
theorem und_ptr {t : Option TypeDesc} (h : ukOf t = .ptr) : ∃ e, t = some (.pointer e) := by
 cases t with
 | none => simp [ukOf] at h
 | some t => cases t <;> simp [ukOf] at h ⊢
theorem und_bool {t : Option TypeDesc} (h : ukOf t = .bool) : t = some .bool := by
 cases t with
 | none => simp [ukOf] at h
 | some t => cases t <;> simp [ukOf] at h ⊢
theorem und_str {t : Option TypeDesc} (h : ukOf t = .str) : t = some .string := by
 cases t with
 | none => simp [ukOf] at h
 | some t => cases t <;> simp [ukOf] at h ⊢
theorem und_int {t : Option TypeDesc} {k : IntKind} (h : ukOf t = .int k) : t = some (.int k) := by
 cases t with
 | none => simp [ukOf] at h
 | some t => cases t <;> simp [ukOf] at h ⊢; exact h
theorem und_slice {t : Option TypeDesc} {e : TypeId} (h : ukOf t = .slice e) : t = some (.slice e) := by
 cases t with
 | none => simp [ukOf] at h
 | some t => cases t <;> simp [ukOf] at h ⊢; exact h
theorem beq_dec {α : Type} [BEq α] [LawfulBEq α] [DecidableEq α] (a b : α) : (a == b) = decide (a = b) := by
 by_cases h : a = b <;> simp [h]
theorem bne_dec {α : Type} [BEq α] [LawfulBEq α] [DecidableEq α] (a b : α) : (a != b) = decide (a ≠ b) := by
 by_cases h : a = b <;> simp [h, bne]
def binAll (P : Program) (op : BinOp) (t : TypeId) (d : Nat) (cs : Bool) (x y : PV) : Option Ups :=
 match binS P op t x y with
 | some v => some [(d, v)]
 | none => match ifcS P t cs x y, op with
  | some b, .eql => some [(d, .bool b)]
  | some b, .neq => some [(d, .bool (!b))]
  | _, _ => none
theorem binAll_some {op : BinOp} {t : TypeId} {d : Nat} {cs : Bool} {x y v : PV} (h : binS P op t x y = some v) : binAll P op t d cs x y = some [(d, v)] := by
 unfold binAll; rw [h]
theorem binAll_eql {t : TypeId} {d : Nat} {cs : Bool} {x y : PV} {b : Bool} (h : binS P .eql t x y = none) (h2 : ifcS P t cs x y = some b) : binAll P .eql t d cs x y = some [(d, .bool b)] := by
 unfold binAll; rw [h, h2]
theorem binAll_neq {t : TypeId} {d : Nat} {cs : Bool} {x y : PV} {b : Bool} (h : binS P .neq t x y = none) (h2 : ifcS P t cs x y = some b) : binAll P .neq t d cs x y = some [(d, .bool (!b))] := by
 unfold binAll; rw [h, h2]
theorem binC_sound {op : BinOp} {t : TypeId} {d : Nat} {cs : Bool} {x y : PV} (h : binC (tdOf P) op t d cs x y = some (c, u)) (hc : c) : binAll P op t d cs x y = some u := by
  unfold binC at h
  split at h
  · rename_i k a k' b
    cases op <;> simp only at h
    case shl =>
      split at h
      · cases h
        exact binAll_some (by simp only [binS, shiftI]; rw [if_neg (by omega)])
      · cases h
    case shr =>
      cases h
      exact binAll_some (by simp only [binS, shiftI]; rw [if_neg (by omega)])
    case quo =>
      split at h
      · rename_i hk
        cases h
        exact binAll_some (by simp only [binS, if_pos hk, arithI, if_neg hc])
      · cases h
    case rem =>
      split at h
      · rename_i hk
        cases h
        exact binAll_some (by simp only [binS, if_pos hk, arithI, if_neg hc])
      · cases h
    case add =>
      split at h
      · rename_i hk
        cases h
        exact binAll_some (by simp only [binS, if_pos hk, arithI])
      · cases h
    case sub =>
      split at h
      · rename_i hk
        cases h
        exact binAll_some (by simp only [binS, if_pos hk, arithI])
      · cases h
    case mul =>
      split at h
      · rename_i hk
        cases h
        exact binAll_some (by simp only [binS, if_pos hk, arithI])
      · cases h
    case eql =>
      split at h
      · rename_i hk
        cases h
        exact binAll_some (by simp only [binS, if_pos hk, arithI, cmpI, Option.map_some, beq_dec])
      · cases h
    case neq =>
      split at h
      · rename_i hk
        cases h
        exact binAll_some (by simp only [binS, if_pos hk, arithI, cmpI, Option.map_some, bne_dec])
      · cases h
    case lss =>
      split at h
      · rename_i hk
        cases h
        exact binAll_some (by simp only [binS, if_pos hk, arithI, cmpI, Option.map_some])
      · cases h
    case leq =>
      split at h
      · rename_i hk
        cases h
        exact binAll_some (by simp only [binS, if_pos hk, arithI, cmpI, Option.map_some])
      · cases h
    case gtr =>
      split at h
      · rename_i hk
        cases h
        exact binAll_some (by simp only [binS, if_pos hk, arithI, cmpI, Option.map_some])
      · cases h
    case geq =>
      split at h
      · rename_i hk
        cases h
        exact binAll_some (by simp only [binS, if_pos hk, arithI, cmpI, Option.map_some])
      · cases h
    all_goals
      split at h
      · rename_i hk
        split at h
        · rename_i n hn
          cases h
          exact binAll_some (by simp only [binS, if_pos hk, arithI, hn, Option.map_some])
        · cases h
      · cases h
  · rename_i a b
    cases op <;> simp only at h
    case add => cases h; exact binAll_some (by simp only [binS, strI, if_pos hc])
    case eql => cases h; exact binAll_some (by simp only [binS, strI, beq_dec])
    case neq => cases h; exact binAll_some (by simp only [binS, strI, beq_dec]; by_cases hab : a = b <;> simp [hab])
    case lss => cases h; exact binAll_some (by simp only [binS, strI])
    case leq => cases h; exact binAll_some (by simp only [binS, strI, beq_dec])
    case gtr => cases h; exact binAll_some (by simp only [binS, strI, beq_dec])
    case geq => cases h; exact binAll_some (by simp only [binS, strI])
    all_goals cases h
  · rename_i a b
    split at h
    · rename_i hu
      have hu := und_bool hu
      split at h
      · cases h
        exact binAll_some (by simp only [binS, eqS, hu, Option.map_some])
      · cases h
        exact binAll_some (by simp only [binS, eqS, hu, Option.map_some])
      · cases h
    · cases h
  · rename_i hx1 hx2 hx3
    have key : ∀ (b : Bool), nilC (tdOf P t).und cs x y = some b → ifcS P t cs x y = some b ∧ ∀ op, op = .eql ∨ op = .neq → binS P op t x y = none := by
      intro b hb
      unfold nilC at hb
      split at hb
      · rename_i hu
        obtain ⟨ms, hu⟩ := und_iface hu
        split at hb <;> first
          | (split at hb
             · rename_i hcs
               cases hb
               exact ⟨by simp [ifcS, hu, hcs], fun op ho => by rcases ho with rfl | rfl <;> rfl⟩
             · cases hb)
          | (cases hb; exact ⟨by simp [ifcS, hu], fun op ho => by rcases ho with rfl | rfl <;> rfl⟩)
          | cases hb
      · rename_i hu
        obtain ⟨ms, hu⟩ := und_ptr hu
        split at hb <;> first
          | (cases hb; exact ⟨by simp [ifcS, hu], fun op ho => by rcases ho with rfl | rfl <;> rfl⟩)
          | cases hb
      · cases hb
    split at h
    · cases h
      obtain ⟨h1, h2⟩ := key _ (by assumption)
      exact binAll_eql (h2 _ (.inl rfl)) h1
    · cases h
      obtain ⟨h1, h2⟩ := key _ (by assumption)
      exact binAll_neq (h2 _ (.inr rfl)) h1
    · cases h
theorem convC_sound {a b : TypeId} {d : Nat} {x : PV} (h : convC (tdOf P) a b d x = some (c, u)) (hc : c) : ∃ v w, PE.view (x, .dead) = some v ∧ PE.convS P a b v = some w ∧ u = [(d, w)] := by
 unfold convC at h
 split at h
 ·split at h
  ·rename_i k1 k h1 h2
   cases h
   have h1 := und_int h1
   have h2 := und_int h2
   exact ⟨_, _, rfl, by simp only [convS, h1, h2], rfl⟩
  ·cases h
 ·split at h
  ·rename_i h1 h2
   cases h
   have h1 := und_str h1
   have h2 := und_str h2
   exact ⟨_, _, rfl, by simp only [convS, h1, h2], rfl⟩
  ·rename_i e h1 h2
   have h1 := und_str h1
   have h2 := und_slice h2
   split at h
   ·rename_i h3
    have h3 := und_int h3
    cases h
    exact ⟨_, _, rfl, by simp only [convS, h1, h2, h3, if_pos hc], rfl⟩
   ·cases h
  ·cases h
 ·cases h
theorem fieldT_of {t : TypeId} {f : Nat} {x : Nat × Nat × Bool × TypeId} (h : (tdOf P t).flds[f]? = some (some x)) : fieldT P t f = some x := by
 simp only [tdOf, List.getElem?_map, Option.map_eq_some_iff] at h
 obtain ⟨a, h1, h2⟩ := h
 obtain ⟨h3, h4⟩ := List.getElem?_eq_some_iff.1 h1
 simp at h4
 subst h4
 exact h2
theorem hintT_const (t : TypeId) (x : Operand) (vr : PV × PV) : hintT (tdOf P) t x vr = hint P t x vr := rfl
theorem appendC_sound {d : Nat} {t : Nat × Nat} {x : Operand} {vx vy : PV × PV} (h : appendC p d t x vx vy = some (c, u)) (hc : c) : appendS p d t x vx vy = some u := by
 unfold appendC at h
 unfold appendS
 split at h
 ·cases h
 ·rename_i sz xs u0 h1
  split at h
  ·cases h
  ·rename_i sz' ys h2
   split at h
   ·rename_i h3
    split at h
    ·rename_i h4
     cases h
     simp only [h1, h2]
     rw [if_pos ⟨h3.1, h3.2.1, h3.2.2, hc.1, hc.2⟩, if_pos h4]
    ·cases h
   ·cases h
theorem lenC_sound {v : PV} {t : Option TypeDesc} (h : lenC v (ukOf t) = true) : lenOK v t = true := by
 unfold lenC at h
 split at h
 ·rename_i hu
  rw [und_str hu]
  exact h
 ·rename_i e hu
  rw [und_slice hu]
  exact h
 ·cases h
theorem appC_sound {t : Option TypeDesc} (h : appC (ukOf t) = true) : appT t = true := by
 unfold appC at h
 split at h
 ·rename_i hu
  rw [und_str hu]; rfl
 ·rename_i e hu
  rw [und_slice hu]; rfl
 ·cases h
theorem builtinC_sound {o : Oper} {cl : Call} (h : builtinC (tdOf P) p o cl rs = some (c, u)) (hc : c) : callOf P Φ p o cl rs = some u := by
 unfold builtinC at h
 obtain ⟨callee, args, argTypes⟩ := cl
 obtain ⟨args⟩ := args
 obtain ⟨argTypes⟩ := argTypes
 split at h
 ·rename_i heq
  simp only at heq
  subst heq
  split at h
  ·rename_i d x t hd ha ht
   simp only at ha ht
   subst ha ht
   rw [onVR_eq] at h
   split at h
   ·rename_i n hn
    split at h
    ·rename_i hl
     cases h
     have hl := lenC_sound hl
     simp only [hintT_const] at hn hl
     simp [callOf, hd, hn, hl]
    ·cases h
   ·cases h
  ·cases h
 ·rename_i heq
  simp only at heq
  subst heq
  split at h
  ·rename_i d x y t1 t2 hd ha ht
   simp only at ha ht
   subst ha ht
   rw [onVR_eq, onVR_eq] at h
   split at h
   ·rename_i t zs h1 h2
    split at h
    ·rename_i h3
     have h4 := appendC_sound h hc
     have h5 := appC_sound h3.2
     simp only [hintT_const] at h4
     have h1 : rowT P t1 = some t := h1
     have h2 : (elemT P t1).bind (zeroT P) = some zs := h2
     simp [callOf, hd, h1, h2, h3.1, h5, h4]
    ·cases h
   ·cases h
  ·cases h
 ·rename_i heq
  simp only at heq
  subst heq
  split at h
  ·rename_i d x y t1 t2 hd ha ht
   simp only at ha ht
   subst ha ht
   rw [onVR_eq, onVR_eq] at h
   split at h
   ·rename_i k a k' b h1 h2
    cases h
    simp only [hintT_const] at h1 h2
    simp [callOf, hd, h1, h2]
    split <;> omega
   ·cases h
  ·cases h
 ·rename_i heq
  simp only at heq
  subst heq
  split at h
  ·rename_i d x y t1 t2 hd ha ht
   simp only at ha ht
   subst ha ht
   rw [onVR_eq, onVR_eq] at h
   split at h
   ·rename_i k a k' b h1 h2
    cases h
    simp only [hintT_const] at h1 h2
    simp [callOf, hd, h1, h2]
    split <;> omega
   ·cases h
  ·cases h
 ·cases h
end
end Go.PE
namespace Go.PE
open Go.RowKit
section
variable {P : Program} {Φ : FuncId → List PV → Option (PV × List (List PV))} {keep : List Nat} {p : Stamp} {rs : Operand → PV × PV} {c : Prop} {u : Ups}
theorem view_fst {v : PV} {r : PV} {w : PV} (h : PE.view (v, .dead) = some w) (hn : ∀ a b d e f, v ≠ .snap a b d e f) : PE.view (v, r) = some w := by
 unfold PE.view at h ⊢
 cases v <;> first | exact h | exact absurd rfl (hn _ _ _ _ _)
theorem buildC_eq (t : TypeId) (parts : List (Nat × Operand)) (rs : Operand → PV × PV) (zs : List PV) : buildC (tdOf P) t parts rs zs = buildP P t parts rs zs := rfl
set_option maxHeartbeats 1600000 in
theorem semC_sound {o : Oper} (h : semC (tdOf P) keep p o rs = some (c, u)) (hc : c) : sem P Φ keep p o rs = some u := by
 obtain ⟨dst, op, ty, pos, after, guard⟩ := o
 unfold semC at h
 simp only at h
 split at h
 ·
  exact builtinC_sound h hc
 ·
  rename_i t x y
  rw [onVR_eq, onVR_eq] at h
  split at h
  ·rename_i n hn
   have hn : sizeT P t = some n := hn
   simp only [sem, hn]
   exact yes_eq h
  ·cases h
 ·rename_i x d
  rw [onVR_eq] at h
  split at h
  ·rename_i b hb
   have hm : moveS false keep p d x (hint P ty x (rs x)) = some [(d, .bool b)] := by
    unfold moveS
    have hb : (hint P ty x (rs x)).1 = .bool b := hb
    rw [hb]
    rfl
   simp only [sem, hm]
   split at h <;> (cases h; rfl)
  ·exact yes_eq h
 ·rename_i x d
  rw [onVR_eq] at h
  exact yes_eq h
 ·rename_i cc a b d
  split at h
  ·rename_i t ht
   simp only [sem, ht]
   split at h
   ·rename_i va vb h1 h2
    cases h
    simp only [h1, h2]
    cases t <;> rfl
   ·rename_i va h1 h2
    cases h
    subst hc
    simp only [h1]
    rfl
   ·rename_i vb h1 h2
    cases h
    subst hc
    simp only [h1]
    rfl
   ·cases h
  ·cases h
 ·rename_i t d
  split at h
  ·rename_i cs hz
   cases h
   have hz : zeroT P t = some cs := hz
   simp only [sem, hz]
  ·cases h
 ·rename_i t x d
  rw [onVR_eq] at h
  split at h
  ·rename_i n cs u0 hn hp
   have hn : sizeT P t = some n := hn
   split at h
   ·rename_i h1
    cases h
    rw [hintT_const] at hp
    simp only [sem, hn, hp]
    rw [if_pos h1]
   ·cases h
  ·cases h
 ·rename_i t parts d
  split at h
  ·cases h
  ·rename_i zs hz
   have hz : zeroT P t = some zs := hz
   split at h
   ·rename_i cs u0 hb
    rw [buildC_eq] at hb
    split at h
    ·rename_i h1
     cases h
     simp only [sem, hz, hb]
     rw [if_pos h1]
    ·cases h
   ·cases h
 ·rename_i t len parts d
  split at h
  ·rename_i n bb zs el h1 h2 h3
   have h1 : rowT P t = some (n, bb) := h1
   have h2 : (elemT P t).bind (zeroT P) = some zs := h2
   have h3 := und_slice (show ukOf (P.underlying t) = .slice el from h3)
   have he : elemT P t = some el := by simp [elemT, h3]
   split at h
   ·rename_i h4
    split at h
    ·rename_i xs u0 h5
     split at h
     ·rename_i h6
      rw [onLL_eq] at h
      cases h
      simp only [sem, h1, h2]
      rw [if_pos h4, he, Option.getD_some]
      have h5 : elemsS n (fun x => hint P el x (rs x)) parts.toList (List.replicate len (List.map frzC zs)) = some (xs, u0) := h5
      simp only [h5]
      rw [if_pos h6]
     ·cases h
    ·cases h
   ·cases h
  ·cases h
 ·rename_i t x d
  rw [onVR_eq] at h
  split at h
  ·rename_i n a h1 h2
   have h1 : sizeT P t = some n := h1
   have h2 : isAggT P t = some a := h2
   split at h
   ·rename_i h3
    simp only [sem, h1, h2]
    rw [if_pos h3]
    exact yes_eq h
   ·cases h
  ·cases h
 ·rename_i x d
  rw [onVR_eq] at h
  exact yes_eq h
 ·rename_i t x f d
  rw [onVR_eq] at h
  split at h
  ·rename_i off n a t' h1
   have h1 := fieldT_of h1
   split at h
   ·cases h
   ·rename_i h2
    simp only [sem, h1]
    rw [if_neg h2]
    exact yes_eq h
  ·cases h
 ·rename_i t x i d
  split at h
  ·rename_i k n hn
   simp only [sem, hn]
   split at h
   ·rename_i len s a ha
    have ha : arrT P t = some (len, s, a) := ha
    rw [onVR_eq] at h
    split at h
    ·rename_i u0 hu
     cases h
     simp only [ha]
     rw [if_pos hc]
     exact hu
    ·cases h
   ·rename_i ha
    have ha : arrT P t = none := ha
    split at h
    ·rename_i s bb hr
     have hr : rowT P t = some (s, bb) := hr
     rw [onVR_eq] at h
     simp only [ha, hr]
     exact indexC_sound h hc
    ·cases h
  ·cases h
 ·rename_i t x i d
  split at h
  ·rename_i k n hn
   split at h
   ·rename_i s hs hu
    have hu := und_str (show ukOf (P.underlying t) = .str from hu)
    cases h
    simp only [sem, hn, hs, hu]
    rw [if_pos hc.1]
    have hlt : n.toNat < s.length := by omega
    rw [List.getElem?_eq_getElem hlt]
    simp [List.getD, List.getElem?_eq_getElem hlt]
   ·cases h
  ·cases h
 ·rename_i t x lo hi d
  split at h
  ·rename_i hu
   have hu := und_str (show ukOf (P.underlying t) = .str from hu)
   rw [onVR_eq] at h
   simp only [sem, hu]
   exact sliceC_sound h hc
  ·rename_i e hu
   have hu := und_slice (show ukOf (P.underlying t) = .slice e from hu)
   split at h
   ·rename_i n bb hr
    have hr : rowT P t = some (n, bb) := hr
    rw [onVR_eq] at h
    simp only [sem, hu, hr]
    exact sliceC_sound h hc
   ·cases h
  ·cases h
 ·rename_i t x f d
  rw [onVR_eq] at h
  split at h
  ·rename_i off n a t' h1
   have h1 := fieldT_of h1
   split at h
   ·rename_i h2
    simp only [sem, h1]
    rw [if_pos h2]
    exact yes_eq h
   ·cases h
  ·cases h
 ·rename_i x i d
  rw [onVR_eq] at h
  exact yes_eq h
 ·rename_i op t x y t2 d
  rw [onV_eq, onV_eq] at h
  exact binC_sound h hc
 ·rename_i t x d
  rw [onV_eq] at h
  split at h
  ·cases h
  ·cases h
  ·rename_i k hu
   have hu := und_int (show ukOf (P.underlying t) = .int k from hu)
   split at h
   ·rename_i k n hx
    cases h
    simp only [sem, hu, hx]
   ·rename_i hx
    cases h
    simp only [sem, hu]
  ·rename_i h1 h2 h3
   cases h
   cases hu : P.underlying t with
   | none => exact absurd (show ukOf (P.underlying t) = .none by rw [hu]; rfl) h1
   | some dsc =>
    cases dsc <;> first
     | (simp only [sem, hu]; done)
     | exact absurd (show ukOf (P.underlying t) = .iface by rw [hu]; rfl) h2
     | exact absurd (show ukOf (P.underlying t) = .int _ by rw [hu]; rfl) (h3 _)
 ·rename_i op t x d
  rw [onV_eq] at h
  split at h
  ·rename_i k n hx
   cases h
   simp only [sem, unS, hx]
  ·rename_i b hx
   cases h
   simp only [sem, unS, hx]
  ·cases h
 ·rename_i s t x d
  rw [onV_eq] at h
  obtain ⟨v, w, h1, h2, rfl⟩ := convC_sound h hc
  have h3 : PE.view (rs x) = some v := by
   refine view_fst h1 fun a b d e f hx => ?_
   rw [hx] at h1
   simp [PE.view, rowIf, rowAt?] at h1
  simp only [sem, h3, h2]
 ·rename_i t l cc d
  split at h
  ·rename_i n bb zs k1 l1 k2 c1 h1 h2 h3 h4
   have h1 : rowT P t = some (n, bb) := h1
   have h2 : (elemT P t).bind (zeroT P) = some zs := h2
   split at h
   ·rename_i h5
    cases h
    simp only [sem, h1, h2, h3, h4]
    rw [if_pos ⟨hc.1, hc.2.1, hc.2.2.1, hc.2.2.2, h5.1, h5.2⟩]
   ·cases h
  ·cases h
 ·rename_i f first caps d
  split at h
  ·rename_i h1
   split at h
   ·rename_i cs u0 h2
    split at h
    ·rename_i h3
     cases h
     simp only [sem]
     rw [if_pos h1]
     simp only [h2]
     rw [if_pos h3]
    ·cases h
   ·cases h
  ·cases h
 ·cases h
variable {ops : Array Oper} {rid i : Nat} {o : Oper} {r : List Oper} {e : List (Nat × PV)} {acc : Option Lg} {K : List (Nat × PV) → Prop} {td : TypeId → TD}
theorem WX.stepD (htd : td = tdOf P) (hg : guardOf ops o (lookup e) = some true) (h : semC td keep (rid, i) o (res (lookup e)) = some (c, u)) (hc : c)
  (k : onUps u e fun e' => WX P Φ keep ops rid (i + 1) r e' (nxt acc (foot ops o (lookup e)) u) K) : WX P Φ keep ops rid i (o :: r) e acc K := by
 subst htd
 exact WX.raw hg (semC_sound h hc) k
theorem WX.step (htd : td = tdOf P) (hg : guardOf ops o (lookup e) = some true) (h : semC td keep (rid, i) o (res (lookup e)) = some (c, u)) (hc : c)
  (k : onUps u e fun e' => WX P Φ keep ops rid (i + 1) r e' none K) : WX P Φ keep ops rid i (o :: r) e none K := WX.stepD htd hg h hc k
theorem WX.boolD (htd : td = tdOf P) (hg : guardOf ops o (lookup e) = some true) {d : Nat} {t : Bool} (h : semC td keep (rid, i) o (res (lookup e)) = some (c, [(d, .bool t)])) (hc : c)
  (k1 : t = true → WX P Φ keep ops rid (i + 1) r ((d, .bool true) :: e) (nxt acc (foot ops o (lookup e)) [(d, .bool true)]) K)
  (k2 : t = false → WX P Φ keep ops rid (i + 1) r ((d, .bool false) :: e) (nxt acc (foot ops o (lookup e)) [(d, .bool false)]) K) : WX P Φ keep ops rid i (o :: r) e acc K := by
 refine WX.stepD htd hg h hc ?_
 rw [onUps_eq]
 cases t with
 | true => exact k1 rfl
 | false => exact k2 rfl
theorem WX.bool (htd : td = tdOf P) (hg : guardOf ops o (lookup e) = some true) {d : Nat} {t : Bool} (h : semC td keep (rid, i) o (res (lookup e)) = some (c, [(d, .bool t)])) (hc : c)
  (k1 : t = true → WX P Φ keep ops rid (i + 1) r ((d, .bool true) :: e) none K)
  (k2 : t = false → WX P Φ keep ops rid (i + 1) r ((d, .bool false) :: e) none K) : WX P Φ keep ops rid i (o :: r) e none K := WX.boolD htd hg h hc k1 k2
end
end Go.PE
namespace Go.PE
open Go.RowKit
section
variable {P : Program} {Φ : FuncId → List PV → Option (PV × List (List PV))} {keep : List Nat}
variable {ops : Array Oper} {rid i : Nat} {r : List Oper} {e : List (Nat × PV)} {acc : Option Lg} {K : List (Nat × PV) → Prop} {td : TypeId → TD}
variable {ty : TypeId} {pos : String} {after : Array Edge} {guard : Option (Nat × Bool)}
theorem WX.idxImmD (htd : td = tdOf P) {d : Nat} {t : TypeId} {x y : Operand} {k : IntKind} {n : Int} {sz bb : Nat} {xs : List (List PV)} {cell : List PV}
  (hg : guardOf ops { dst := some d, op := .indexAddr t x y, type := ty, pos := pos, after := after, guard := guard } (lookup e) = some true)
  (hi : (res (lookup e) y).1 = .int k n) (hx : (res (lookup e) x).1 = .imm sz xs) (ha : (td t).arr = none) (hr : (td t).row = some (sz, bb)) (hs : Nat.blt 0 sz = true) (h0 : 0 ≤ n) (hc : xs[n.toNat]? = some cell)
  (k : WX P Φ keep ops rid (i + 1) r ((d, .iptr cell 0) :: e) (nxt acc (foot ops { dst := some d, op := .indexAddr t x y, type := ty, pos := pos, after := after, guard := guard } (lookup e)) [(d, .iptr cell 0)]) K) :
  WX P Φ keep ops rid i ({ dst := some d, op := .indexAddr t x y, type := ty, pos := pos, after := after, guard := guard } :: r) e acc K := by
 subst htd
 have ha : arrT P t = none := ha
 have hr : rowT P t = some (sz, bb) := hr
 refine WX.raw hg (u := [(d, .iptr cell 0)]) ?_ (by rw [onUps_eq]; exact k)
 have hs' : 0 < sz := by have := hs; simp only [Nat.blt, Nat.ble_eq] at this; omega
 simp only [sem, hi, ha, hr, indexS, hx]
 rw [if_pos (by simp only [true_and]; exact ⟨hs', h0⟩), hc]
theorem WX.idxImm (htd : td = tdOf P) {d : Nat} {t : TypeId} {x y : Operand} {k : IntKind} {n : Int} {sz bb : Nat} {xs : List (List PV)} {cell : List PV}
  (hg : guardOf ops { dst := some d, op := .indexAddr t x y, type := ty, pos := pos, after := after, guard := guard } (lookup e) = some true)
  (hi : (res (lookup e) y).1 = .int k n) (hx : (res (lookup e) x).1 = .imm sz xs) (ha : (td t).arr = none) (hr : (td t).row = some (sz, bb)) (hs : Nat.blt 0 sz = true) (h0 : 0 ≤ n) (hc : xs[n.toNat]? = some cell)
  (k : WX P Φ keep ops rid (i + 1) r ((d, .iptr cell 0) :: e) none K) :
  WX P Φ keep ops rid i ({ dst := some d, op := .indexAddr t x y, type := ty, pos := pos, after := after, guard := guard } :: r) e none K := WX.idxImmD htd hg hi hx ha hr hs h0 hc k
def ldV (a : Bool) (n k : Nat) (cell : List PV) : Option PV :=
 if k + n ≤ cell.length then
  if a then (if ((cell.drop k).take n).all okC then some (.agg ((cell.drop k).take n)) else none)
  else match (cell.drop k).take n with
   | [c] => if okC c then some c else none
   | _ => none
 else none
theorem WX.ldElemD (htd : td = tdOf P) {d : Nat} {t : TypeId} {x : Operand} {rr j kk sz n : Nat} {pl : Option Nat} {st : Stamp} {xs : List (List PV)} {cell : List PV} {a : Bool} {v : PV}
  (hg : guardOf ops { dst := some d, op := .load t x, type := ty, pos := pos, after := after, guard := guard } (lookup e) = some true)
  (hx : (res (lookup e) x).1 = .eloc rr pl st j kk) (hr : rowIf (res (lookup e) x).2 pl st = some (sz, xs)) (hc : xs[j]? = some cell) (hn : (td t).size = some n) (ha : (td t).agg = some a)
  (han : (a || Nat.beq n 1) = true) (hv : ldV a n kk cell = some v)
  (k : onV v fun v => WX P Φ keep ops rid (i + 1) r ((d, v) :: e) (nxt acc (foot ops { dst := some d, op := .load t x, type := ty, pos := pos, after := after, guard := guard } (lookup e)) [(d, v)]) K) :
  WX P Φ keep ops rid i ({ dst := some d, op := .load t x, type := ty, pos := pos, after := after, guard := guard } :: r) e acc K := by
 subst htd
 have hn : sizeT P t = some n := hn
 have ha : isAggT P t = some a := ha
 rw [onV_eq] at k
 refine WX.raw hg (u := [(d, v)]) ?_ (by rw [onUps_eq]; exact k)
 have han' : a = true ∨ n = 1 := by simpa using han
 simp only [sem, hn, ha]
 rw [if_pos han']
 unfold loadS
 have hp : placeOf x (res (lookup e) x) = some (.elem rr pl (res (lookup e) x).2 st sz xs j kk) := by
  unfold placeOf
  rw [hx]
  simp only [hr]
 unfold ldV at hv
 split at hv
 ·rename_i hk
  have hcells : (Place.elem rr pl (res (lookup e) x).2 st sz xs j kk).cells n = some ((cell.drop kk).take n) := by
   simp only [Place.cells, hc]
   rw [if_pos hk]
  simp only [hp, hcells]
  split at hv
  ·rename_i hat
   subst hat
   split at hv
   ·rename_i hall
    cases hv
    simp only [if_true]
    rw [if_pos hall]
   ·cases hv
  ·rename_i hat
   rw [if_neg hat]
   split at hv
   ·rename_i c hcc
    split at hv
    ·rename_i hok
     cases hv
     rw [hcc]
     cases v <;> first | rfl | simp [okC] at hok
    ·cases hv
   ·cases hv
 ·cases hv
theorem WX.ldElem (htd : td = tdOf P) {d : Nat} {t : TypeId} {x : Operand} {rr j kk sz n : Nat} {pl : Option Nat} {st : Stamp} {xs : List (List PV)} {cell : List PV} {a : Bool} {v : PV}
  (hg : guardOf ops { dst := some d, op := .load t x, type := ty, pos := pos, after := after, guard := guard } (lookup e) = some true)
  (hx : (res (lookup e) x).1 = .eloc rr pl st j kk) (hr : rowIf (res (lookup e) x).2 pl st = some (sz, xs)) (hc : xs[j]? = some cell) (hn : (td t).size = some n) (ha : (td t).agg = some a)
  (han : (a || Nat.beq n 1) = true) (hv : ldV a n kk cell = some v)
  (k : onV v fun v => WX P Φ keep ops rid (i + 1) r ((d, v) :: e) none K) :
  WX P Φ keep ops rid i ({ dst := some d, op := .load t x, type := ty, pos := pos, after := after, guard := guard } :: r) e none K := WX.ldElemD htd hg hx hr hc hn ha han hv k
theorem WX.stElemD (htd : td = tdOf P) {t : TypeId} {x y : Operand} {rr j kk sz n : Nat} {pl : Option Nat} {st : Stamp} {xs : List (List PV)} {cell new : List PV}
  (hg : guardOf ops { dst := none, op := .store t x y, type := ty, pos := pos, after := after, guard := guard } (lookup e) = some true)
  (hx : (res (lookup e) x).1 = .eloc rr pl st j kk) (hr : rowIf (res (lookup e) x).2 pl st = some (sz, xs)) (hc : xs[j]? = some cell) (hn : (td t).size = some n)
  (hy : cellsFrozen y (hintT td t y (res (lookup e) y)) = some (new, [])) (hl : (Nat.beq new.length n && Nat.ble (kk + n) cell.length) = true)
  (k : onL (splice cell new kk) fun c' => onV (putAt (res (lookup e) x).2 pl (.own st sz (xs.set j c'))) fun v => WX P Φ keep ops rid (i + 1) r ((rr, v) :: e)
   (nxt acc (foot ops { dst := none, op := .store t x y, type := ty, pos := pos, after := after, guard := guard } (lookup e)) [(rr, v)]) K) :
  WX P Φ keep ops rid i ({ dst := none, op := .store t x y, type := ty, pos := pos, after := after, guard := guard } :: r) e acc K := by
 subst htd
 have hn : sizeT P t = some n := hn
 rw [onL_eq, onV_eq] at k
 refine WX.raw hg (u := [(rr, putAt (res (lookup e) x).2 pl (.own st sz (xs.set j (splice cell new kk))))]) ?_ (by rw [onUps_eq]; exact k)
 have hp : placeOf x (res (lookup e) x) = some (.elem rr pl (res (lookup e) x).2 st sz xs j kk) := by
  unfold placeOf
  rw [hx]
  simp only [hr]
 rw [Bool.and_eq_true, Nat.beq_eq, Nat.ble_eq] at hl
 have hy : cellsFrozen y (hint P t y (res (lookup e) y)) = some (new, []) := hy
 simp only [sem, hn, storeS, hp, hy, hc]
 rw [if_pos ⟨hl.1, hl.2, rfl⟩]
theorem WX.stElem (htd : td = tdOf P) {t : TypeId} {x y : Operand} {rr j kk sz n : Nat} {pl : Option Nat} {st : Stamp} {xs : List (List PV)} {cell new : List PV}
  (hg : guardOf ops { dst := none, op := .store t x y, type := ty, pos := pos, after := after, guard := guard } (lookup e) = some true)
  (hx : (res (lookup e) x).1 = .eloc rr pl st j kk) (hr : rowIf (res (lookup e) x).2 pl st = some (sz, xs)) (hc : xs[j]? = some cell) (hn : (td t).size = some n)
  (hy : cellsFrozen y (hintT td t y (res (lookup e) y)) = some (new, [])) (hl : (Nat.beq new.length n && Nat.ble (kk + n) cell.length) = true)
  (k : onL (splice cell new kk) fun c' => onV (putAt (res (lookup e) x).2 pl (.own st sz (xs.set j c'))) fun v => WX P Φ keep ops rid (i + 1) r ((rr, v) :: e) none K) :
  WX P Φ keep ops rid i ({ dst := none, op := .store t x y, type := ty, pos := pos, after := after, guard := guard } :: r) e none K := WX.stElemD htd hg hx hr hc hn hy hl k
def argsC (td : TypeId → TD) (c : Call) (rs : Operand → PV × PV) (caps : List PV) : Option (List PV × Ups × List (Nat × Stamp)) :=
 match argsS ((c.args.toList.zipIdx).map fun (x, i) => (x, hintT td (c.argTypes.getD i 0) x (rs x))) with
 | some (vs, us, bs) => onL1 (vs ++ caps) fun vs' => some (vs', us, bs)
 | none => none
theorem WX.callD (htd : td = tdOf P) {dst : Option Nat} {c : Call} {f : Operand} {g : FuncId} {caps avs : List PV} {us ub : Ups} {bs : List (Nat × Stamp)} {rv : PV} {outs : List (List PV)}
  (hg : guardOf ops { dst := dst, op := .call c, type := ty, pos := pos, after := after, guard := guard } (lookup e) = some true)
  (hcal : c.callee = .value f) (hf : (res (lookup e) f).1 = .func g caps) (hw : (wrB g || prB g) = false) (ha : argsC td c (res (lookup e)) caps = some (avs, us, bs))
  (hΦ : Φ g avs = some (rv, outs)) (hb : backS (rid, i) bs outs = some ub)
  (hn : nodupB (((if scalar rv && bs.isEmpty then [] else us) ++ ub ++ dstUps (rid, i) dst rv).map (·.1)) = true)
  (k : onUps ((if scalar rv && bs.isEmpty then [] else us) ++ ub ++ dstUps (rid, i) dst rv) e fun e' => WX P Φ keep ops rid (i + 1) r e'
   (nxt acc (foot ops { dst := dst, op := .call c, type := ty, pos := pos, after := after, guard := guard } (lookup e)) ((if scalar rv && bs.isEmpty then [] else us) ++ ub ++ dstUps (rid, i) dst rv)) K) :
  WX P Φ keep ops rid i ({ dst := dst, op := .call c, type := ty, pos := pos, after := after, guard := guard } :: r) e acc K := by
 subst htd
 refine WX.raw hg ?_ k
 unfold argsC at ha
 split at ha
 ·rename_i vs us' bs' h1
  rw [onL1_eq] at ha
  cases ha
  rw [Bool.or_eq_false_iff] at hw
  simp only [sem, callOf, hcal, hf, hw.1, hw.2, Bool.false_eq_true, if_false, callS]
  have h1 : argsS ((c.args.toList.zipIdx).map fun (x, i) => (x, hint P (c.argTypes.getD i 0) x (res (lookup e) x))) = some (vs, us, bs) := h1
  simp only [h1, hΦ, hb]
  rw [if_pos hn]
 ·cases ha
theorem WX.call (htd : td = tdOf P) {dst : Option Nat} {c : Call} {f : Operand} {g : FuncId} {caps avs : List PV} {us ub : Ups} {bs : List (Nat × Stamp)} {rv : PV} {outs : List (List PV)}
  (hg : guardOf ops { dst := dst, op := .call c, type := ty, pos := pos, after := after, guard := guard } (lookup e) = some true)
  (hcal : c.callee = .value f) (hf : (res (lookup e) f).1 = .func g caps) (hw : (wrB g || prB g) = false) (ha : argsC td c (res (lookup e)) caps = some (avs, us, bs))
  (hΦ : Φ g avs = some (rv, outs)) (hb : backS (rid, i) bs outs = some ub)
  (hn : nodupB (((if scalar rv && bs.isEmpty then [] else us) ++ ub ++ dstUps (rid, i) dst rv).map (·.1)) = true)
  (k : onUps ((if scalar rv && bs.isEmpty then [] else us) ++ ub ++ dstUps (rid, i) dst rv) e fun e' => WX P Φ keep ops rid (i + 1) r e'
   none K) :
  WX P Φ keep ops rid i ({ dst := dst, op := .call c, type := ty, pos := pos, after := after, guard := guard } :: r) e none K := WX.callD htd hg hcal hf hw ha hΦ hb hn k
theorem res_of {e : Env} {s : Nat} {v : PV} (h : opv e (.tmp s) = v) : res e (.tmp s) = (v, match rootOf v with | some r => e r | none => .dead) := by unfold res; rw [h]; rfl
theorem WX.callPD {d s : Nat} {at0 : Array TypeId} {f : Operand} {g : FuncId} {rr off len sz : Nat} {st st' : Stamp} {xs : List (List PV)} {m : Int}
  (hg : guardOf ops { dst := some d, op := .call { callee := .value f, args := #[.tmp s], argTypes := at0 }, type := ty, pos := pos, after := after, guard := guard } (lookup e) = some true)
  (hf : (res (lookup e) f).1 = .func g []) (hw : (!wrB g && prB g) = true) (hx : opv (lookup e) (.tmp s) = .snap rr none st off len) (hrow : lookup e rr = .own st' sz xs) (hst : st' = st) (hrd : Nat.beq rr d = false)
  (hfl : flat1 xs = true) (hc : 0 ≤ m ∧ m ≤ len ∧ off + len ≤ xs.length) (hΦ : Φ g [.own (0, 0) sz ((xs.drop off).take len)] = some (.int .i64 m, []))
  (k : WX P Φ keep ops rid (i + 1) r ((d, .snap rr none st off m.toNat) :: e) (nxt acc (foot ops { dst := some d, op := .call { callee := .value f, args := #[.tmp s], argTypes := at0 }, type := ty, pos := pos, after := after, guard := guard } (lookup e)) [(d, .snap rr none st off m.toNat)]) K) :
  WX P Φ keep ops rid i ({ dst := some d, op := .call { callee := .value f, args := #[.tmp s], argTypes := at0 }, type := ty, pos := pos, after := after, guard := guard } :: r) e acc K := by
 subst hst
 refine WX.raw hg (u := [(d, .snap rr none st' off m.toNat)]) ?_ (by rw [onUps_eq]; exact k)
 rw [Bool.and_eq_true, Bool.not_eq_true'] at hw
 have hrd : ¬ rr = d := by
  intro h
  subst h
  simp at hrd
 have hres : res (lookup e) (.tmp s) = (.snap rr none st' off len, lookup e rr) := res_of hx
 simp only [sem, callOf, hf, hw.1, hw.2, Bool.false_eq_true, if_false, if_true, callPS, List.zipIdx_cons, List.zipIdx_nil, List.map_cons, List.map_nil, hres, hint, hrow, hΦ]
 rw [if_pos ⟨trivial, hrd, hc.1, hc.2.1, hc.2.2, hfl⟩]
theorem WX.callP {d s : Nat} {at0 : Array TypeId} {f : Operand} {g : FuncId} {rr off len sz : Nat} {st st' : Stamp} {xs : List (List PV)} {m : Int}
  (hg : guardOf ops { dst := some d, op := .call { callee := .value f, args := #[.tmp s], argTypes := at0 }, type := ty, pos := pos, after := after, guard := guard } (lookup e) = some true)
  (hf : (res (lookup e) f).1 = .func g []) (hw : (!wrB g && prB g) = true) (hx : opv (lookup e) (.tmp s) = .snap rr none st off len) (hrow : lookup e rr = .own st' sz xs) (hst : st' = st) (hrd : Nat.beq rr d = false)
  (hfl : flat1 xs = true) (hc : 0 ≤ m ∧ m ≤ len ∧ off + len ≤ xs.length) (hΦ : Φ g [.own (0, 0) sz ((xs.drop off).take len)] = some (.int .i64 m, []))
  (k : WX P Φ keep ops rid (i + 1) r ((d, .snap rr none st off m.toNat) :: e) none K) :
  WX P Φ keep ops rid i ({ dst := some d, op := .call { callee := .value f, args := #[.tmp s], argTypes := at0 }, type := ty, pos := pos, after := after, guard := guard } :: r) e none K := WX.callPD hg hf hw hx hrow hst hrd hfl hc hΦ k
theorem WX.callO {d s : Nat} {at0 : Array TypeId} {f : Operand} {g : FuncId} {sz : Nat} {st : Stamp} {xs : List (List PV)} {m : Int}
  (hg : guardOf ops { dst := some d, op := .call { callee := .value f, args := #[.tmp s], argTypes := at0 }, type := ty, pos := pos, after := after, guard := guard } (lookup e) = some true)
  (hf : (res (lookup e) f).1 = .func g []) (hw : (!wrB g && prB g) = true) (hx : opv (lookup e) (.tmp s) = .own st sz xs) (hrd : Nat.beq s d = false)
  (hfl : flat1 xs = true) (hc : 0 ≤ m ∧ m ≤ xs.length) (hΦ : Φ g [.own (0, 0) sz xs] = some (.int .i64 m, []))
  (k : WX P Φ keep ops rid (i + 1) r ((d, .snap s none st 0 m.toNat) :: e) none K) :
  WX P Φ keep ops rid i ({ dst := some d, op := .call { callee := .value f, args := #[.tmp s], argTypes := at0 }, type := ty, pos := pos, after := after, guard := guard } :: r) e none K := by
 refine WX.rawN hg (u := [(d, .snap s none st 0 m.toNat)]) ?_ (by rw [onUps_eq]; exact k)
 rw [Bool.and_eq_true, Bool.not_eq_true'] at hw
 have hrd : ¬ s = d := by
  intro h
  subst h
  simp at hrd
 have hres : (res (lookup e) (.tmp s)).1 = .own st sz xs := hx
 simp only [sem, callOf, hf, hw.1, hw.2, Bool.false_eq_true, if_false, if_true, callPS, List.zipIdx_cons, List.zipIdx_nil, List.map_cons, List.map_nil, hres, hint, hΦ]
 rw [if_pos ⟨hrd, hc.1, hc.2, hfl⟩]
theorem WX.convSD (htd : td = tdOf P) {d : Nat} {s t el : TypeId} {x : Operand} {xs : List (List PV)} {b : List UInt8} {sz : Nat}
  (hg : guardOf ops { dst := some d, op := .convert s t x, type := ty, pos := pos, after := after, guard := guard } (lookup e) = some true)
  (hx : view (res (lookup e) x) = some (.imm sz xs)) (hs : (td s).und = .slice el) (he : (td el).und = .int .u8) (ht : (td t).und = .str) (hb : bytesOf? xs = some b)
  (k : WX P Φ keep ops rid (i + 1) r ((d, .str b) :: e) (nxt acc (foot ops { dst := some d, op := .convert s t x, type := ty, pos := pos, after := after, guard := guard } (lookup e)) [(d, .str b)]) K) :
  WX P Φ keep ops rid i ({ dst := some d, op := .convert s t x, type := ty, pos := pos, after := after, guard := guard } :: r) e acc K := by
 subst htd
 refine WX.raw hg (u := [(d, .str b)]) ?_ (by rw [onUps_eq]; exact k)
 have hs := und_slice (show ukOf (P.underlying s) = _ from hs)
 have he := und_int (show ukOf (P.underlying el) = _ from he)
 have ht := und_str (show ukOf (P.underlying t) = _ from ht)
 simp only [sem, hx, PE.convS, hs, ht, he, hb, Option.map_some]
theorem WX.convS (htd : td = tdOf P) {d : Nat} {s t el : TypeId} {x : Operand} {xs : List (List PV)} {b : List UInt8} {sz : Nat}
  (hg : guardOf ops { dst := some d, op := .convert s t x, type := ty, pos := pos, after := after, guard := guard } (lookup e) = some true)
  (hx : view (res (lookup e) x) = some (.imm sz xs)) (hs : (td s).und = .slice el) (he : (td el).und = .int .u8) (ht : (td t).und = .str) (hb : bytesOf? xs = some b)
  (k : WX P Φ keep ops rid (i + 1) r ((d, .str b) :: e) none K) :
  WX P Φ keep ops rid i ({ dst := some d, op := .convert s t x, type := ty, pos := pos, after := after, guard := guard } :: r) e none K := WX.convSD htd hg hx hs he ht hb k
theorem WX.neAggD {d : Nat} {t : TypeId} {x y : Operand} {t2 : TypeId} {cx cy : List PV} {b : Bool}
  (hg : guardOf ops { dst := some d, op := .binOp .neq t x y t2, type := ty, pos := pos, after := after, guard := guard } (lookup e) = some true)
  (hx : (res (lookup e) x).1 = .agg cx) (hy : (res (lookup e) y).1 = .agg cy) (he : eqS P t (.agg cx) (.agg cy) = some b)
  (k : WX P Φ keep ops rid (i + 1) r ((d, .bool (!b)) :: e) (nxt acc (foot ops { dst := some d, op := .binOp .neq t x y t2, type := ty, pos := pos, after := after, guard := guard } (lookup e)) [(d, .bool (!b))]) K) :
  WX P Φ keep ops rid i ({ dst := some d, op := .binOp .neq t x y t2, type := ty, pos := pos, after := after, guard := guard } :: r) e acc K := by
 refine WX.raw hg (u := [(d, .bool (!b))]) ?_ (by rw [onUps_eq]; exact k)
 simp only [sem, binS, hx, hy, he, Option.map_some]
theorem WX.boolMD {d s : Nat} {t : Bool} (hg : guardOf ops { dst := some d, op := .move (.tmp s), type := ty, pos := pos, after := after, guard := guard } (lookup e) = some true) (hx : opv (lookup e) (.tmp s) = .bool t)
  (k1 : t = true → WX P Φ keep ops rid (i + 1) r ((d, .bool true) :: e) (nxt acc (foot ops { dst := some d, op := .move (.tmp s), type := ty, pos := pos, after := after, guard := guard } (lookup e)) [(d, .bool true)]) K)
  (k2 : t = false → WX P Φ keep ops rid (i + 1) r ((d, .bool false) :: e) (nxt acc (foot ops { dst := some d, op := .move (.tmp s), type := ty, pos := pos, after := after, guard := guard } (lookup e)) [(d, .bool false)]) K) :
  WX P Φ keep ops rid i ({ dst := some d, op := .move (.tmp s), type := ty, pos := pos, after := after, guard := guard } :: r) e acc K := by
 refine WX.raw hg (u := [(d, .bool t)]) ?_ ?_
 ·have : res (lookup e) (.tmp s) = (.bool t, .dead) := res_of hx
  simp only [sem, this, hint]
  rfl
 ·rw [onUps_eq]
  cases t with
  | true => exact k1 rfl
  | false => exact k2 rfl
theorem WX.boolM {d s : Nat} {t : Bool} (hg : guardOf ops { dst := some d, op := .move (.tmp s), type := ty, pos := pos, after := after, guard := guard } (lookup e) = some true) (hx : opv (lookup e) (.tmp s) = .bool t)
  (k1 : t = true → WX P Φ keep ops rid (i + 1) r ((d, .bool true) :: e) none K) (k2 : t = false → WX P Φ keep ops rid (i + 1) r ((d, .bool false) :: e) none K) :
  WX P Φ keep ops rid i ({ dst := some d, op := .move (.tmp s), type := ty, pos := pos, after := after, guard := guard } :: r) e none K := WX.boolMD hg hx k1 k2
theorem WX.moveB {d s : Nat} {t : Bool} (hg : guardOf ops { dst := some d, op := .move (.tmp s), type := ty, pos := pos, after := after, guard := guard } (lookup e) = some true) (hx : opv (lookup e) (.tmp s) = .bool t)
  (k : WX P Φ keep ops rid (i + 1) r ((d, .bool t) :: e) none K) :
  WX P Φ keep ops rid i ({ dst := some d, op := .move (.tmp s), type := ty, pos := pos, after := after, guard := guard } :: r) e none K := by
 refine WX.boolM hg hx (fun h => ?_) (fun h => ?_) <;> (rw [h] at k; exact k)
theorem WX.callW (htd : td = tdOf P) {dst : Option Nat} {s : Nat} {ys : List Operand} {at0 : Array TypeId} {f : Operand} {g : FuncId} {rr off len sz : Nat} {st st' : Stamp} {xs new : List (List PV)} {vs : List PV} {rv : PV} {us : Ups} {args : Array Operand}
  (hg : guardOf ops { dst := dst, op := .call { callee := .value f, args := args, argTypes := at0 }, type := ty, pos := pos, after := after, guard := guard } (lookup e) = some true)
  (hargs : args.toList = .tmp s :: ys) (hf : (res (lookup e) f).1 = .func g []) (hw : wrB g = true) (hx : opv (lookup e) (.tmp s) = .snap rr none st off len) (hroot : lookup e rr = .own st' sz xs) (hst : st' = st)
  (hy : argsS ((ys.zipIdx 1).map fun (x, i) => (x, hintT td (at0.getD i 0) x (res (lookup e) x))) = some (vs, us, [])) (hro : rowOnly rr ((ys.zipIdx 1).map fun (x, i) => (x, hintT td (at0.getD i 0) x (res (lookup e) x))) = true)
  (hΦ : Φ g (.own (0, 0) sz ((xs.drop off).take len) :: vs) = some (rv, new)) (hsc : scalar rv = true) (hdr : (match dst with | some d => Nat.beq d rr | none => false) = false)
  (hfl : flat1 xs = true) (hc : off + len ≤ xs.length ∧ 0 < len ∧ new.length = len) (hnew : new.all (fun c => c.length == sz && c.all scalar1) = true)
  (k : onUps ((rr, .own st sz (xs.take off ++ new ++ xs.drop (off + len))) :: dstUps (rid, i) dst rv) e fun e' => WX P Φ keep ops rid (i + 1) r e' none K) :
  WX P Φ keep ops rid i ({ dst := dst, op := .call { callee := .value f, args := args, argTypes := at0 }, type := ty, pos := pos, after := after, guard := guard } :: r) e none K := by
 subst htd hst
 have hdr : dst ≠ some rr := by
  intro h
  subst h
  simp at hdr
 refine WX.rawN hg (u := (rr, .own st' sz (xs.take off ++ new ++ xs.drop (off + len))) :: dstUps (rid, i) dst rv) ?_ k
 have hres : res (lookup e) (.tmp s) = (.snap rr none st' off len, lookup e rr) := res_of hx
 have hy' : argsS ((ys.zipIdx 1).map fun (x, i) => (x, hint P (at0.getD i 0) x (res (lookup e) x))) = some (vs, us, []) := hy
 have hro' : rowOnly rr ((ys.zipIdx 1).map fun (x, i) => (x, hint P (at0.getD i 0) x (res (lookup e) x))) = true := hro
 have hh : ∀ t v, hint P t (.tmp s) v = v := fun _ _ => rfl
 simp only [sem, callOf, hf, hw, if_true, callWS, hargs, List.zipIdx_cons, List.map_cons, hres, hh, hroot, Nat.zero_add, hy', hΦ]
 rw [if_pos ⟨trivial, hsc, hc.1, hc.2.1, hc.2.2, hnew, hro', hdr, hfl⟩]
end
theorem lvl_enter {P : Program} {X : FuncId → List PV → Option (PV × List (List PV))} {td : TypeId → TD} (htd : td = tdOf P) {keep : FuncId → List Nat} {lv : FuncId → Nat → List Nat} {n k : Nat} {f : FuncId} {avs : List PV} {r : PV × List (List PV)} {fn : Func} {c : Code}
  (hX : X f avs = none) (hf : P.funcs[f]? = some fn) (hc : fn.body = some c) (hn : ¬ (fn.name = "runtime.NumGoroutine" ∨ (wrB f || prB f) = true)) (hok : codeOK fn.ntmps (boxPos avs) c = true) (hl : avs.length ≤ fn.ntmps) (hv : fn.ntmps ≤ VS) (hst : avs.all stamp0 = true)
  (h : W P (lvl P X keep lv n k) (keep f) (lv f) n 0 c (0, avs.zipIdx.map fun q => (q.2, q.1)) (endW (finishT td fn.results.toList (boxPos avs)) r)) : lvl P X keep lv n (k + 1) f avs = some r := by
 rw [lvl, hX]
 exact funcS_enter htd hf hc hn hok hl hv hst h
theorem lvl_X {P : Program} {X : FuncId → List PV → Option (PV × List (List PV))} {keep : FuncId → List Nat} {lv : FuncId → Nat → List Nat} {n k : Nat} {f : FuncId} {avs : List PV} {r : PV × List (List PV)}
  (hX : X f avs = some r) : lvl P X keep lv n k f avs = some r := by
 cases k with
 | zero => exact hX
 | succ k => rw [lvl, hX]
end Go.PE
