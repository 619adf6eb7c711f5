/-
  A part of the proof that the law's function returns true and leaves its arguments as they were, for every input (no condition): own lemmas of the proof, in the order of their use.
-/
import Derived.Test.YtkfppicmdgbfjaaGreatDoorU12
import Derived.Laws.StandIn
import Derived.Lib.Bytealg
set_option linter.all false
namespace Go.PE
open Go.RowKit
/-! ### What lives at a loop's head (a means to find the lists: nothing rests on it) -/
def uni (a b : List Nat) : List Nat := a ++ b.filter fun x => !a.contains x
def tmpsOf (o : Op) : List Nat := o.operands.toList.filterMap fun | .tmp t => some t | _ => none
def liveOps (ops : Array Oper) : List Oper → List Nat → List Nat
  | [], out => out
  | o :: l, out =>
    let out := liveOps ops l out
    let out := match o.dst with
      | some d => out.filter fun x => x ≠ d
      | none => out
    uni (uni out (tmpsOf o.op)) (match o.guard with | some (j, _) => ((ops[j]?).bind (·.dst)).toList | none => [])
/-- live before the code, and the lists of the loops. -/
def liveIn (rets : List Nat) : Nat → Code → List (Nat × List Nat) → List Nat → List Nat × List (Nat × List Nat)
  | _, .skip, _, out => (out, [])
  | _, .region _ ops _, _, out => (liveOps ops ops.toList out, [])
  | b, .seq x y, ex, out =>
    let (o1, t1) := liveIn rets b y ex out
    let (o2, t2) := liveIn rets b x ex o1
    (o2, t1 ++ t2)
  | b, .cond c x y, ex, out =>
    let (o1, t1) := liveIn rets b x ex out
    let (o2, t2) := liveIn rets b y ex out
    (uni (uni o1 o2) (match c with | .tmp t => [t] | _ => []), t1 ++ t2)
  | _, .block id c, ex, out => liveIn rets id c ((id, out) :: ex) out
  | b, .loop c, ex, _ =>
    let x1 := (liveIn rets b c ex []).1
    let x2 := (liveIn rets b c ex x1).1
    let x3 := (liveIn rets b c ex x2).1
    let (x4, t) := liveIn rets b c ex x3
    (x4, (b, x4) :: t)
  | b, .rangeFunc g ps x y, ex, out =>
    let x1 := (liveIn rets b y ex []).1
    let x2 := ((liveIn rets b x ex x1).1.filter fun t => !ps.contains t)
    let l := uni (uni x2 out) (match g with | .tmp t => [t] | _ => [])
    (l, [(b, l)])
  | _, .exit id, ex, _ => (((ex.find? fun q => q.1 == id).map (·.2)).getD [], [])
  | _, .ret, _, _ => (rets, [])
  | _, _, _, out => (out, [])
def opsOf : Code → List Oper
  | .region _ ops _ => ops.toList
  | .seq x y | .cond _ x y => opsOf x ++ opsOf y
  | .block _ c | .loop c => opsOf c
  | .rangeFunc _ _ x y => opsOf x ++ opsOf y
  | _ => []
/-- Slots that a slot may speak of. -/
def srcs (P : Program) (c : Code) : List (Nat × Nat) :=
  (opsOf c).flatMap fun o => match o.dst with
    | some d =>
      let mem := match P.underlying o.type with | some (.slice _) | some (.pointer _) | none => true | _ => false
      let mem := mem || (match o.op with | .fieldAddr .. | .indexAddr .. | .nilCheck _ => true | _ => false)
      if mem then match o.op with
        | .move x | .assign x | .fieldAddr _ x _ | .indexAddr _ x _ | .slice _ x _ _ _ | .load _ x | .nilCheck x => (match x with | .tmp t => [(d, t)] | _ => [])
        | _ => []
      else []
    | none => match o.op with
      | .store t (.tmp x) (.tmp y) => (match P.underlying t with | some (.pointer _) => [(x, y)] | _ => [])
      | _ => []
def closeS (rel : List (Nat × Nat)) : Nat → List Nat → List Nat
  | 0, l => l
  | n + 1, l => closeS rel n (uni l (l.flatMap fun s => (rel.filter fun q => q.1 == s).map (·.2)))
def resTmps (l : List ResultVar) : List Nat := l.map fun | .tmp t => t | .cell t _ => t
def liveTab (P : Program) (fn : Func) : List (Nat × List Nat) :=
  match fn.body with
  | some c => ((liveIn (resTmps fn.results.toList) 0 c [] []).2.map fun q => (q.1, closeS (srcs P c) 6 q.2))
  | none => []
def look (l : List (Nat × List Nat)) (b : Nat) : List Nat := ((l.find? fun q => q.1 == b).map (·.2)).getD []
section
variable {P : Program} {Φ X : FuncId → List PV → Option (PV × List (List PV))}
theorem Meets.orElse {f : FuncId} {F G : List PV → Option (PV × List (List PV))} (hF : Meets P f F) (hG : Meets P f G) : Meets P f (fun avs => match F avs with | some r => some r | none => G avs) := by
  refine ⟨fun hw hw2 w Fz args avs bs r outs h0 h1 h2 h3 h4 h5 => ?_, fun hw w bs A n cap sz xs off len A' cap' args avs r new h1 h2 h3 h4 h5 h6 h7 h8 h9 h10 => ?_, fun hw hw2 w bs A n cap sz xs off len A' cap' m h1 h2 h3 h4 h5 h6 h7 h8 => ?_, hF.2.2.2⟩
  · simp only at h5
    split at h5
    · rename_i q hq
      cases h5
      exact hF.1 hw hw2 w Fz args avs bs r outs h0 h1 h2 h3 h4 hq
    · exact hG.1 hw hw2 w Fz args avs bs r outs h0 h1 h2 h3 h4 h5
  · simp only at h10
    split at h10
    · rename_i q hq
      cases h10
      exact hF.2.1 hw w bs A n cap sz xs off len A' cap' args avs r new h1 h2 h3 h4 h5 h6 h7 h8 h9 hq
    · exact hG.2.1 hw w bs A n cap sz xs off len A' cap' args avs r new h1 h2 h3 h4 h5 h6 h7 h8 h9 h10
  · simp only at h8
    split at h8
    · rename_i q hq
      cases h8
      exact hF.2.2.1 hw hw2 w bs A n cap sz xs off len A' cap' m h1 h2 h3 h4 h5 h6 h7 hq
    · exact hG.2.2.1 hw hw2 w bs A n cap sz xs off len A' cap' m h1 h2 h3 h4 h5 h6 h7 h8
/-- The contracts, and below them the functions' own texts, to a depth. -/
def lvl (P : Program) (X : FuncId → List PV → Option (PV × List (List PV))) (keep : FuncId → List Nat) (lv : FuncId → Nat → List Nat) (n : Nat) : Nat → FuncId → List PV → Option (PV × List (List PV))
  | 0, f, avs => X f avs
  | k + 1, f, avs => match X f avs with
    | some r => some r
    | none => funcS P (lvl P X keep lv n k) keep lv n f avs
theorem lvl_meets (hm : P.follows .mixedOrders = true) (hX : ∀ f, Meets P f (X f)) (keep : FuncId → List Nat) (lv : FuncId → Nat → List Nat) (n : Nat) : ∀ k f, Meets P f (lvl P X keep lv n k f)
  | 0, f => hX f
  | k + 1, f => Meets.orElse (hX f) (funcS_meets hm (lvl_meets hm hX keep lv n k) (fun g => (hX g).2.2.2) keep lv n f)
end
end Go.PE
namespace Go.PE
open Go.RowKit
section
variable {P : Program}
/-- A function that the model answers itself, of plain arguments. -/
theorem extern_meets {f : FuncId} (hwr : (wrB f || prB f || (bkG f).isSome) = false) {fn : Func} {e : Array Value → Sem Value} (hf : P.funcs[f]? = some fn) (hname : (fn.name == "runtime.NumGoroutine") = false)
    (hb : fn.body.isNone = true) (hn : Extern.findNext fn = none) (he : Extern.find fn = some e) {F : List PV → Option (PV × List (List PV))}
    (h : ∀ (w : World) (Fz : Nat → Prop) (args : Array Value) (avs : List PV) (bs : List Nat) (r : PV) (outs : List (List PV)), Reps w Fz args.toList avs bs → F avs = some (r, outs) →
      outs = [] ∧ boxVals args.toList avs = [] ∧ isRef r = false ∧ ∃ u, (e args).run P w = .ok u w ∧ Rep w Fz u r []) : Meets P f F := by
  rw [Bool.or_eq_false_iff, Bool.or_eq_false_iff] at hwr
  refine ⟨fun _ _ => ?_, fun h => (by rw [hwr.1.1] at h; cases h), fun _ h => (by rw [hwr.1.2] at h; cases h), fun g' h => (by rw [h] at hwr; cases hwr.2)⟩
  intro w Fz args avs bs r outs _ hfz hnd hbs hreps hF o a next Q hnext
  obtain ⟨rfl, hbx, hr, u, hrun, hrep⟩ := h w Fz args avs bs r outs hreps hF
  rw [run_callFunc_standIn hf hname hb hn he args w, hrun, Result.andThen_ok, Oper.upon_value]
  refine hnext u w ⟨rfl, rfl, rfl, Nat.le_refl _, fun _ _ _ => rfl, hr, Fz, [], [], fun _ h => h, fun _ h => .inl h, by simp, by simp, hrep, ?_⟩
  rw [hbx]
  exact .nil
def indexByteF (avs : List PV) : Option (PV × List (List PV)) :=
  match avs with
  | [.str s, .int .u8 c] => some (.int .i64 (Lib.indexByte s c.toNat.toUInt8), [])
  | _ => none
theorem indexByte_meets {f : FuncId} (hwr : (wrB f || prB f || (bkG f).isSome) = false) {fn : Func} (hf : P.funcs[f]? = some fn) (hname : (fn.name == "runtime.NumGoroutine") = false)
    (hb : fn.body.isNone = true) (hn : Extern.findNext fn = none) (he : Extern.find fn = some Extern.BytealgIndexByte.indexByte) : Meets P f indexByteF := by
  refine extern_meets hwr hf hname hb hn he fun w Fz args avs bs r outs hreps hF => ?_
  unfold indexByteF at hF
  split at hF
  · rename_i s c
    simp only [Option.some.injEq, Prod.mk.injEq] at hF
    obtain ⟨rfl, rfl⟩ := hF
    obtain ⟨l, hl⟩ : ∃ l, args.toList = l := ⟨_, rfl⟩
    rw [hl] at hreps ⊢
    cases hreps with
    | cons h1 h2 =>
      cases h2 with
      | cons h3 h4 =>
        cases h4
        have i1 := h1.imm rfl
        have i3 := h3.imm rfl
        generalize hs : PV.str s = ps at i1
        cases i1 with
        | str s' =>
          cases hs
          cases i3
          refine ⟨rfl, rfl, rfl, _, ?_, .plain (.int .i64 _)⟩
          have ha : args = #[.string s', .int .u8 c] := by rw [← Array.toArray_toList (xs := args), hl]
          rw [ha, run_indexByte_string, Lib.firstIdx_eq]
        | _ => cases hs
  · cases hF
end
end Go.PE
namespace Go.PE
open Go.RowKit
/-! ### Types, told once -/
inductive UK where
  | none | bool | int (k : IntKind) | str | slice (e : TypeId) | ptr | iface | other
def ukOf : Option TypeDesc → UK
  | some .bool => .bool
  | some (.int k) => .int k
  | some .string => .str
  | some (.slice e) => .slice e
  | some (.pointer _) => .ptr
  | some (.interface _) => .iface
  | some _ => .other
  | .none => .none
structure TD where
  size : Option Nat
  agg : Option Bool
  row : Option (Nat × Nat)
  ez : Option (List PV)
  zero : Option (List PV)
  flds : List (Option (Nat × Nat × Bool × TypeId))
  arr : Option (Nat × Nat × Bool)
  plc : Option (List (Nat × Nat × TypeId))
  und : UK
  mp : Option (Bool × List PV) := none
  me : Option TypeId := none
def nfields (P : Program) (t : TypeId) : Nat := match P.underlying t with
  | some (.struct fs) => fs.size
  | _ => 0
def tdOf (P : Program) (t : TypeId) : TD :=
  ⟨sizeT P t, isAggT P t, rowT P t, (elemT P t).bind (zeroT P), zeroT P t, (List.range (nfields P t)).map (fieldT P t), arrT P t, placesT P t, ukOf (P.underlying t), mapT P t, elemM P t⟩
/-! ### Values, evaluated -/
section
variable {R : Sort _}
def onV0 (v : PV) (k : PV → R) : R :=
  match v with
  | .int a b => k (.int a b)
  | .bool a => k (.bool a)
  | .str a => k (.str a)
  | .imm a b => k (.imm a b)
  | .nils a => k (.nils a)
  | .iptr a b => k (.iptr a b)
  | .nilp => k .nilp
  | .func a b => k (.func a b)
  | .nilf => k .nilf
  | .nili => k .nili
  | .ifi a b c => k (.ifi a b c)
  | .erri => k .erri
  | .own a b c => k (.own a b c)
  | .agg a => k (.agg a)
  | .tup a => k (.tup a)
  | .box a b => k (.box a b)
  | .loc a b c => k (.loc a b c)
  | .eloc a b c d e => k (.eloc a b c d e)
  | .snap a b c d e => k (.snap a b c d e)
  | .dead => k .dead
  | .self t => k (.self t)
  | .bnil t => k (.bnil t)
  | .back a b c d e f => k (.back a b c d e f)
  | .pvar a b => k (.pvar a b)
  | .omap a b c => k (.omap a b c)
  | .mref a b c => k (.mref a b c)
  | .oagg a => k (.oagg a)
  | .imap a b => k (.imap a b)
theorem onV0_eq (v : PV) (k : PV → R) : onV0 v k = k v := by cases v <;> rfl
def onL : List PV → (List PV → R) → R
  | [], k => k []
  | v :: l, k => onV0 v fun v' => onL l fun l' => k (v' :: l')
theorem onL_eq : ∀ (l : List PV) (k : List PV → R), onL l k = k l
  | [], k => rfl
  | v :: l, k => by rw [onL, onV0_eq, onL_eq l]
def onLL : List (List PV) → (List (List PV) → R) → R
  | [], k => k []
  | x :: l, k => onL x fun x' => onLL l fun l' => k (x' :: l')
theorem onLL_eq : ∀ (l : List (List PV)) (k : List (List PV) → R), onLL l k = k l
  | [], k => rfl
  | x :: l, k => by rw [onLL, onL_eq, onLL_eq l]
def onV1 (v : PV) (k : PV → R) : R :=
  match v with
  | .agg a => onL a fun a' => k (.agg a')
  | .oagg a => onL a fun a' => k (.oagg a')
  | .box a b => onL b fun b' => k (.box a b')
  | .omap a b c => onLL c fun c' => k (.omap a b c')
  | v => onV0 v k
theorem onV1_eq (v : PV) (k : PV → R) : onV1 v k = k v := by
  cases v <;> first | rfl | exact onL_eq _ _ | exact onLL_eq _ _
def onL1 : List PV → (List PV → R) → R
  | [], k => k []
  | v :: l, k => onV1 v fun v' => onL1 l fun l' => k (v' :: l')
theorem onL1_eq : ∀ (l : List PV) (k : List PV → R), onL1 l k = k l
  | [], k => rfl
  | v :: l, k => by rw [onL1, onV1_eq, onL1_eq l]
def onV (v : PV) (k : PV → R) : R :=
  match v with
  | .tup a => onL1 a fun a' => k (.tup a')
  | v => onV1 v k
theorem onV_eq (v : PV) (k : PV → R) : onV v k = k v := by
  cases v <;> first | rfl | exact onL1_eq _ _ | exact onL_eq _ _ | exact onLL_eq _ _
def onVR (v : PV × PV) (k : PV × PV → R) : R := onV v.1 fun a => onV v.2 fun b => k (a, b)
theorem onVR_eq (v : PV × PV) (k : PV × PV → R) : onVR v k = k v := by unfold onVR; rw [onV_eq, onV_eq]
def onUps : Ups → List (Nat × PV) → (List (Nat × PV) → R) → R
  | [], e, k => k e
  | (d, v) :: u, e, k => onV v fun v' => onUps u ((d, v') :: e) k
theorem onUps_eq : ∀ (u : Ups) (e : List (Nat × PV)) (k : List (Nat × PV) → R), onUps u e k = k (applyL u e)
  | [], e, k => rfl
  | (d, v) :: u, e, k => by rw [onUps, onV_eq, onUps_eq u]; rfl
end
section
variable (td : TypeId → TD)
def hintT (t : TypeId) (x : Operand) (vr : PV × PV) : PV × PV :=
  match x with
  | .const (.slice none 0 0) => match (td t).row with
    | some (n, _) => (.nils n, .dead)
    | none => vr
  | _ => vr
abbrev CU := Option (Prop × Ups)
def yes (u : Option Ups) : CU := match u with
  | some u => some (True, u)
  | none => none
/-- The address of an element of a row that the call holds. -/
def indexC (d sz : Nat) (x : Operand) (vr : PV × PV) (i : Int) : CU :=
  match vr.1 with
  | .own st sz' xs => match x with
    | .tmp t => if t ≠ d ∧ sz' = sz then some (0 ≤ i ∧ i < xs.length, [(d, .eloc t none st i.toNat 0)]) else none
    | _ => none
  | .snap r pl st off len => match rowIf vr.2 pl st with
    | some (sz', _) => if r ≠ d ∧ sz' = sz then some (0 ≤ i ∧ i < len, [(d, .eloc r pl st (off + i.toNat) 0)]) else none
    | none => none
  | _ => none
/-- A slice expression: the bounds as they are told. -/
def sliceC (d : Nat) (n : Option Nat) (x : Operand) (vr : PV × PV) (lo hi : Option PV) : CU :=
  match lo, hi with
  | none, none => yes (sliceS d n x vr none none)
  | some (.int _ l), none => match vr.1 with
    | .str s => if n.isSome then none else some (0 ≤ l ∧ l ≤ s.length, [(d, .str (s.drop l.toNat))])
    | .imm sz xs => if n ≠ some sz then none else some (0 ≤ l ∧ l ≤ xs.length, [(d, .imm sz (xs.drop l.toNat))])
    | .own st sz xs => match x with
      | .tmp t => if n ≠ some sz then none else some (0 ≤ l ∧ l ≤ xs.length, [(d, .snap t none st l.toNat (xs.length - l.toNat))])
      | _ => none
    | .snap r pl st off len => match rowIf vr.2 pl st with
      | none => none
      | some (sz, _) => if n ≠ some sz then none else some (0 ≤ l ∧ l ≤ len, [(d, .snap r pl st (off + l.toNat) (len - l.toNat))])
    | _ => none
  | none, some (.int _ h) => match vr.1 with
    | .str s => if n.isSome then none else some (0 ≤ h ∧ h ≤ s.length, [(d, .str (s.take h.toNat))])
    | .imm sz xs => if n ≠ some sz then none else some (0 ≤ h ∧ h ≤ xs.length, [(d, .imm sz (xs.take h.toNat))])
    | .own st sz xs => match x with
      | .tmp t => if n ≠ some sz then none else some (0 ≤ h ∧ h ≤ xs.length, [(d, .snap t none st 0 h.toNat)])
      | _ => none
    | .snap r pl st off len => match rowIf vr.2 pl st with
      | none => none
      | some (sz, _) => if n ≠ some sz then none else some (0 ≤ h ∧ h ≤ len, [(d, .snap r pl st off h.toNat)])
    | _ => none
  | some (.int _ l), some (.int _ h) => match vr.1 with
    | .str s => if n.isSome then none else some (0 ≤ l ∧ l ≤ h ∧ h ≤ s.length, [(d, .str ((s.drop l.toNat).take (h.toNat - l.toNat)))])
    | .imm sz xs => if n ≠ some sz then none else some (0 ≤ l ∧ l ≤ h ∧ h ≤ xs.length, [(d, .imm sz ((xs.drop l.toNat).take (h.toNat - l.toNat)))])
    | .own st sz xs => match x with
      | .tmp t => if n ≠ some sz then none else some (0 ≤ l ∧ l ≤ h ∧ h ≤ xs.length, [(d, .snap t none st l.toNat (h.toNat - l.toNat))])
      | _ => none
    | .snap r pl st off len => match rowIf vr.2 pl st with
      | none => none
      | some (sz, _) => if n ≠ some sz then none else some (0 ≤ l ∧ l ≤ h ∧ h ≤ len, [(d, .snap r pl st (off + l.toNat) (h.toNat - l.toNat))])
    | _ => none
  | _, _ => none
def nilC (und : UK) (cs : Bool) (x y : PV) : Option Bool :=
  match und with
  | .iface => (match x, y with
    | .nili, .nili => if cs then some true else none
    | .ifi .., .nili | .nili, .ifi .. | .erri, .nili | .nili, .erri => some false
    | _, _ => none)
  | .ptr => (match x, y with
    | .nilp, .nilp => some true
    | .iptr .., .nilp | .nilp, .iptr .. => some false
    | _, _ => none)
  | _ => none
def binC (op : BinOp) (t : TypeId) (d : Nat) (cs : Bool) (x y : PV) : CU :=
  match x, y with
  | .int k a, .int k' b => match op with
    | .shl => if k.bits < 200 then some (0 ≤ b, [(d, .int k (k.wrap (a * 2 ^ (min b.toNat k.bits))))]) else none
    | .shr => some (0 ≤ b, [(d, .int k (a.fdiv (2 ^ (min b.toNat k.bits))))])
    | .quo => if k = k' then some (b ≠ 0, [(d, .int k (k.wrap (a.tdiv b)))]) else none
    | .rem => if k = k' then some (b ≠ 0, [(d, .int k (a.tmod b))]) else none
    | .add => if k = k' then some (True, [(d, .int k (k.wrap (a + b)))]) else none
    | .sub => if k = k' then some (True, [(d, .int k (k.wrap (a - b)))]) else none
    | .mul => if k = k' then some (True, [(d, .int k (k.wrap (a * b)))]) else none
    | .eql => if k = k' then some (True, [(d, .bool (decide (a = b)))]) else none
    | .neq => if k = k' then some (True, [(d, .bool (decide (a ≠ b)))]) else none
    | .lss => if k = k' then some (True, [(d, .bool (decide (a < b)))]) else none
    | .leq => if k = k' then some (True, [(d, .bool (decide (a ≤ b)))]) else none
    | .gtr => if k = k' then some (True, [(d, .bool (decide (b < a)))]) else none
    | .geq => if k = k' then some (True, [(d, .bool (decide (b ≤ a)))]) else none
    | _ => if k = k' then (match bitsI op k a b with | some n => some (True, [(d, .int k n)]) | none => none) else none
  | .str a, .str b => match op with
    | .add => some (a.length + b.length ≤ 9223372036854775807, [(d, .str (a ++ b))])
    | .eql => some (True, [(d, .bool (decide (a = b)))])
    | .neq => some (True, [(d, .bool (decide (a ≠ b)))])
    | .lss => some (True, [(d, .bool (Op.bytesLess a b))])
    | .leq => some (True, [(d, .bool (Op.bytesLess a b || decide (a = b)))])
    | .gtr => some (True, [(d, .bool (!(Op.bytesLess a b || decide (a = b))))])
    | .geq => some (True, [(d, .bool (!(Op.bytesLess a b)))])
    | _ => none
  | .bool a, .bool b => match (td t).und with
    | .bool => match op with
      | .eql => some (True, [(d, .bool (a == b))])
      | .neq => some (True, [(d, .bool (!(a == b)))])
      | _ => none
    | _ => none
  | x, y => match nilC (td t).und cs x y, op with
    | some b, .eql => some (True, [(d, .bool b)])
    | some b, .neq => some (True, [(d, .bool (!b))])
    | _, _ => none
def convC (src dst : TypeId) (d : Nat) (x : PV) : CU :=
  match x with
  | .int _ n => match (td src).und, (td dst).und with
    | .int _, .int k => some (True, [(d, .int k (k.wrap n))])
    | _, _ => none
  | .str s => match (td src).und, (td dst).und with
    | .str, .str => some (True, [(d, .str s)])
    | .str, .slice e => match (td e).und with
      | .int .u8 => some (s.length ≤ 9223372036854775807, [(d, .imm 1 (bytesPV s))])
      | _ => none
    | _, _ => none
  | _ => none
def lenC (v : PV) (t : UK) : Bool :=
  match t with
  | .str => (match v with | .str _ => true | _ => false)
  | .slice _ => (match v with | .str _ => false | _ => true)
  | _ => false
def appC : UK → Bool
  | .str | .slice _ => true
  | _ => false
def buildC (t : TypeId) (parts : List (Nat × Operand)) (rs : Operand → PV × PV) (zs : List PV) : Option (List PV × Ups) :=
  match (td t).arr with
  | some (len, n, _) => buildS (fun i => if i < len then some (i * n, n, t) else none) (fun _ x => rs x) parts zs
  | none => match (td t).plc with
    | some l => buildS (fun i => l[i]?) (fun t x => hintT td t x (rs x)) parts zs
    | none => none
def appendC (p : Stamp) (d : Nat) (t : Nat × Nat) (x : Operand) (vx : PV × PV) (vy : PV × PV) : CU :=
  match appendTo x vx with
  | none => none
  | some (sz, xs, u) => match appended vy with
    | none => none
    | some (sz', ys) =>
      if sz = t.1 ∧ sz' = t.1 ∧ 0 < t.1 then
        if nodupB ((u.map (·.1)) ++ [d]) then some ((xs.length + ys.length) * t.2 ≤ 140737488355328 ∧ xs.length + ys.length ≤ 140737488355328, u ++ [(d, .own p sz (xs ++ ys))]) else none
      else none
def builtinC (p : Stamp) (o : Oper) (c : Call) (rs : Operand → PV × PV) : CU :=
  match c.callee with
  | .builtin .len => match o.dst, c.args.toList, c.argTypes.toList with
    | some d, [x], [t] => onVR (hintT td t x (rs x)) fun vr => match lenV vr with
      | some n => if lenC vr.1 (td t).und then some (True, [(d, .int .i64 n)]) else none
      | none => none
    | _, _, _ => none
  | .builtin .append => match o.dst, c.args.toList, c.argTypes.toList with
    | some d, [x, y], [t1, t2] => onVR (hintT td t1 x (rs x)) fun vx => onVR (hintT td t2 y (rs y)) fun vy => match (td t1).row, (td t1).ez with
      | some t, some zs => if zs.length = t.1 ∧ appC (td t2).und = true then appendC p d t x vx vy else none
      | _, _ => none
    | _, _, _ => none
  | .builtin .max => match o.dst, c.args.toList, c.argTypes.toList with
    | some d, [x, y], [t1, t2] => onVR (hintT td t1 x (rs x)) fun vx => onVR (hintT td t2 y (rs y)) fun vy => match vx.1, vy.1 with
      | .int k a, .int _ b => some (True, [(d, .int k (max a b))])
      | _, _ => none
    | _, _, _ => none
  | .builtin .min => match o.dst, c.args.toList, c.argTypes.toList with
    | some d, [x, y], [t1, t2] => onVR (hintT td t1 x (rs x)) fun vx => onVR (hintT td t2 y (rs y)) fun vy => match vx.1, vy.1 with
      | .int k a, .int _ b => some (True, [(d, .int k (min a b))])
      | _, _ => none
    | _, _, _ => none
  | .value f => match (rs f).1 with
    | .func g caps => match bkG g with
      | some g' => yes (callBS o.dst g' ((c.args.toList.zipIdx).map fun (x, i) => (x, hintT td (c.argTypes.getD i 0) x (rs x))) caps)
      | none => none
    | _ => none
  | _ => none
/-- What an operation does, under which condition. -/
def semC (keep : List Nat) (p : Stamp) (o : Oper) (rs : Operand → PV × PV) : CU :=
  match o.op, o.dst with
  | .call c, _ => if rdB keep o.dst then none else builtinC td p o c rs
  | .store t x y, none => onVR (rs x) fun vx => onVR (hintT td t y (rs y)) fun vy => match (td t).size with
    | some n => yes (storeQ (keep.contains 1000000) p n x vx y vy)
    | none => none
  | .mapUpdate t m k v, none => match (td t).mp with
    | some (ag, _) => yes (mapUpdS ag m (rs m) (rs k).1 (hintT td ((td t).me.getD 0) v (rs v)).1)
    | none => none
  | .makeMap t none, some d => match (td t).mp with
    | some (ag, _) => some (True, [(d, .omap p (ag, []) [])])
    | none => none
  | .lookup t x k ok, some d => match (td t).mp with
    | some m => yes (lookupS m d ok (rs x) (rs k).1)
    | none => none
  | .move x, some d => onVR (hintT td o.type x (rs x)) fun v => match v.1 with
    | .bool b => (match b with
      | true => some (True, [(d, .bool true)])
      | false => some (True, [(d, .bool false)]))
    | _ => yes (moveS false keep p d x v)
  | .assign x, some d => onVR (hintT td o.type x (rs x)) fun v => yes (assignS keep p d x v)
  | .pick c a b, some d => match (rs c).1 with
    | .bool t => match (rs a).1, (rs b).1 with
      | .bool va, .bool vb => some (True, [(d, .bool (bif t then va else vb))])
      | .bool va, _ => some (t = true, [(d, .bool va)])
      | _, .bool vb => some (t = false, [(d, .bool vb)])
      | _, _ => none
    | _ => none
  | .alloc t, some d => match (td t).zero with
    | some cs => some (True, [(d, .box p (markT t cs))])
    | none => none
  | .box t x, some d => onVR (hintT td t x (rs x)) fun vx => match (td t).size, partS x vx with
    | some n, some (cs, u) => if cs.length = n ∧ nodupB ((u.map (·.1)) ++ [d]) then some (True, u ++ [(d, .box p cs)]) else none
    | some n, none => yes (boxO p d n x (rs x).1)
    | _, _ => none
  | .build t parts, some d => match (td t).zero with
    | none => none
    | some zs =>
      if keep.contains (4000000 + d) then yes (buildO p d (td t).plc rs (fun t x => hintT td t x (rs x)) parts.toList zs) else
      match buildC td t parts.toList rs zs with
      | some (cs, u) => if nodupB ((u.map (·.1)) ++ [d]) then some (True, u ++ [(d, .agg cs)]) else none
      | none => none
  | .buildSlice t len parts, some d => match (td t).row, (td t).ez, (td t).und with
    | some (n, _), some zs, .slice el =>
      if len * n ≤ 16777216 ∧ 0 < n ∧ zs.length = n then
        match elemsS n (fun x => hintT td el x (rs x)) parts.toList (List.replicate len (zs.map frzC)) with
        | some (xs, u) => if nodupB ((u.map (·.1)) ++ [d]) then onLL xs fun xs => some (True, u ++ [(d, .own p n xs)]) else none
        | none => none
      else none
    | _, _, _ => none
  | .load t x, some d => onVR (rs x) fun vx => match (td t).size, (td t).agg with
    | some n, some a => if a = true ∨ n = 1 then yes (loadS (n, a) d x vx) else none
    | _, _ => none
  | .nilCheck x, some d => onVR (rs x) fun vx => yes (addrS d 0 x vx)
  | .fieldAddr t x f, some d => onVR (rs x) fun vx => match (td t).flds[f]? with
    | some (some (off, n, _, _)) => if n = 0 then none else yes (addrS d off x vx)
    | _ => none
  | .indexAddr t x i, some d => match (rs i).1 with
    | .int _ n => match (td t).arr with
      | some (len, s, _) => onVR (rs x) fun vx => match addrS d (n.toNat * s) x vx with
        | some u => some (0 ≤ n ∧ n < len, u)
        | none => none
      | none => match (td t).row with
        | some (s, _) => onVR (rs x) fun vx => indexC d s x vx n
        | none => none
    | _ => none
  | .index t x i, some d => match (rs i).1 with
    | .int _ n => match (rs x).1, (td t).und with
      | .str s, .str => some (0 ≤ n ∧ n < s.length, [(d, .int .u8 (s.getD n.toNat 0).toNat)])
      | _, _ => none
    | _ => none
  | .slice t x lo hi none, some d => match (td t).und with
    | .str => onVR (rs x) fun vx => sliceC d none x vx (lo.map fun y => (rs y).1) (hi.map fun y => (rs y).1)
    | .slice _ => match (td t).row with
      | some (n, _) => onVR (rs x) fun vx => sliceC d (some n) x vx (lo.map fun y => (rs y).1) (hi.map fun y => (rs y).1)
      | none => none
    | _ => none
  | .field t x f, some d => onVR (rs x) fun vx => match (td t).flds[f]? with
    | some (some (off, n, a, _)) => if a = true ∨ n = 1 then yes (fieldS d vx off n a) else none
    | _ => none
  | .extract x i, some d => onVR (rs x) fun vx => yes (extractS p d x vx i)
  | .binOp op t x y _, some d => onV (rs x).1 fun vx => onV (rs y).1 fun vy => binC td op t d (constO x || constO y) vx vy
  | .makeInterface t x, some d => onV (rs x).1 fun vx => match (td t).und with
    | .none | .iface => none
    | .int _ => match vx with
      | .int k n => some (True, [(d, .ifi t k n)])
      | _ => some (True, [(d, .erri)])
    | _ => some (True, [(d, .erri)])
  | .unOp op _ x, some d => onV (rs x).1 fun vx => match op, vx with
    | .neg, .int k n => some (True, [(d, .int k (k.wrap (0 - n)))])
    | .not, .bool b => some (True, [(d, .bool (!b))])
    | _, _ => none
  | .convert s t x, some d => onV (rs x).1 fun vx => convC td s t d vx
  | .makeSlice t l c, some d => match (td t).row, (td t).ez, (rs l).1, (rs c).1 with
    | some (n, b), some zs, .int _ l, .int _ c =>
      if 0 < n ∧ zs.length = n then some (0 ≤ l ∧ l ≤ c ∧ c * b ≤ 140737488355328 ∧ c ≤ 140737488355328, [(d, .own p n (List.replicate l.toNat (zs.map frzC)))]) else none
    | _, _, _, _ => none
  | .makeFunc (.func f) first caps, some d =>
    if first.isEmpty then
      match capS (caps.toList.map fun x => (x, rs x)) with
      | some (cs, u) => if nodupB ((u.map (·.1)) ++ [d]) then some (True, u ++ [(d, .func f cs)]) else none
      | none => none
    else none
  | _, _ => none
end
end Go.PE
namespace Go.PE
open Go.RowKit
section
variable {P : Program} {Φ : FuncId → List PV → Option (PV × List (List PV))} {keep : List Nat}
abbrev Lg := List (List Nat × List Nat)
/-- The operations of a region are carried out, and then K. -/
structure WX (P : Program) (Φ : FuncId → List PV → Option (PV × List (List PV))) (keep : List Nat) (ops : Array Oper) (rid i : Nat) (l : List Oper) (e : List (Nat × PV)) (acc : Option Lg) (K : List (Nat × PV) → Prop) : Prop where
  out : match acc with
    | none => ∃ e', runOps P Φ keep ops rid i l e = some e' ∧ K e'
    | some lg => ∃ e' lg', runLog P Φ keep ops rid i l e = some (e', lg') ∧ apartB ops (lg ++ lg') = true ∧ K e'
variable {ops : Array Oper} {rid i : Nat} {o : Oper} {r : List Oper} {e : List (Nat × PV)} {acc : Option Lg} {K : List (Nat × PV) → Prop}
theorem WX.nil (k : K e) : WX P Φ keep ops rid i [] e none K := ⟨e, rfl, k⟩
theorem WX.nilD {lg : Lg} (h : apartB ops lg = true) (k : K e) : WX P Φ keep ops rid i [] e (some lg) K := ⟨e, [], rfl, by rw [List.append_nil]; exact h, k⟩
def nxt (acc : Option Lg) (f : List Nat) (u : Ups) : Option Lg :=
  match acc with
  | none => none
  | some lg => some (lg ++ [(f, u.map (·.1))])
theorem WX.raw0 {u : Ups} (h : stepO P Φ keep ops rid i o (lookup e) = some u) (k : WX P Φ keep ops rid (i + 1) r (applyL u e) (nxt acc (foot ops o (lookup e)) u) K) : WX P Φ keep ops rid i (o :: r) e acc K := by
  cases acc with
  | none =>
    obtain ⟨e', h1, h2⟩ := k.out
    exact ⟨e', by rw [runOps, h]; exact h1, h2⟩
  | some lg =>
    obtain ⟨e', lg', h1, h2, h3⟩ := k.out
    refine ⟨e', (foot ops o (lookup e), u.map (·.1)) :: lg', ?_, ?_, h3⟩
    · rw [runLog, h]
      simp only [h1]
    · rw [List.append_assoc] at h2
      exact h2
theorem WX.raw {u : Ups} (hg : guardOf ops o (lookup e) = some true) (h : sem P Φ keep (rid, i) o (res (lookup e)) = some u)
    (k : onUps u e fun e' => WX P Φ keep ops rid (i + 1) r e' (nxt acc (foot ops o (lookup e)) u) K) : WX P Φ keep ops rid i (o :: r) e acc K := by
  rw [onUps_eq] at k
  exact WX.raw0 (by rw [stepO, hg]; exact h) k
theorem WX.rawN {u : Ups} (hg : guardOf ops o (lookup e) = some true) (h : sem P Φ keep (rid, i) o (res (lookup e)) = some u)
    (k : onUps u e fun e' => WX P Φ keep ops rid (i + 1) r e' none K) : WX P Φ keep ops rid i (o :: r) e none K := WX.raw hg h k
theorem WX.skipD (hg : guardOf ops o (lookup e) = some false)
    (k : onUps (match o.dst with | some d => [(d, .tup [])] | none => []) e fun e' => WX P Φ keep ops rid (i + 1) r e' (nxt acc (foot ops o (lookup e)) (match o.dst with | some d => [(d, .tup [])] | none => [])) K) : WX P Φ keep ops rid i (o :: r) e acc K := by
  rw [onUps_eq] at k
  exact WX.raw0 (by rw [stepO, hg]; rfl) k
theorem WX.skip (hg : guardOf ops o (lookup e) = some false)
    (k : onUps (match o.dst with | some d => [(d, .tup [])] | none => []) e fun e' => WX P Φ keep ops rid (i + 1) r e' none K) : WX P Φ keep ops rid i (o :: r) e none K := WX.skipD hg k
/-! ### Code -/
structure W (P : Program) (Φ : FuncId → List PV → Option (PV × List (List PV))) (keep : List Nat) (lv : Nat → List Nat) (n b : Nat) (c : Code) (s : St) (Q : Ex → St → Prop) : Prop where
  out : ∃ ex s', exec P Φ keep lv n b c s = some (ex, s') ∧ Q ex s'
variable {lv : Nat → List Nat} {n b : Nat} {s : St} {Q : Ex → St → Prop}
theorem W.skip (k : Q .normal s) : W P Φ keep lv n b .skip s Q := ⟨.normal, s, by cases s; rfl, k⟩
theorem W.exit {id : Nat} (k : Q (.exit id) s) : W P Φ keep lv n b (.exit id) s Q := ⟨.exit id, s, by cases s; rfl, k⟩
theorem W.ret (k : Q .ret s) : W P Φ keep lv n b .ret s Q := ⟨.ret, s, by cases s; rfl, k⟩
theorem W.region {id : Nat} (k : WX P Φ keep ops (rid + 1) 0 ops.toList e none fun e' => Q .normal (rid + 1, e')) : W P Φ keep lv n b (.region id ops false) (rid, e) Q := by
  obtain ⟨e', h1, h2⟩ := k.out
  exact ⟨.normal, (rid + 1, e'), by simp [exec, h1], h2⟩
theorem W.regionD {id : Nat} (k : WX P Φ keep ops (rid + 1) 0 ops.toList e (some []) fun e' => Q .normal (rid + 1, e')) : W P Φ keep lv n b (.region id ops true) (rid, e) Q := by
  obtain ⟨e', lg', h1, h2, h3⟩ := k.out
  rw [List.nil_append] at h2
  exact ⟨.normal, (rid + 1, e'), by simp [exec, h1, h2], h3⟩
def thenW (F : St → Prop) (Q : Ex → St → Prop) : Ex → St → Prop
  | .normal, s => F s
  | ex, s => Q ex s
theorem W.seq {x y : Code} (k : W P Φ keep lv n b x s (thenW (fun s' => W P Φ keep lv n b y s' Q) Q)) : W P Φ keep lv n b (.seq x y) s Q := by
  obtain ⟨ex, s', h1, h2⟩ := k.out
  cases ex with
  | normal =>
    obtain ⟨ex2, s2, h3, h4⟩ := W.out h2
    exact ⟨ex2, s2, by rw [exec, h1]; exact h3, h4⟩
  | exit id => exact ⟨.exit id, s', by rw [exec, h1], h2⟩
  | ret => exact ⟨.ret, s', by rw [exec, h1], h2⟩
theorem W.cond {c : Operand} {x y : Code} {t : Bool} (h : opv (lookup s.2) c = .bool t) (k1 : t = true → W P Φ keep lv n b x s Q) (k2 : t = false → W P Φ keep lv n b y s Q) : W P Φ keep lv n b (.cond c x y) s Q := by
  cases t with
  | true =>
    obtain ⟨ex, s', h1, h2⟩ := (k1 rfl).out
    exact ⟨ex, s', by rw [exec, h]; exact h1, h2⟩
  | false =>
    obtain ⟨ex, s', h1, h2⟩ := (k2 rfl).out
    exact ⟨ex, s', by rw [exec, h]; exact h1, h2⟩
theorem W.condT {c : Operand} {x y : Code} (h : opv (lookup s.2) c = .bool true) (k : W P Φ keep lv n b x s Q) : W P Φ keep lv n b (.cond c x y) s Q := W.cond h (fun _ => k) (fun h => by cases h)
theorem W.condF {c : Operand} {x y : Code} (h : opv (lookup s.2) c = .bool false) (k : W P Φ keep lv n b y s Q) : W P Φ keep lv n b (.cond c x y) s Q := W.cond h (fun h => by cases h) (fun _ => k)
def outW (id : Nat) (Q : Ex → St → Prop) : Ex → St → Prop
  | .exit j, s => match Nat.beq j id with
    | true => Q .normal s
    | false => Q (.exit j) s
  | ex, s => Q ex s
theorem W.block {id : Nat} {c : Code} (k : W P Φ keep lv n id c s (outW id Q)) : W P Φ keep lv n b (.block id c) s Q := by
  obtain ⟨ex, s', h1, h2⟩ := k.out
  cases ex with
  | normal => exact ⟨.normal, s', by rw [exec, h1], h2⟩
  | ret => exact ⟨.ret, s', by rw [exec, h1], h2⟩
  | exit j =>
    by_cases hj : j = id
    · subst hj
      have : Nat.beq j j = true := by simp
      simp only [outW, this] at h2
      exact ⟨.normal, s', by rw [exec, h1]; simp, h2⟩
    · have : Nat.beq j id = false := by
        rw [← Bool.not_eq_true, Nat.beq_eq]; exact hj
      simp only [outW, this] at h2
      exact ⟨.exit j, s', by rw [exec, h1]; simp [hj], h2⟩
theorem loopN_inv {body : List (Nat × PV) → Option (Ex × St)} {live : List Nat} {I : List (Nat × PV) → Nat → Prop}
    (hs : ∀ e m, I e m → ∃ ex s', body e = some (ex, s') ∧ thenW (fun s' => ∃ m', m' < m ∧ I (canon live (lookup s'.2)) m') Q ex s') :
    ∀ (m n : Nat) (e : List (Nat × PV)), I e m → m < n → ∃ ex s', loopN body live n e = some (ex, s') ∧ Q ex s' := by
  intro m
  induction m using Nat.strongRecOn with
  | _ m ih =>
    intro n e hI hn
    obtain ⟨n, rfl⟩ : ∃ k, n = k + 1 := ⟨n - 1, by omega⟩
    obtain ⟨ex, s', h1, h2⟩ := hs e m hI
    cases ex with
    | normal =>
      obtain ⟨m', h3, h4⟩ := h2
      obtain ⟨ex2, s2, h5, h6⟩ := ih m' h3 n _ h4 (by omega)
      exact ⟨ex2, s2, by rw [loopN, h1]; exact h5, h6⟩
    | exit id => exact ⟨.exit id, s', by rw [loopN, h1], h2⟩
    | ret => exact ⟨.ret, s', by rw [loopN, h1], h2⟩
/-- A loop: I: what holds at its head, with a measure that goes down. -/
theorem W.loop {c : Code} (I : List (Nat × PV) → Nat → Prop) (m0 : Nat) (h0 : I (canon (lv b) (lookup s.2)) m0) (hm : m0 < n)
    (hs : ∀ e m, I e m → W P Φ keep lv n b c (0, e) (thenW (fun s' => ∃ m', m' < m ∧ I (canon (lv b) (lookup s'.2)) m') Q)) : W P Φ keep lv n b (.loop c) s Q := by
  obtain ⟨ex, s', h1, h2⟩ := loopN_inv (body := fun e => exec P Φ keep lv n b c (0, e)) (live := lv b) (I := I) (Q := Q) (fun e m h => (hs e m h).out) m0 n _ h0 hm
  exact ⟨ex, s', by rw [exec]; exact h1, h2⟩
theorem W.mono {c : Code} {Q' : Ex → St → Prop} (h : W P Φ keep lv n b c s Q') (hq : ∀ ex s', Q' ex s' → Q ex s') : W P Φ keep lv n b c s Q := by
  obtain ⟨ex, s', h1, h2⟩ := h.out
  exact ⟨ex, s', h1, hq _ _ h2⟩
end
/-! ### Functions -/
section
variable (td : TypeId → TD)
def resValT (e : Env) : ResultVar → Option PV
  | .tmp t => if isRef (opv e (.tmp t)) then none else some (opv e (.tmp t))
  | .cell t ty => match opv e (.tmp t), (td ty).size, (td ty).agg with
    | .iptr cs 0, some n, some ag => if (ag = true ∨ n = 1) ∧ cs.length = n then (if ag then some (.agg cs) else cs.head?) else none
    | _, _, _ => none
def resValsT (e : Env) : List ResultVar → Option (List PV)
  | [] => some []
  | r :: l => match resValT td e r, resValsT e l with
    | some v, some vs => some (v :: vs)
    | _, _ => none
def finishT (rs : List ResultVar) (bp : List Nat) (e : Env) : Option (PV × List (List PV)) :=
  match resFrz e rs with
  | none => none
  | some u => match resValsT td (apply u e) rs, outsOf (apply u e) bp with
    | some vs, some outs => if nodupB (u.map (·.1)) && nodupB (resSlots rs ++ bp) then some (frzT (stmo (0, 0) (one vs)), outs) else none
    | _, _ => none
theorem finish_eq (P : Program) (rs : List ResultVar) (bp : List Nat) (e : Env) : finishT (tdOf P) rs bp e = finish P rs bp e := by
  have h1 : ∀ e r, resValT (tdOf P) e r = resVal P e r := by intro e r; cases r <;> rfl
  have h2 : ∀ e l, resValsT (tdOf P) e l = resVals P e l := by
    intro e l
    induction l with
    | nil => rfl
    | cons r l ih => rw [resValsT, resVals, h1, ih]; rfl
  unfold finishT finish
  simp only [h2]
  rfl
end
def endW (F : Env → Option (PV × List (List PV))) (r : PV × List (List PV)) : Ex → St → Prop
  | .exit _, _ => False
  | _, s => F (lookup s.2) = some r
theorem funcS_enter {P : Program} {Φ : FuncId → List PV → Option (PV × List (List PV))} {td : TypeId → TD} (htd : td = tdOf P) {keep : FuncId → List Nat} {lv : FuncId → Nat → List Nat} {n : Nat} {f : FuncId} {avs : List PV} {r : PV × List (List PV)} {fn : Func} {c : Code}
    (hf : P.funcs[f]? = some fn) (hc : fn.body = some c) (hn : ¬ (fn.name = "runtime.NumGoroutine" ∨ (wrB f || prB f) = true)) (hok : codeOK fn.ntmps (boxPos avs) c = true) (hl : avs.length ≤ fn.ntmps) (hv : fn.ntmps ≤ VS) (hst : avs.all stamp0 = true)
    (h : W P Φ (keep f) (lv f) n 0 c (0, avs.zipIdx.map fun q => (q.2, q.1)) (endW (finishT td fn.results.toList (boxPos avs)) r)) : funcS P Φ keep lv n f avs = some r := by
  obtain ⟨ex, s', h1, h2⟩ := h.out
  subst htd
  unfold funcS
  rw [hf]
  simp only [hc, if_neg hn]
  unfold funcBody
  rw [if_pos ⟨hl, hv, hok, hst⟩, h1]
  obtain ⟨rid, e⟩ := s'
  cases ex with
  | exit id => exact h2.elim
  | normal => exact (finish_eq P _ _ _).symm.trans h2
  | ret => exact (finish_eq P _ _ _).symm.trans h2
end Go.PE
namespace Go.PE
open Go.RowKit
section
variable {P : Program} {Φ : FuncId → List PV → Option (PV × List (List PV))} {keep : List Nat} {p : Stamp} {rs : Operand → PV × PV} {c : Prop} {u : Ups}
theorem yes_eq {a : Option Ups} (h : yes a = some (c, u)) : a = some u := by
  unfold yes at h
  split at h
  · cases h; rfl
  · cases h
theorem indexC_sound {d sz : Nat} {x : Operand} {vr : PV × PV} {i : Int} (h : indexC d sz x vr i = some (c, u)) (hc : c) : indexS d sz x vr i = some u := by
  unfold indexC at h
  unfold indexS
  split at h
  · rename_i st sz' xs hv
    split at h
    · split at h
      · rename_i h1
        cases h
        simp only [hv]
        rw [if_pos ⟨h1.1, h1.2, hc⟩]
      · cases h
    · cases h
  · rename_i r pl st off len hv
    split at h
    · rename_i sz' xs hr
      split at h
      · rename_i h1
        cases h
        simp only [hv, hr]
        rw [if_pos ⟨h1.1, h1.2, hc⟩]
      · cases h
    · cases h
  · cases h
theorem bnd_some {hi d0 : Nat} {k : IntKind} {n : Int} (h0 : 0 ≤ n) (h1 : n ≤ hi) : bndS hi (some (.int k n)) d0 = some n.toNat := by
  simp only [bndS]
  rw [if_pos ⟨h0, h1⟩]
theorem bnd_none {hi d0 : Nat} : bndS hi none d0 = some d0 := rfl
theorem sliceC_sound {d : Nat} {n : Option Nat} {x : Operand} {vr : PV × PV} {lo hi : Option PV} (h : sliceC d n x vr lo hi = some (c, u)) (hc : c) : sliceS d n x vr lo hi = some u := by
  unfold sliceC at h
  split at h
  · exact yes_eq h
  · rename_i k l
    unfold sliceS
    split at h
    · rename_i s hv
      split at h
      · cases h
      · rename_i hn
        cases h
        simp only [hv]
        rw [if_neg hn]
        simp only [bnd_none, bnd_some hc.1 hc.2]
        rw [List.take_of_length_le (by simp)]
    · rename_i sz xs hv
      split at h
      · cases h
      · rename_i hn
        cases h
        simp only [hv]
        rw [if_neg hn]
        simp only [bnd_none, bnd_some hc.1 hc.2]
        rw [List.take_of_length_le (by simp)]
    · rename_i st sz xs hv
      split at h
      · split at h
        · cases h
        · rename_i hn
          cases h
          simp only [hv]
          rw [if_neg hn]
          simp only [bnd_none, bnd_some hc.1 hc.2]
      · cases h
    · rename_i r pl st off len hv
      split at h
      · cases h
      · rename_i sz xs hr
        split at h
        · cases h
        · rename_i hn
          cases h
          simp only [hv, hr]
          rw [if_neg hn]
          simp only [bnd_none, bnd_some hc.1 hc.2]
    · cases h
  · rename_i k hh
    unfold sliceS
    split at h
    · rename_i s hv
      split at h
      · cases h
      · rename_i hn
        cases h
        simp only [hv]
        rw [if_neg hn]
        simp only [bnd_none, bnd_some hc.1 hc.2, List.drop_zero, Nat.sub_zero]
    · rename_i sz xs hv
      split at h
      · cases h
      · rename_i hn
        cases h
        simp only [hv]
        rw [if_neg hn]
        simp only [bnd_none, bnd_some hc.1 hc.2, List.drop_zero, Nat.sub_zero]
    · rename_i st sz xs hv
      split at h
      · split at h
        · cases h
        · rename_i hn
          cases h
          simp only [hv]
          rw [if_neg hn]
          simp only [bnd_none, bnd_some hc.1 hc.2, Nat.sub_zero]
      · cases h
    · rename_i r pl st off len hv
      split at h
      · cases h
      · rename_i sz xs hr
        split at h
        · cases h
        · rename_i hn
          cases h
          simp only [hv, hr]
          rw [if_neg hn]
          simp only [bnd_none, bnd_some hc.1 hc.2, Nat.sub_zero, Nat.add_zero]
    · cases h
  · rename_i k1 l k2 hh
    unfold sliceS
    split at h
    · rename_i s hv
      split at h
      · cases h
      · rename_i hn
        cases h
        simp only [hv]
        rw [if_neg hn]
        simp only [bnd_some (show 0 ≤ hh by omega) hc.2.2, bnd_some hc.1 (show l ≤ (hh.toNat : Int) by omega)]
    · rename_i sz xs hv
      split at h
      · cases h
      · rename_i hn
        cases h
        simp only [hv]
        rw [if_neg hn]
        simp only [bnd_some (show 0 ≤ hh by omega) hc.2.2, bnd_some hc.1 (show l ≤ (hh.toNat : Int) by omega)]
    · rename_i st sz xs hv
      split at h
      · split at h
        · cases h
        · rename_i hn
          cases h
          simp only [hv]
          rw [if_neg hn]
          simp only [bnd_some (show 0 ≤ hh by omega) hc.2.2, bnd_some hc.1 (show l ≤ (hh.toNat : Int) by omega)]
      · cases h
    · rename_i r pl st off len hv
      split at h
      · cases h
      · rename_i sz xs hr
        split at h
        · cases h
        · rename_i hn
          cases h
          simp only [hv, hr]
          rw [if_neg hn]
          simp only [bnd_some (show 0 ≤ hh by omega) hc.2.2, bnd_some hc.1 (show l ≤ (hh.toNat : Int) by omega)]
    · cases h
  · cases h
theorem und_iface {t : Option TypeDesc} (h : ukOf t = .iface) : ∃ ms, t = some (.interface ms) := by
  cases t with
  | none => simp [ukOf] at h
  | some t => cases t <;> simp [ukOf] at h ⊢
theorem und_ptr {t : Option TypeDesc} (h : ukOf t = .ptr) : ∃ e, t = some (.pointer e) := by
  cases t with
  | none => simp [ukOf] at h
  | some t => cases t <;> simp [ukOf] at h ⊢
theorem und_bool {t : Option TypeDesc} (h : ukOf t = .bool) : t = some .bool := by
  cases t with
  | none => simp [ukOf] at h
  | some t => cases t <;> simp [ukOf] at h ⊢
theorem und_str {t : Option TypeDesc} (h : ukOf t = .str) : t = some .string := by
  cases t with
  | none => simp [ukOf] at h
  | some t => cases t <;> simp [ukOf] at h ⊢
theorem und_int {t : Option TypeDesc} {k : IntKind} (h : ukOf t = .int k) : t = some (.int k) := by
  cases t with
  | none => simp [ukOf] at h
  | some t => cases t <;> simp [ukOf] at h ⊢; exact h
theorem und_slice {t : Option TypeDesc} {e : TypeId} (h : ukOf t = .slice e) : t = some (.slice e) := by
  cases t with
  | none => simp [ukOf] at h
  | some t => cases t <;> simp [ukOf] at h ⊢; exact h
theorem beq_dec {α : Type} [BEq α] [LawfulBEq α] [DecidableEq α] (a b : α) : (a == b) = decide (a = b) := by
  by_cases h : a = b <;> simp [h]
theorem bne_dec {α : Type} [BEq α] [LawfulBEq α] [DecidableEq α] (a b : α) : (a != b) = decide (a ≠ b) := by
  by_cases h : a = b <;> simp [h, bne]
def binAll (P : Program) (op : BinOp) (t : TypeId) (d : Nat) (cs : Bool) (x y : PV) : Option Ups :=
  match binS P op t x y with
  | some v => some [(d, v)]
  | none => match ifcS P t cs x y, op with
    | some b, .eql => some [(d, .bool b)]
    | some b, .neq => some [(d, .bool (!b))]
    | _, _ => none
theorem binAll_some {op : BinOp} {t : TypeId} {d : Nat} {cs : Bool} {x y v : PV} (h : binS P op t x y = some v) : binAll P op t d cs x y = some [(d, v)] := by
  unfold binAll; rw [h]
theorem binAll_eql {t : TypeId} {d : Nat} {cs : Bool} {x y : PV} {b : Bool} (h : binS P .eql t x y = none) (h2 : ifcS P t cs x y = some b) : binAll P .eql t d cs x y = some [(d, .bool b)] := by
  unfold binAll; rw [h, h2]
theorem binAll_neq {t : TypeId} {d : Nat} {cs : Bool} {x y : PV} {b : Bool} (h : binS P .neq t x y = none) (h2 : ifcS P t cs x y = some b) : binAll P .neq t d cs x y = some [(d, .bool (!b))] := by
  unfold binAll; rw [h, h2]
theorem binC_sound {op : BinOp} {t : TypeId} {d : Nat} {cs : Bool} {x y : PV} (h : binC (tdOf P) op t d cs x y = some (c, u)) (hc : c) : binAll P op t d cs x y = some u := by
  unfold binC at h
  split at h
  · rename_i k a k' b
    cases op <;> simp only at h
    case shl =>
      split at h
      · cases h
        exact binAll_some (by simp only [binS, shiftI]; rw [if_neg (by omega)])
      · cases h
    case shr =>
      cases h
      exact binAll_some (by simp only [binS, shiftI]; rw [if_neg (by omega)])
    case quo =>
      split at h
      · rename_i hk
        cases h
        exact binAll_some (by simp only [binS, if_pos hk, arithI, if_neg hc])
      · cases h
    case rem =>
      split at h
      · rename_i hk
        cases h
        exact binAll_some (by simp only [binS, if_pos hk, arithI, if_neg hc])
      · cases h
    case add =>
      split at h
      · rename_i hk
        cases h
        exact binAll_some (by simp only [binS, if_pos hk, arithI])
      · cases h
    case sub =>
      split at h
      · rename_i hk
        cases h
        exact binAll_some (by simp only [binS, if_pos hk, arithI])
      · cases h
    case mul =>
      split at h
      · rename_i hk
        cases h
        exact binAll_some (by simp only [binS, if_pos hk, arithI])
      · cases h
    case eql =>
      split at h
      · rename_i hk
        cases h
        exact binAll_some (by simp only [binS, if_pos hk, arithI, cmpI, Option.map_some, beq_dec])
      · cases h
    case neq =>
      split at h
      · rename_i hk
        cases h
        exact binAll_some (by simp only [binS, if_pos hk, arithI, cmpI, Option.map_some, bne_dec])
      · cases h
    case lss =>
      split at h
      · rename_i hk
        cases h
        exact binAll_some (by simp only [binS, if_pos hk, arithI, cmpI, Option.map_some])
      · cases h
    case leq =>
      split at h
      · rename_i hk
        cases h
        exact binAll_some (by simp only [binS, if_pos hk, arithI, cmpI, Option.map_some])
      · cases h
    case gtr =>
      split at h
      · rename_i hk
        cases h
        exact binAll_some (by simp only [binS, if_pos hk, arithI, cmpI, Option.map_some])
      · cases h
    case geq =>
      split at h
      · rename_i hk
        cases h
        exact binAll_some (by simp only [binS, if_pos hk, arithI, cmpI, Option.map_some])
      · cases h
    all_goals
      split at h
      · rename_i hk
        split at h
        · rename_i n hn
          cases h
          exact binAll_some (by simp only [binS, if_pos hk, arithI, hn, Option.map_some])
        · cases h
      · cases h
  · rename_i a b
    cases op <;> simp only at h
    case add => cases h; exact binAll_some (by simp only [binS, strI, if_pos hc])
    case eql => cases h; exact binAll_some (by simp only [binS, strI, beq_dec])
    case neq => cases h; exact binAll_some (by simp only [binS, strI, beq_dec]; by_cases hab : a = b <;> simp [hab])
    case lss => cases h; exact binAll_some (by simp only [binS, strI])
    case leq => cases h; exact binAll_some (by simp only [binS, strI, beq_dec])
    case gtr => cases h; exact binAll_some (by simp only [binS, strI, beq_dec])
    case geq => cases h; exact binAll_some (by simp only [binS, strI])
    all_goals cases h
  · rename_i a b
    split at h
    · rename_i hu
      have hu := und_bool hu
      split at h
      · cases h
        exact binAll_some (by simp only [binS, eqS, hu, Option.map_some])
      · cases h
        exact binAll_some (by simp only [binS, eqS, hu, Option.map_some])
      · cases h
    · cases h
  · rename_i hx1 hx2 hx3
    have key : ∀ (b : Bool), nilC (tdOf P t).und cs x y = some b → ifcS P t cs x y = some b ∧ ∀ op, op = .eql ∨ op = .neq → binS P op t x y = none := by
      intro b hb
      unfold nilC at hb
      split at hb
      · rename_i hu
        obtain ⟨ms, hu⟩ := und_iface hu
        split at hb <;> first
          | (split at hb
             · rename_i hcs
               cases hb
               exact ⟨by simp [ifcS, hu, hcs], fun op ho => by rcases ho with rfl | rfl <;> rfl⟩
             · cases hb)
          | (cases hb; exact ⟨by simp [ifcS, hu], fun op ho => by rcases ho with rfl | rfl <;> rfl⟩)
          | cases hb
      · rename_i hu
        obtain ⟨ms, hu⟩ := und_ptr hu
        split at hb <;> first
          | (cases hb; exact ⟨by simp [ifcS, hu], fun op ho => by rcases ho with rfl | rfl <;> rfl⟩)
          | cases hb
      · cases hb
    split at h
    · cases h
      obtain ⟨h1, h2⟩ := key _ (by assumption)
      exact binAll_eql (h2 _ (.inl rfl)) h1
    · cases h
      obtain ⟨h1, h2⟩ := key _ (by assumption)
      exact binAll_neq (h2 _ (.inr rfl)) h1
    · cases h
theorem convC_sound {a b : TypeId} {d : Nat} {x : PV} (h : convC (tdOf P) a b d x = some (c, u)) (hc : c) : ∃ v w, PE.view (x, .dead) = some v ∧ PE.convS P a b v = some w ∧ u = [(d, w)] := by
  unfold convC at h
  split at h
  · split at h
    · rename_i k1 k h1 h2
      cases h
      have h1 := und_int h1
      have h2 := und_int h2
      exact ⟨_, _, rfl, by simp only [convS, h1, h2], rfl⟩
    · cases h
  · split at h
    · rename_i h1 h2
      cases h
      have h1 := und_str h1
      have h2 := und_str h2
      exact ⟨_, _, rfl, by simp only [convS, h1, h2], rfl⟩
    · rename_i e h1 h2
      have h1 := und_str h1
      have h2 := und_slice h2
      split at h
      · rename_i h3
        have h3 := und_int h3
        cases h
        exact ⟨_, _, rfl, by simp only [convS, h1, h2, h3, if_pos hc], rfl⟩
      · cases h
    · cases h
  · cases h
theorem fieldT_of {t : TypeId} {f : Nat} {x : Nat × Nat × Bool × TypeId} (h : (tdOf P t).flds[f]? = some (some x)) : fieldT P t f = some x := by
  simp only [tdOf, List.getElem?_map, Option.map_eq_some_iff] at h
  obtain ⟨a, h1, h2⟩ := h
  obtain ⟨h3, h4⟩ := List.getElem?_eq_some_iff.1 h1
  simp at h4
  subst h4
  exact h2
theorem hintT_const (t : TypeId) (x : Operand) (vr : PV × PV) : hintT (tdOf P) t x vr = hint P t x vr := rfl
theorem appendC_sound {d : Nat} {t : Nat × Nat} {x : Operand} {vx vy : PV × PV} (h : appendC p d t x vx vy = some (c, u)) (hc : c) : appendS p d t x vx vy = some u := by
  unfold appendC at h
  unfold appendS
  split at h
  · cases h
  · rename_i sz xs u0 h1
    split at h
    · cases h
    · rename_i sz' ys h2
      split at h
      · rename_i h3
        split at h
        · rename_i h4
          cases h
          simp only [h1, h2]
          rw [if_pos ⟨h3.1, h3.2.1, h3.2.2, hc.1, hc.2⟩, if_pos h4]
        · cases h
      · cases h
theorem lenC_sound {v : PV} {t : Option TypeDesc} (h : lenC v (ukOf t) = true) : lenOK v t = true := by
  unfold lenC at h
  split at h
  · rename_i hu
    rw [und_str hu]
    exact h
  · rename_i e hu
    rw [und_slice hu]
    exact h
  · cases h
theorem appC_sound {t : Option TypeDesc} (h : appC (ukOf t) = true) : appT t = true := by
  unfold appC at h
  split at h
  · rename_i hu
    rw [und_str hu]; rfl
  · rename_i e hu
    rw [und_slice hu]; rfl
  · cases h
theorem builtinC_sound {o : Oper} {cl : Call} (h : builtinC (tdOf P) p o cl rs = some (c, u)) (hc : c) : callOf P Φ p o cl rs = some u := by
  unfold builtinC at h
  obtain ⟨callee, args, argTypes⟩ := cl
  obtain ⟨args⟩ := args
  obtain ⟨argTypes⟩ := argTypes
  split at h
  · rename_i heq
    simp only at heq
    subst heq
    split at h
    · rename_i d x t hd ha ht
      simp only at ha ht
      subst ha ht
      rw [onVR_eq] at h
      split at h
      · rename_i n hn
        split at h
        · rename_i hl
          cases h
          have hl := lenC_sound hl
          simp only [hintT_const] at hn hl
          simp [callOf, hd, hn, hl]
        · cases h
      · cases h
    · cases h
  · rename_i heq
    simp only at heq
    subst heq
    split at h
    · rename_i d x y t1 t2 hd ha ht
      simp only at ha ht
      subst ha ht
      rw [onVR_eq, onVR_eq] at h
      split at h
      · rename_i t zs h1 h2
        split at h
        · rename_i h3
          have h4 := appendC_sound h hc
          have h5 := appC_sound h3.2
          simp only [hintT_const] at h4
          have h1 : rowT P t1 = some t := h1
          have h2 : (elemT P t1).bind (zeroT P) = some zs := h2
          simp [callOf, hd, h1, h2, h3.1, h5, h4]
        · cases h
      · cases h
    · cases h
  · rename_i heq
    simp only at heq
    subst heq
    split at h
    · rename_i d x y t1 t2 hd ha ht
      simp only at ha ht
      subst ha ht
      rw [onVR_eq, onVR_eq] at h
      split at h
      · rename_i k a k' b h1 h2
        cases h
        simp only [hintT_const] at h1 h2
        simp [callOf, hd, h1, h2]
        split <;> omega
      · cases h
    · cases h
  · rename_i heq
    simp only at heq
    subst heq
    split at h
    · rename_i d x y t1 t2 hd ha ht
      simp only at ha ht
      subst ha ht
      rw [onVR_eq, onVR_eq] at h
      split at h
      · rename_i k a k' b h1 h2
        cases h
        simp only [hintT_const] at h1 h2
        simp [callOf, hd, h1, h2]
        split <;> omega
      · cases h
    · cases h
  · rename_i f heq
    simp only at heq
    subst heq
    split at h
    · rename_i g caps hf
      split at h
      · rename_i g' hg
        have h := yes_eq h
        simp only [hintT_const] at h
        simp only [callOf, hf, hg]
        exact h
      · cases h
    · cases h
  · cases h
end
end Go.PE
