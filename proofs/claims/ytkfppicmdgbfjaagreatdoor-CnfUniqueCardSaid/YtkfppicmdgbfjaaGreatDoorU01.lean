/-
  A part of the proof that the law's function returns true and leaves its arguments as they were, for every input (no condition): own lemmas of the proof, in the order of their use.
-/
import Derived.Calls
import Derived.Orders
set_option linter.all false
namespace Go.PE
/-- A stamp: the number of the region (since the loop's head) and of the operation that made an owned row or a variable. -/
abbrev Stamp := Nat × Nat
/-- A value without memory. `own`: a row that this call alone holds. `box`: a variable in memory that this call alone holds.
`loc`, `eloc`, `snap`: what a slot says of another slot's memory: the address of a variable's cell, of an element's cell; a part of a row. -/
inductive PV where
  | int (k : IntKind) (n : Int)
  | bool (b : Bool)
  | str (s : List UInt8)
  | imm (sz : Nat) (xs : List (List PV))
  | nils (sz : Nat)
  | iptr (cs : List PV) (o : Nat)
  | nilp
  | func (f : FuncId) (caps : List PV)
  | nilf
  | nili
  | ifi (t : TypeId) (k : IntKind) (n : Int)
  | erri
  | own (st : Stamp) (sz : Nat) (xs : List (List PV))
  | agg (cs : List PV)
  | tup (vs : List PV)
  | box (st : Stamp) (cs : List PV)
  | loc (r : Nat) (st : Stamp) (o : Nat)
  | eloc (r : Nat) (pl : Option Nat) (st : Stamp) (i k : Nat)
  | snap (r : Nat) (pl : Option Nat) (st : Stamp) (off len : Nat)
  | dead
  | self (t : TypeId)
  | bnil (t : TypeId)
  | back (g : FuncId) (r : Nat) (pl : Option Nat) (st : Stamp) (off len : Nat)
  | pvar (r : Nat) (st : Stamp)
  | omap (st : Stamp) (ks : Bool × List (List UInt8)) (vs : List (List PV))
  | imap (ks : Bool × List (List UInt8)) (vs : List (List PV))
  | mref (r : Nat) (pl : Option Nat) (st : Stamp)
  | oagg (cs : List PV)
  deriving Inhabited
/-- The keys of a map; are the values structs or arrays? -/
abbrev MKeys := Bool × List (List UInt8)
/-- One cell, nothing owned, nothing of another slot. -/
def okC : PV → Bool
  | .int .. | .bool _ | .str _ | .imm .. | .nils _ | .iptr .. | .nilp | .func .. | .nilf | .nili | .ifi .. | .erri | .imap .. => true
  | _ => false
/-- One cell, possibly an owned row. -/
def cellC : PV → Bool
  | .own .. => true
  | .dead => true
  | .self _ => true
  | .bnil _ => true
  | .omap .. => true
  | v => okC v
/-- A cell as it stands where nothing is owned. -/
def frzC : PV → PV
  | .own _ sz xs => .imm sz xs
  | .omap _ ks vs => .imap ks vs
  | .nils sz => .imm sz []
  | v => v
/-- A cell whose row is written by nobody any more. -/
def frzO : PV → PV
  | .own _ sz xs => .imm sz xs
  | .omap _ ks vs => .imap ks vs
  | v => v
/-- A cell of a variable, with a fresh stamp. -/
def stC (p : Stamp) : PV → PV
  | .own _ sz xs => .own p sz xs
  | .omap _ ks vs => .omap p ks vs
  | .nils sz => .own p sz []
  | v => v
/-- A value that a call hands back, with a fresh stamp. -/
def st1 (p : Stamp) : PV → PV
  | .own _ sz xs => .own p sz xs
  | .omap _ ks vs => .omap p ks vs
  | .oagg cs => .oagg (cs.map (stC p))
  | .nils sz => .own p sz []
  | .agg cs => .agg (cs.map frzO)
  | .box _ cs => .box p (cs.map (stC p))
  | v => v
def stm (p : Stamp) : PV → PV
  | .tup vs => .tup (vs.map (st1 p))
  | v => st1 p v
/-- .. and as a function's own result is handed out: nothing in it is a nil slice. -/
def st1o (p : Stamp) : PV → PV
  | .own _ sz xs => .own p sz xs
  | .omap _ ks vs => .omap p ks vs
  | .oagg cs => .oagg (cs.map (stC p))
  | .nils sz => .own p sz []
  | .agg cs => .agg (cs.map frzC)
  | .box _ cs => .box p (cs.map (stC p))
  | v => v
def stmo (p : Stamp) : PV → PV
  | .tup vs => .tup (vs.map (st1o p))
  | v => st1o p v
def constPV : Value → PV
  | .int k n => .int k n
  | .bool b => .bool b
  | .string s => .str s.data.toList
  | .pointer none => .nilp
  | .nilFunc => .nilf
  | .nilIface => .nili
  | .map none => .imap (false, []) []
  | _ => .dead
def rootOf : PV → Option Nat
  | .loc r _ _ => some r
  | .eloc r _ _ _ _ => some r
  | .snap r _ _ _ _ => some r
  | .back _ r _ _ _ _ => some r
  | .pvar r _ => some r
  | .mref r _ _ => some r
  | _ => none
/-- The package variables that nobody writes: what they hold. -/
def globPV (g : Nat) : PV :=
  match g with
  | 3 => .iptr ((List.range 20).map fun k => .int .u64 (10 ^ k : Nat)) 0
  | _ => .dead
abbrev Env := Nat → PV
/-- The slot that no operand names: in a function that writes into a row of its caller's, that row. -/
def VS : Nat := 1000001
def opv (e : Env) : Operand → PV
  | .tmp t => if t = VS then .dead else e t
  | .const v => constPV v
  | .global g => globPV g
  | .func f => .func f []
/-- What an operation sees of an operand: its value, and the value of the slot that it speaks of. -/
def res (e : Env) (x : Operand) : PV × PV :=
  let v := opv e x
  (v, match rootOf v with | some r => e r | none => .dead)
/-- The owned row at a place of a slot. -/
def rowAt? (root : PV) (pl : Option Nat) : Option (Stamp × Nat × List (List PV)) :=
  match pl, root with
  | none, .own st sz xs => some (st, sz, xs)
  | some c, .box _ cs => match cs[c]? with
    | some (.own st sz xs) => some (st, sz, xs)
    | _ => none
  | _, _ => none
/-- The row at a place, if it is still the one that was meant. -/
def rowIf (root : PV) (pl : Option Nat) (st : Stamp) : Option (Nat × List (List PV)) :=
  match rowAt? root pl with
  | some (st', sz, xs) => if st' = st then some (sz, xs) else none
  | none => none
/-- The map at a place of a slot. -/
def mapAt? (root : PV) (pl : Option Nat) : Option (Stamp × MKeys × List (List PV)) :=
  match pl, root with
  | none, .omap st ks vs => some (st, ks, vs)
  | some c, .box _ cs => match cs[c]? with
    | some (.omap st ks vs) => some (st, ks, vs)
    | _ => none
  | _, _ => none
def mapIf (root : PV) (pl : Option Nat) (st : Stamp) : Option (MKeys × List (List PV)) :=
  match mapAt? root pl with
  | some (st', ks, vs) => if st' = st then some (ks, vs) else none
  | none => none
/-- The slot's value with another cell at the place. -/
def putAt (root : PV) (pl : Option Nat) (v : PV) : PV :=
  match pl, root with
  | none, _ => v
  | some c, .box st cs => .box st (cs.set c v)
  | some _, r => r
/-- The plain value of an operand, for reading; none where it owns more than a row, or speaks of a variable. -/
def view (vr : PV × PV) : Option PV :=
  match vr.1 with
  | .own _ sz xs => some (.imm sz xs)
  | .nils sz => some (.imm sz [])
  | .snap _ pl st off len => match rowIf vr.2 pl st with
    | some (sz, xs) => some (.imm sz ((xs.drop off).take len))
    | none => none
  | .agg cs => some (.agg (cs.map frzC))
  | v => if okC v then some v else none
abbrev Ups := List (Nat × PV)
/-- Behind a lasting copy of an operand nothing of it may be written: the updates that see to this. -/
def freezeUps (x : Operand) (vr : PV × PV) : Option Ups :=
  match vr.1 with
  | .own _ sz xs => match x with
    | .tmp t => some [(t, .imm sz xs)]
    | _ => none
  | .snap r pl st _ _ => match rowIf vr.2 pl st with
    | some (sz, xs) => some [(r, putAt vr.2 pl (.imm sz xs))]
    | none => none
  | .agg _ => some []
  | v => if okC v then some [] else none
def cellsOf : PV → List PV
  | .agg cs => cs
  | v => [v]
/-- The cells of a value that lasts, nothing owned. -/
def cellsFrozen (x : Operand) (vr : PV × PV) : Option (List PV × Ups) :=
  match view vr, freezeUps x vr with
  | some v, some u => some (cellsOf v, u)
  | _, _ => none
/-- The cells of a value that goes into a variable: an owned row is handed over. -/
def cellsOfVal (p : Stamp) (x : Operand) (vr : PV × PV) : Option (List PV × Ups) :=
  match vr.1 with
  | .own _ sz xs => match x with
    | .tmp t => some ([.own p sz xs], [(t, .dead)])
    | _ => none
  | .nils sz => some ([.nils sz], [])
  | .agg cs => some (cs, [])
  | _ => cellsFrozen x vr
section
variable (P : Program)
def elemT (t : TypeId) : Option TypeId :=
  match P.underlying t with
  | some (.slice e) => some e
  | _ => none
def sizeT (t : TypeId) : Option Nat := (P.info? t).map (·.size)
def bytesT (t : TypeId) : Option Nat := (P.info? t).map (·.bytes)
/-- The cells and bytes of a slice type's element. -/
def rowT (t : TypeId) : Option (Nat × Nat) :=
  match elemT P t with
  | some e => match sizeT P e, bytesT P e with
    | some n, some b => some (n, b)
    | _, _ => none
  | none => none
def isAggT (t : TypeId) : Option Bool :=
  match P.underlying t with
  | some (.struct _) | some (.array _ _) => some true
  | some _ => some false
  | none => none
/-- The zero value's cells, out of the type. -/
def zeroOf : Nat → TypeId → Option (List PV)
  | 0, _ => none
  | n + 1, t => match P.underlying t with
    | some (.int k) => some [.int k 0]
    | some .bool => some [.bool false]
    | some .string => some [.str []]
    | some (.slice e) => (sizeT P e).map fun s => [.nils s]
    | some (.pointer _) => some [.nilp]
    | some (.func ..) => some [.nilf]
    | some (.interface _) => some [.nili]
    | some (.map _ e) => (isAggT P e).map fun a => [.imap (a, []) []]
    | some (.struct fs) => fs.toList.foldr (fun f r => match zeroOf n f.type, r with | some a, some b => some (a ++ b) | _, _ => none) (some [])
    | some (.array len e) => (zeroOf n e).map fun a => (List.replicate len a).flatten
    | _ => none
def zeroFits : List Value → List PV → Bool
  | [], [] => true
  | .int k 0 :: vs, .int k' 0 :: ps => k = k' && zeroFits vs ps
  | .bool false :: vs, .bool false :: ps => zeroFits vs ps
  | .string s :: vs, .str [] :: ps => s.data.toList.isEmpty && zeroFits vs ps
  | .slice none 0 0 :: vs, .nils _ :: ps => zeroFits vs ps
  | .pointer none :: vs, .nilp :: ps => zeroFits vs ps
  | .nilFunc :: vs, .nilf :: ps => zeroFits vs ps
  | .nilIface :: vs, .nili :: ps => zeroFits vs ps
  | .map none :: vs, .imap (_, []) [] :: ps => zeroFits vs ps
  | _, _ => false
def zeroT (t : TypeId) : Option (List PV) :=
  match zeroOf P 8 t, (P.info? t).bind (·.zero) with
  | some ps, some z => if zeroFits z.cells.toList ps then some ps else none
  | _, _ => none
/-- The field of a struct: its place, its size, is it a struct or an array. -/
def fieldT (s : TypeId) (f : Nat) : Option (Nat × Nat × Bool × TypeId) :=
  match P.underlying s with
  | some (.struct fs) => match fs[f]? with
    | some fl => match sizeT P fl.type, isAggT P fl.type with
      | some n, some a => some (fl.offset, n, a, fl.type)
      | _, _ => none
    | none => none
  | _ => none
/-- The elements of an array type: how many, of how many cells each, struct or array. -/
def arrT (t : TypeId) : Option (Nat × Nat × Bool) :=
  match P.underlying t with
  | some (.array len e) => match sizeT P e, isAggT P e with
    | some n, some a => some (len, n, a)
    | _, _ => none
  | _ => none
/-- A literal nil is a row of the type's elements. -/
def hint (t : TypeId) (x : Operand) (vr : PV × PV) : PV × PV :=
  match x with
  | .const (.slice none 0 0) => match rowT P t with
    | some (n, _) => (.nils n, .dead)
    | none => vr
  | _ => vr
end
/-- Where an address leads: a slot's variable from a cell on, an element of a slot's row, or memory that is never written. -/
inductive Place where
  | var (r : Nat) (st : Stamp) (cs : List PV) (o : Nat)
  | elem (r : Nat) (pl : Option Nat) (root : PV) (st : Stamp) (sz : Nat) (xs : List (List PV)) (i k : Nat)
  | fixed (cs : List PV) (o : Nat)
def placeOf (x : Operand) (vr : PV × PV) : Option Place :=
  match vr.1 with
  | .box st cs => match x with
    | .tmp t => some (.var t st cs 0)
    | _ => none
  | .loc r st o => match vr.2 with
    | .box st' cs => if st' = st then some (.var r st cs o) else none
    | _ => none
  | .eloc r pl st i k => match rowIf vr.2 pl st with
    | some (sz, xs) => some (.elem r pl vr.2 st sz xs i k)
    | none => none
  | .iptr cs o => some (.fixed cs o)
  | _ => none
/-- The cells at a place, how many are wanted. -/
def Place.cells (pl : Place) (n : Nat) : Option (List PV) :=
  match pl with
  | .var _ _ cs o => if o + n ≤ cs.length then some ((cs.drop o).take n) else none
  | .elem _ _ _ _ _ xs i k => match xs[i]? with
    | some c => if k + n ≤ c.length then some ((c.drop k).take n) else none
    | none => none
  | .fixed cs o => if o + n ≤ cs.length then some ((cs.drop o).take n) else none
/-- No slot twice. -/
def nodupB : List Nat → Bool
  | [] => true
  | x :: l => !l.contains x && nodupB l
def splice (cs new : List PV) (o : Nat) : List PV := cs.take o ++ new ++ cs.drop (o + new.length)
/-- A pointer variable: what it leads to. -/
def loadP (ty : Nat × Bool) (d : Nat) (vr : PV × PV) : Option Ups :=
  match vr.1 with
  | .pvar r st => match vr.2 with
    | .box st' _ => if st' = st ∧ r ≠ d ∧ ty = (1, false) then some [(d, .loc r st 0)] else none
    | _ => none
  | _ => none
def loadS (ty : Nat × Bool) (d : Nat) (x : Operand) (vr : PV × PV) : Option Ups :=
  match placeOf x vr with
  | none => loadP ty d vr
  | some pl => match pl.cells ty.1 with
    | none => none
    | some cs =>
      if ty.2 then
        if cs.all okC then some [(d, .agg cs)]
        else match pl with
          | .var r st all o => if r = d ∨ ¬ (cs.map frzO).all okC then none else some [(r, .box st (splice all (cs.map frzO) o)), (d, .agg (cs.map frzO))]
          | _ => none
      else match cs with
        | [.own st _ xs] => match pl with
          | .var r _ _ o => some [(d, .snap r (some o) st 0 xs.length)]
          | _ => none
        | [.omap st _ _] => match pl with
          | .var r _ _ o => some [(d, .mref r (some o) st)]
          | _ => none
        | [c] => if okC c then some [(d, c)] else none
        | _ => none
/-- The cells of a value that is stored: with frz, its rows are written by nobody any more. -/
def cellsV (frz : Bool) (p : Stamp) (x : Operand) (vr : PV × PV) : Option (List PV × Ups) := if frz then cellsFrozen x vr else cellsOfVal p x vr
def storeS (frz : Bool) (p : Stamp) (n : Nat) (x : Operand) (vx : PV × PV) (y : Operand) (vy : PV × PV) : Option Ups :=
  match placeOf x vx with
  | some (.var r st cs o) => match cellsV frz p y vy with
    | some (new, u) => if new.length = n ∧ o + n ≤ cs.length ∧ nodupB (r :: u.map (·.1)) then some ((r, .box st (splice cs new o)) :: u) else none
    | none => none
  | some (.elem r pl root st sz xs i k) => match cellsFrozen y vy with
    | some (new, u) => match xs[i]? with
      | some c => if new.length = n ∧ k + n ≤ c.length ∧ nodupB (r :: u.map (·.1)) then some ((r, putAt root pl (.own st sz (xs.set i (splice c new k)))) :: u) else none
      | none => none
    | none => none
  | _ => none
/-- The address of a variable goes into a pointer variable, for good. -/
def storeP (n : Nat) (x : Operand) (vx : PV × PV) (y : Operand) (vy : PV × PV) : Option Ups :=
  match x, vx.1 with
  | .tmp t, .box _ [.nilp] =>
    if n = 1 then match vy.1 with
      | .box st _ => match y with
        | .tmp s => if s ≠ t then some [(t, .pvar s st)] else none
        | _ => none
      | .loc r st 0 => match vy.2 with
        | .box st' _ => if st' = st ∧ r ≠ t then some [(t, .pvar r st)] else none
        | _ => none
      | _ => none
    else none
  | _, _ => none
def storeQ (frz : Bool) (p : Stamp) (n : Nat) (x : Operand) (vx : PV × PV) (y : Operand) (vy : PV × PV) : Option Ups :=
  match storeP n x vx y vy with
  | some u => some u
  | none => storeS frz p n x vx y vy
def addrS (d : Nat) (off : Nat) (x : Operand) (vr : PV × PV) : Option Ups :=
  match vr.1 with
  | .box st _ => match x with
    | .tmp t => some [(d, .loc t st off)]
    | _ => none
  | .loc r st o => match vr.2 with
    | .box st' _ => if st' = st then some [(d, .loc r st (o + off))] else none
    | _ => none
  | .eloc r pl st i k => match rowIf vr.2 pl st with
    | some _ => some [(d, .eloc r pl st i (k + off))]
    | none => none
  | .iptr cs o => some [(d, .iptr cs (o + off))]
  | _ => none
/-- The address of an element of a slice. -/
def indexS (d sz : Nat) (x : Operand) (vr : PV × PV) (i : Int) : Option Ups :=
  match vr.1 with
  | .own st sz' xs => match x with
    | .tmp t => if t ≠ d ∧ sz' = sz ∧ 0 ≤ i ∧ i < xs.length then some [(d, .eloc t none st i.toNat 0)] else none
    | _ => none
  | .snap r pl st off len => match rowIf vr.2 pl st with
    | some (sz', _) => if r ≠ d ∧ sz' = sz ∧ 0 ≤ i ∧ i < len then some [(d, .eloc r pl st (off + i.toNat) 0)] else none
    | none => none
  | .imm sz' xs => if sz' = sz ∧ 0 < sz ∧ 0 ≤ i then match xs[i.toNat]? with
      | some c => some [(d, .iptr c 0)]
      | none => none
    else none
  | _ => none
def bndS (hi : Nat) (v : Option PV) (dflt : Nat) : Option Nat :=
  match v with
  | none => some dflt
  | some (.int _ n) => if 0 ≤ n ∧ n ≤ hi then some n.toNat else none
  | some _ => none
def sliceS (d : Nat) (n : Option Nat) (x : Operand) (vr : PV × PV) (lo hi : Option PV) : Option Ups :=
  match vr.1 with
  | .str s => if n.isSome then none else match bndS s.length hi s.length with
    | some h => match bndS h lo 0 with
      | some l => some [(d, .str ((s.drop l).take (h - l)))]
      | none => none
    | none => none
  | .imm sz xs => if n ≠ some sz then none else match bndS xs.length hi xs.length with
    | some h => match bndS h lo 0 with
      | some l => some [(d, .imm sz ((xs.drop l).take (h - l)))]
      | none => none
    | none => none
  | .nils sz => if n ≠ some sz then none else match bndS 0 hi 0 with
    | some h => match bndS h lo 0 with
      | some _ => some [(d, .nils sz)]
      | none => none
    | none => none
  | .own st sz xs => match x with
    | .tmp t => if n ≠ some sz then none else match bndS xs.length hi xs.length with
      | some h => match bndS h lo 0 with
        | some l => some [(d, .snap t none st l (h - l))]
        | none => none
      | none => none
    | _ => none
  | .snap r pl st off len => match rowIf vr.2 pl st with
    | none => none
    | some (sz, _) => if n ≠ some sz then none else match bndS len hi len with
      | some h => match bndS h lo 0 with
        | some l => some [(d, .snap r pl st (off + l) (h - l))]
        | none => none
      | none => none
  | _ => none
def bytesPV (s : List UInt8) : List (List PV) := s.map fun b => [.int .u8 b.toNat]
/-- The bytes that a row of bytes holds. -/
def bytesOf? : List (List PV) → Option (List UInt8)
  | [] => some []
  | [.int .u8 n] :: r => if 0 ≤ n ∧ n < 256 then (bytesOf? r).map (UInt8.ofNat n.toNat :: ·) else none
  | _ => none
/-- What is appended to: the row, and what becomes of its place. -/
def appendTo (x : Operand) (vr : PV × PV) : Option (Nat × List (List PV) × Ups) :=
  match vr.1 with
  | .own _ sz xs => match x with
    | .tmp t => some (sz, xs, [(t, .dead)])
    | _ => none
  | .nils sz => some (sz, [], [])
  | .snap r pl st 0 len => match rowIf vr.2 pl st with
    | some (sz, xs) => some (sz, xs.take len, [(r, putAt vr.2 pl .dead)])
    | none => none
  | _ => none
def appended (vr : PV × PV) : Option (Nat × List (List PV)) :=
  match view vr with
  | some (.imm sz ys) => some (sz, ys)
  | some (.str s) => some (1, bytesPV s)
  | _ => none
def appendS (p : Stamp) (d : Nat) (t : Nat × Nat) (x : Operand) (vx : PV × PV) (vy : PV × PV) : Option Ups :=
  match appendTo x vx with
  | none => none
  | some (sz, xs, u) => match appended vy with
    | none => none
    | some (sz', ys) =>
      if sz = t.1 ∧ sz' = t.1 ∧ 0 < t.1 ∧ (xs.length + ys.length) * t.2 ≤ 140737488355328 ∧ xs.length + ys.length ≤ 140737488355328 then
        if nodupB ((u.map (·.1)) ++ [d]) then some (u ++ [(d, .own p sz (xs ++ ys))]) else none
      else none
def appT : Option TypeDesc → Bool
  | some .string | some (.slice _) => true
  | _ => false
def lenOK (v : PV) (t : Option TypeDesc) : Bool :=
  match t with
  | some .string => (match v with | .str _ => true | _ => false)
  | some (.slice _) => (match v with | .str _ => false | _ => true)
  | _ => false
def lenV (vr : PV × PV) : Option Nat :=
  match vr.1 with
  | .str s => some s.length
  | .imm _ xs => some xs.length
  | .own _ _ xs => some xs.length
  | .nils _ => some 0
  | .snap _ pl st _ len => match rowIf vr.2 pl st with
    | some _ => some len
    | none => none
  | _ => none
/-- An argument of a call: its plain value and the updates by which it is frozen, or a variable that the callee may write. -/
def argS (x : Operand) (vr : PV × PV) : Option (PV × Ups × Option (Nat × Stamp)) :=
  match vr.1 with
  | .box st cs => match x with
    | .tmp t => some (.box (0, 0) (cs.map (stC (0, 0))), [], some (t, st))
    | _ => none
  | .loc r st 0 => match vr.2 with
    | .box st' cs => if st' = st then some (.box (0, 0) (cs.map (stC (0, 0))), [], some (r, st)) else none
    | _ => none
  | _ => match view vr, freezeUps x vr with
    | some v, some u => some (v, u, none)
    | _, _ => none
def argsS : List (Operand × (PV × PV)) → Option (List PV × Ups × List (Nat × Stamp))
  | [] => some ([], [], [])
  | (x, vr) :: l => match argS x vr, argsS l with
    | some (v, u, b), some (vs, us, bs) => some (v :: vs, u ++ us, b.toList ++ bs)
    | _, _ => none
def scalar1 : PV → Bool
  | .int .. | .bool _ | .str _ | .nilp | .nilf | .nili | .ifi .. | .erri => true
  | _ => false
def scalar : PV → Bool
  | .tup vs => vs.all scalar1
  | v => scalar1 v
def backS (p : Stamp) : List (Nat × Stamp) → List (List PV) → Option Ups
  | [], [] => some []
  | (r, st) :: bs, cs :: os => (backS p bs os).map ((r, .box st (cs.map (stC p))) :: ·)
  | _, _ => none
def dstUps (p : Stamp) (d : Option Nat) (r : PV) : Ups := match d with | some d => [(d, stm p r)] | none => []
def callS (Φ : FuncId → List PV → Option (PV × List (List PV))) (p : Stamp) (d : Option Nat) (f : FuncId) (l : List (Operand × (PV × PV))) (caps : List PV) : Option Ups :=
  match argsS l with
  | none => none
  | some (vs, us, bs) => match Φ f (vs ++ caps) with
    | none => none
    | some (r, outs) => match backS p bs outs with
      | none => none
      | some ub =>
        let uf := if scalar r && bs.isEmpty then [] else us
        if nodupB ((uf ++ ub ++ dstUps p d r).map (·.1)) then some (uf ++ ub ++ dstUps p d r) else none
/-- The functions that write into the row that is their first argument. -/
def wrB (g : FuncId) : Bool := g == 225 || g == 243 || g == 244
/-- No operand leads to the slot's memory. -/
def rowOnly (r : Nat) (l : List (Operand × (PV × PV))) : Bool := l.all fun q => (match q.1 with | .tmp t => t != r | _ => true) && (match rootOf q.2.1 with | some r' => r' != r | none => true)
/-- A row of plain cells. -/
def flat1 (xs : List (List PV)) : Bool := xs.all fun c => c.all scalar1
/-- A call that writes into a row of the caller's. -/
def callWS (Φ : FuncId → List PV → Option (PV × List (List PV))) (p : Stamp) (d : Option Nat) (f : FuncId) (l : List (Operand × (PV × PV))) (caps : List PV) : Option Ups :=
  match l, caps with
  | (_, vr) :: l, [] => match vr.1 with
    | .snap r none st off len => match vr.2 with
      | .own st' sz xs => match argsS l with
        | some (vs, _, []) => match Φ f (.own (0, 0) sz ((xs.drop off).take len) :: vs) with
          | some (rv, new) =>
            if st' = st ∧ scalar rv = true ∧ off + len ≤ xs.length ∧ 0 < len ∧ new.length = len ∧ new.all (fun c => c.length == sz && c.all scalar1) = true ∧ rowOnly r l = true ∧ d ≠ some r ∧ flat1 xs = true then
              some ((r, .own st sz (xs.take off ++ new ++ xs.drop (off + len))) :: dstUps p d rv)
            else none
          | none => none
        | _ => none
      | _ => none
    | _ => none
  | _, _ => none
/-- slices.Backward: the function that it returns. -/
def bkG (g : FuncId) : Option FuncId := if g = 145 then some 173 else none
/-- .. and the iterators that they return. -/
def itB (g : FuncId) : Bool := g == 173
def callBS (d : Option Nat) (g' : FuncId) (l : List (Operand × (PV × PV))) (caps : List PV) : Option Ups :=
  match d, l, caps with
  | some d, [(_, vr)], [] => match vr.1 with
    | .snap r pl st off len => match rowIf vr.2 pl st with
      | some (1, _) => if r ≠ d then some [(d, .back g' r pl st off len)] else none
      | _ => none
    | _ => none
  | _, _, _ => none
/-- The functions that return a first part of their one argument, a row. -/
def prB (g : FuncId) : Bool := g == 199
def callPS (Φ : FuncId → List PV → Option (PV × List (List PV))) (d : Option Nat) (f : FuncId) (l : List (Operand × (PV × PV))) (caps : List PV) : Option Ups :=
  match d, l, caps with
  | some d, [(x, vr)], [] => match vr.1 with
    | .snap r none st off len => match vr.2 with
      | .own st' sz xs => match Φ f [.own (0, 0) sz ((xs.drop off).take len)] with
        | some (.int .i64 m, []) => if st' = st ∧ r ≠ d ∧ 0 ≤ m ∧ m ≤ len ∧ off + len ≤ xs.length ∧ flat1 xs = true then some [(d, .snap r none st off m.toNat)] else none
        | _ => none
      | _ => none
    | .own st sz xs => match x with
      | .tmp t => match Φ f [.own (0, 0) sz xs] with
        | some (.int .i64 m, []) => if t ≠ d ∧ 0 ≤ m ∧ m ≤ xs.length ∧ flat1 xs = true then some [(d, .snap t none st 0 m.toNat)] else none
        | _ => none
      | _ => none
    | _ => none
  | _, _, _ => none
def cmpI (op : BinOp) (a b : Int) : Option Bool :=
  match op with
  | .eql => some (a == b)
  | .neq => some (a != b)
  | .lss => some (decide (a < b))
  | .leq => some (decide (a ≤ b))
  | .gtr => some (decide (a > b))
  | .geq => some (decide (a ≥ b))
  | _ => none
def bitsI (op : BinOp) (k : IntKind) (x y : Int) : Option Int :=
  let a := BitVec.ofInt k.bits x
  let b := BitVec.ofInt k.bits y
  match op with
  | .and => some (k.wrap (a &&& b).toNat)
  | .or => some (k.wrap (a ||| b).toNat)
  | .xor => some (k.wrap (a ^^^ b).toNat)
  | .andNot => some (k.wrap (a &&& ~~~b).toNat)
  | _ => none
def arithI (op : BinOp) (k : IntKind) (a b : Int) : Option PV :=
  match op with
  | .add => some (.int k (k.wrap (a + b)))
  | .sub => some (.int k (k.wrap (a - b)))
  | .mul => some (.int k (k.wrap (a * b)))
  | .quo => if b = 0 then none else some (.int k (k.wrap (a.tdiv b)))
  | .rem => if b = 0 then none else some (.int k (a.tmod b))
  | .and | .or | .xor | .andNot => (bitsI op k a b).map (.int k ·)
  | .shl | .shr => none
  | _ => (cmpI op a b).map .bool
def shiftI (op : BinOp) (k : IntKind) (a b : Int) : Option PV :=
  if b < 0 then none else
    match op with
    | .shl => some (.int k (k.wrap (a * 2 ^ (min b.toNat k.bits))))
    | .shr => some (.int k (a.fdiv (2 ^ (min b.toNat k.bits))))
    | _ => none
def strI (op : BinOp) (a b : List UInt8) : Option PV :=
  match op with
  | .add => if a.length + b.length ≤ 9223372036854775807 then some (.str (a ++ b)) else none
  | .eql => some (.bool (a == b))
  | .neq => some (.bool (!(a == b)))
  | .lss => some (.bool (Op.bytesLess a b))
  | .leq => some (.bool (Op.bytesLess a b || a == b))
  | .gtr => some (.bool (!(Op.bytesLess a b || a == b)))
  | .geq => some (.bool (!(Op.bytesLess a b)))
  | _ => none
section
variable (P : Program)
/-- Two values of a type are compared: ints, bools, strings, structs of these. -/
def eqT : Nat → TypeId → List PV → List PV → Option Bool
  | 0, _, _, _ => none
  | n + 1, t, xs, ys =>
    match P.underlying t with
    | some .bool => match xs, ys with
      | [.bool a], [.bool b] => some (a == b)
      | _, _ => none
    | some (.int _) => match xs, ys with
      | [.int k a], [.int k' b] => if k = k' then some (a == b) else none
      | _, _ => none
    | some .string => match xs, ys with
      | [.str a], [.str b] => some (a == b)
      | _, _ => none
    | some (.struct fs) =>
      if P.stoodInHeld t then none else
      fs.toList.foldr (fun f r =>
        if f.name = "_" then r else
        match sizeT P f.type, isAggT P f.type with
        | some m, some a =>
          if f.offset + m ≤ xs.length ∧ f.offset + m ≤ ys.length ∧ (a = true ∨ m = 1) then
            match eqT n f.type ((xs.drop f.offset).take m) ((ys.drop f.offset).take m), r with
            | some b, some c => some (b && c)
            | _, _ => none
          else none
        | _, _ => none) (some true)
    | _ => none
def eqS (t : TypeId) (x y : PV) : Option Bool :=
  match x, y with
  | .bool a, .bool b => match P.underlying t with
    | some .bool => some (a == b)
    | _ => none
  | .agg xs, .agg ys => if P.eqGuardType P.depth t then none else if isAggT P t = some true then eqT P 8 t xs ys else none
  | _, _ => none
def binS (op : BinOp) (t : TypeId) (x y : PV) : Option PV :=
  match x, y with
  | .int k a, .int k' b => match op with
    | .shl | .shr => shiftI op k a b
    | _ => if k = k' then arithI op k a b else none
  | .str a, .str b => strI op a b
  | x, y => match op with
    | .eql => (eqS P t x y).map .bool
    | .neq => (eqS P t x y).map fun b => .bool (!b)
    | _ => none
/-- Comparing with nil, and of small errors. -/
def ifcS (t : TypeId) (cs : Bool) (x y : PV) : Option Bool :=
  match P.underlying t with
  | some (.interface _) => match x, y with
    | .nili, .nili => if cs then some true else none
    | .ifi .., .nili | .nili, .ifi .. | .erri, .nili | .nili, .erri => some false
    | .ifi t k n, .ifi t' k' n' =>
      if t = t' then match P.info? t, P.underlying t with
        | some i, some (.int _) => if i.comparable = true ∧ k = k' then some (n == n') else none
        | _, _ => none
      else some false
    | _, _ => none
  | some (.pointer _) => match x, y with
    | .nilp, .nilp => some true
    | .iptr .., .nilp | .nilp, .iptr .. => some false
    | _, _ => none
  | _ => none
def unS (op : UnOp) (x : PV) : Option PV :=
  match op, x with
  | .neg, .int k n => some (.int k (k.wrap (0 - n)))
  | .not, .bool b => some (.bool (!b))
  | _, _ => none
def convS (src dst : TypeId) (x : PV) : Option PV :=
  match P.underlying src, P.underlying dst, x with
  | some (.int _), some (.int k), .int _ n => some (.int k (k.wrap n))
  | some .string, some .string, .str s => some (.str s)
  | some .string, some (.slice e), .str s => match P.underlying e with
    | some (.int .u8) => if s.length ≤ 9223372036854775807 then some (.imm 1 (bytesPV s)) else none
    | _ => none
  | some (.slice e), some .string, .imm _ xs => match P.underlying e with
    | some (.int .u8) => (bytesOf? xs).map .str
    | _ => none
  | _, _, _ => none
end
def constO : Operand → Bool
  | .const _ => true
  | _ => false
def setMany (cells : List PV) (o : Nat) (new : List PV) : Option (List PV) :=
  if o + new.length ≤ cells.length then some (splice cells new o) else none
def partS (x : Operand) (vr : PV × PV) : Option (List PV × Ups) :=
  match vr.1 with
  | .nils sz => some ([.nils sz], [])
  | .agg cs => some (cs, [])
  | _ => cellsFrozen x vr
/-- The parts of a struct or an array that is built. -/
def buildS (place : Nat → Option (Nat × Nat × TypeId)) (rs : TypeId → Operand → PV × PV) : List (Nat × Operand) → List PV → Option (List PV × Ups)
  | [], cells => some (cells, [])
  | (i, x) :: l, cells => match place i with
    | none => none
    | some (o, n, t) => match partS x (rs t x) with
      | none => none
      | some (new, u) =>
        if new.length = n ∧ o + n ≤ cells.length then
          match buildS place rs l (splice cells new o) with
          | some (cs, us) => some (cs, u ++ us)
          | none => none
        else none
/-- A struct with rows and maps that the call holds: a cell tells the slot that it comes from. -/
def partO (x : Operand) (vr : PV × PV) : Option (List PV) :=
  match vr.1 with
  | .omap .. | .own .. => match x with
    | .tmp s => some [.loc s (0, 0) 0]
    | _ => none
  | .agg cs => if cs.all okC then some cs else none
  | v => if okC v then some [v] else none
def fillO (place : Nat → Option (Nat × Nat × TypeId)) (rs : TypeId → Operand → PV × PV) : List (Nat × Operand) → List PV → Option (List PV)
  | [], cells => some cells
  | (i, x) :: l, cells => match place i with
    | none => none
    | some (o, n, t) => match partO x (rs t x) with
      | none => none
      | some new => if new.length = n ∧ o + n ≤ cells.length then fillO place rs l (splice cells new o) else none
def slotsO : List PV → List Nat
  | [] => []
  | .loc s _ _ :: l => s :: slotsO l
  | _ :: l => slotsO l
def putO (p : Stamp) (rs : Operand → PV × PV) : PV → PV
  | .loc s _ _ => stC p (rs (.tmp s)).1
  | c => c
def buildO (p : Stamp) (d : Nat) (pl : Option (List (Nat × Nat × TypeId))) (rs : Operand → PV × PV) (rsh : TypeId → Operand → PV × PV) (parts : List (Nat × Operand)) (zs : List PV) : Option Ups :=
  match pl with
  | some l => match fillO (fun i => l[i]?) rsh parts zs with
    | some cs => if nodupB (slotsO cs ++ [d]) then some ((slotsO cs).map (fun s => (s, .dead)) ++ [(d, .oagg (cs.map (putO p rs)))]) else none
    | none => none
  | none => none
def boxO (p : Stamp) (d n : Nat) (x : Operand) (v : PV) : Option Ups :=
  match x, v with
  | .tmp s, .oagg cs => if s ≠ d ∧ cs.length = n then some [(s, .dead), (d, .box p (cs.map (stC p)))] else none
  | _, _ => none
/-- The elements of a slice literal. -/
def elemsS (n : Nat) (rs : Operand → PV × PV) : List (Nat × Operand) → List (List PV) → Option (List (List PV) × Ups)
  | [], xs => some (xs, [])
  | (i, x) :: l, xs => match cellsFrozen x (rs x) with
    | none => none
    | some (new, u) =>
      if new.length = n ∧ i < xs.length then
        match elemsS n rs l (xs.set i new) with
        | some (ys, us) => some (ys, u ++ us)
        | none => none
      else none
/-- A value that is moved or assigned. -/
def moveS (assign : Bool) (keep : List Nat) (p : Stamp) (d : Nat) (x : Operand) (vr : PV × PV) : Option Ups :=
  match vr.1 with
  | .own st sz xs => match x with
    | .tmp t => if t = d then none else if assign then some [(t, .dead), (d, .own p sz xs)] else some [(d, .snap t none st 0 xs.length)]
    | _ => none
  | .box st cs => match x with
    | .tmp t => if t = d then none else if assign then some [(t, .dead), (d, .box p (cs.map (stC p)))] else some [(d, .loc t st 0)]
    | _ => none
  | .tup vs => match x with
    | .tmp t => if t = d then none else some [(t, .dead), (d, stm p (.tup vs))]
    | _ => none
  | .snap r pl st off len =>
    if assign && !(r == VS) then
      match rowIf vr.2 pl st with
      | none => none
      | some (sz, xs) =>
        if r = d then
          if off = 0 ∧ pl = none then some [(d, .own p sz (xs.take len))] else none
        else if off = 0 ∧ pl = none ∧ keep.contains d then some [(r, .dead), (d, .own p sz (xs.take len))]
        else some [(r, putAt vr.2 pl (.imm sz xs)), (d, .imm sz ((xs.drop off).take len))]
    else some [(d, vr.1)]
  | .loc .. | .eloc .. => some [(d, vr.1)]
  | .mref r pl st =>
    if assign && keep.contains d then
      match pl, vr.2 with
      | none, .omap st' ks vs => if st' = st ∧ r ≠ d then some [(r, .dead), (d, .omap p ks vs)] else none
      | _, _ => none
    else some [(d, vr.1)]
  | .omap st ks vs => match x with
    | .tmp t => if t = d then none else if assign then some [(t, .dead), (d, .omap p ks vs)] else some [(d, .mref t none st)]
    | _ => none
  | .agg cs => some [(d, .agg cs)]
  | v => if okC v then some [(d, v)] else none
/-! Maps -/
def mapGet : List (List UInt8) → List (List PV) → List UInt8 → Option (List PV)
  | k :: ks, v :: vs, x => if k = x then some v else mapGet ks vs x
  | _, _, _ => none
def mapPut : List (List UInt8) → List (List PV) → List UInt8 → List PV → List (List UInt8) × List (List PV)
  | k :: ks, v :: vs, x, c => if k = x then (k :: ks, c :: vs) else (k :: (mapPut ks vs x c).1, v :: (mapPut ks vs x c).2)
  | _, _, x, c => ([x], [c])
def mapOf (vr : PV × PV) : Option (MKeys × List (List PV)) :=
  match vr.1 with
  | .imap ks vs => some (ks, vs)
  | .omap _ ks vs => some (ks, vs)
  | .mref _ pl st => mapIf vr.2 pl st
  | _ => none
def rowVal (ag : Bool) (r : List PV) : Option PV := if ag then some (.agg r) else match r with | [c] => some c | _ => none
def valRow (ag : Bool) (v : PV) : Option (List PV) :=
  match v with
  | .agg cs => if ag then some cs else none
  | v => if okC v && !ag then some [v] else none
def lookupS (t : Bool × List PV) (d : Nat) (ok : Bool) (vx : PV × PV) (key : PV) : Option Ups :=
  match mapOf vx, key with
  | some (ks, vs), .str k =>
    if ks.1 = t.1 then
      match rowVal t.1 ((mapGet ks.2 vs k).getD t.2) with
      | some v => if ok then some [(d, .tup [v, .bool (mapGet ks.2 vs k).isSome])] else some [(d, v)]
      | none => none
    else none
  | _, _ => none
def mapUpdS (ag : Bool) (x : Operand) (vm : PV × PV) (key v : PV) : Option Ups :=
  match key, valRow ag v with
  | .str k, some c => match vm.1 with
    | .omap st ks vs => match x with
      | .tmp t => if ks.1 = ag then some [(t, .omap st (ag, (mapPut ks.2 vs k c).1) (mapPut ks.2 vs k c).2)] else none
      | _ => none
    | .mref r pl st => match mapIf vm.2 pl st with
      | some (ks, vs) => if ks.1 = ag then some [(r, putAt vm.2 pl (.omap st (ag, (mapPut ks.2 vs k c).1) (mapPut ks.2 vs k c).2))] else none
      | none => none
    | _ => none
  | _, _ => none
/-- A variable's address is assigned, and the variable written by nobody any more. -/
def assignF (keep : List Nat) (d : Nat) (vr : PV × PV) : Option Ups :=
  match vr.1 with
  | .loc r st 0 =>
    if keep.contains (3000000 + d) then
      match vr.2 with
      | .box st' cs => if st' = st ∧ r ≠ d ∧ (cs.map frzO).all okC = true then some [(r, .iptr (cs.map frzO) 0), (d, .iptr (cs.map frzO) 0)] else none
      | _ => none
    else none
  | _ => none
def assignS (keep : List Nat) (p : Stamp) (d : Nat) (x : Operand) (vr : PV × PV) : Option Ups :=
  match assignF keep d vr with
  | some u => some u
  | none => moveS (!keep.contains (2000000 + d)) keep p d x vr
/-- One component of a tuple: what it owns is handed over. -/
def extractS (p : Stamp) (d : Nat) (x : Operand) (vr : PV × PV) (i : Nat) : Option Ups :=
  match vr.1 with
  | .tup vs => match vs[i]? with
    | some v => match v with
      | .own .. | .box .. => match x with
        | .tmp t => if t = d then none else some [(t, .tup (vs.set i .dead)), (d, st1 p v)]
        | _ => none
      | .agg cs => some [(d, .agg cs)]
      | v => if okC v then some [(d, v)] else none
    | none => none
  | _ => none
/-- A field of a struct's value. -/
def fieldS (d : Nat) (vr : PV × PV) (o n : Nat) (a : Bool) : Option Ups :=
  match vr.1 with
  | .agg cs =>
    if o + n ≤ cs.length then
      if a then some [(d, .agg ((cs.drop o).take n))]
      else match (cs.drop o).take n with
        | [c] => some [(d, c)]
        | _ => none
    else none
  | _ => none
/-- A variable whose first cell will hold its own address. -/
def markT (t : TypeId) (cs : List PV) : List PV :=
  match cs with
  | [.nilp, .nils 1] => [.bnil t, .nils 1]
  | _ => cs
/-- A captured variable: nobody writes it any more. -/
def capS : List (Operand × (PV × PV)) → Option (List PV × Ups)
  | [] => some ([], [])
  | (x, vr) :: l => match capS l with
    | none => none
    | some (cs, us) => match vr.1, x with
      | .box _ cells, .tmp t => if (cells.map frzO).all okC then some (.iptr (cells.map frzO) 0 :: cs, (t, .iptr (cells.map frzO) 0) :: us) else none
      | .loc r st 0, _ => match vr.2 with
        | .box st' cells => if st' = st ∧ (cells.map frzO).all okC then some (.iptr (cells.map frzO) 0 :: cs, (r, .iptr (cells.map frzO) 0) :: us) else none
        | _ => none
      | .iptr c o, _ => some (.iptr c o :: cs, us)
      | _, _ => none
section
variable (P : Program) (Φ : FuncId → List PV → Option (PV × List (List PV))) (keep : List Nat)
/-- The places of a struct's fields: where, how many cells, of which type. -/
def placesT (t : TypeId) : Option (List (Nat × Nat × TypeId)) :=
  match P.underlying t with
  | some (.struct fs) => match fs.toList.mapM (fun f => (P.info? f.type).map fun i => (f.offset, i.size)) with
    | some l => some ((l.zip (fs.toList.map (·.type))).map fun q => (q.1.1, q.1.2, q.2))
    | none => none
  | _ => none
def buildP (t : TypeId) (parts : List (Nat × Operand)) (rs : Operand → PV × PV) (zs : List PV) : Option (List PV × Ups) :=
  match arrT P t with
  | some (len, n, _) => buildS (fun i => if i < len then some (i * n, n, t) else none) (fun _ x => rs x) parts zs
  | none => match placesT P t with
    | some l => buildS (fun i => l[i]?) (fun t x => hint P t x (rs x)) parts zs
    | none => none
def callOf (p : Stamp) (o : Oper) (c : Call) (rs : Operand → PV × PV) : Option Ups :=
  let arg (i : Nat) (x : Operand) : PV × PV := hint P (c.argTypes.getD i 0) x (rs x)
  let l := (c.args.toList.zipIdx).map fun (x, i) => (x, arg i x)
  match c.callee with
  | .value f => match (rs f).1 with
    | .func g caps => match bkG g with
      | some g' => callBS o.dst g' l caps
      | none => if wrB g = true then callWS Φ p o.dst g l caps else if prB g = true then callPS Φ o.dst g l caps else callS Φ p o.dst g l caps
    | _ => none
  | .invoke .. => none
  | .builtin .len => match o.dst, l with
    | some d, [(_, vr)] => match lenV vr with
      | some n => if lenOK vr.1 ((c.argTypes[0]?).bind P.underlying) then some [(d, .int .i64 n)] else none
      | none => none
    | _, _ => none
  | .builtin .append => match o.dst, l with
    | some d, [(x, vx), (_, vy)] => match rowT P (c.argTypes.getD 0 0), (elemT P (c.argTypes.getD 0 0)).bind (zeroT P) with
      | some t, some zs => if c.argTypes.size = 2 ∧ zs.length = t.1 ∧ appT ((c.argTypes[1]?).bind P.underlying) = true then appendS p d t x vx vy else none
      | _, _ => none
    | _, _ => none
  | .builtin .max => match o.dst, l with
    | some d, [(_, vx), (_, vy)] => match vx.1, vy.1 with
      | .int k a, .int _ b => some [(d, .int k (if b > a then b else a))]
      | _, _ => none
    | _, _ => none
  | .builtin .min => match o.dst, l with
    | some d, [(_, vx), (_, vy)] => match vx.1, vy.1 with
      | .int k a, .int _ b => some [(d, .int k (if b < a then b else a))]
      | _, _ => none
    | _, _ => none
  | .builtin _ => none
def elemM (t : TypeId) : Option TypeId := match P.underlying t with | some (.map _ e) => some e | _ => none
def zeroAgg (t : TypeId) : Option Bool := match (P.info? t).bind (·.zero) with | some (.agg _) => some true | some _ => some false | none => none
/-- A map type with strings for keys: are the values structs or arrays, the zero value's cells. -/
def mapT (t : TypeId) : Option (Bool × List PV) :=
  match P.underlying t with
  | some (.map k e) => match P.underlying k, isAggT P e, zeroT P e with
    | some .string, some ag, some zs => if (ag = true ∨ zs.length = 1) ∧ zeroAgg P e = some ag then some (ag, zs) else none
    | _, _, _ => none
  | _ => none
/-- A call that reads variables alone: what they hold is told. -/
def viewR (x : Operand) (vr : PV × PV) : Option PV :=
  match vr.1 with
  | .box _ cs => match x with
    | .tmp _ => if (cs.map frzO).all okC then some (.iptr (cs.map frzO) 0) else none
    | _ => none
  | .loc _ st 0 => match vr.2 with
    | .box st' cs => if st' = st ∧ (cs.map frzO).all okC then some (.iptr (cs.map frzO) 0) else none
    | _ => none
  | _ => view vr
def viewsR : List (Operand × (PV × PV)) → Option (List PV)
  | [] => some []
  | (x, vr) :: l => match viewR x vr, viewsR l with
    | some v, some vs => some (v :: vs)
    | _, _ => none
def callR (p : Stamp) (o : Oper) (c : Call) (rs : Operand → PV × PV) : Option Ups :=
  match c.callee with
  | .value f => match (rs f).1 with
    | .func g caps => if (wrB g || prB g) = true then none else match viewsR ((c.args.toList.zipIdx).map fun (x, i) => (x, hint P (c.argTypes.getD i 0) x (rs x))) with
      | some avs => match Φ g (avs ++ caps) with
        | some (r, []) => if scalar r then some (dstUps p o.dst r) else none
        | _ => none
      | none => none
    | _ => none
  | _ => none
def rdB (keep : List Nat) (d : Option Nat) : Bool := match d with | some d => keep.contains (5000000 + d) | none => false
/-- What an operation does to the slots. -/
def sem (p : Stamp) (o : Oper) (rs : Operand → PV × PV) : Option Ups :=
  match o.op, o.dst with
  | .call c, _ => if rdB keep o.dst then callR P Φ p o c rs else callOf P Φ p o c rs
  | .store t x y, none => match sizeT P t with
    | some n => storeQ (keep.contains 1000000) p n x (rs x) y (hint P t y (rs y))
    | none => none
  | .mapUpdate t m k v, none => match mapT P t with
    | some (ag, _) => mapUpdS ag m (rs m) (rs k).1 (hint P ((elemM P t).getD 0) v (rs v)).1
    | none => none
  | _, none => none
  | .move x, some d => moveS false keep p d x (hint P o.type x (rs x))
  | .assign x, some d => assignS keep p d x (hint P o.type x (rs x))
  | .makeMap t none, some d => match mapT P t with
    | some (ag, _) => some [(d, .omap p (ag, []) [])]
    | none => none
  | .lookup t x k ok, some d => match mapT P t with
    | some m => lookupS m d ok (rs x) (rs k).1
    | none => none
  | .pick c a b, some d => match (rs c).1 with
    | .bool t => if t then (match (rs a).1 with | .bool v => some [(d, .bool v)] | _ => none) else (match (rs b).1 with | .bool v => some [(d, .bool v)] | _ => none)
    | _ => none
  | .alloc t, some d => match zeroT P t with
    | some cs => some [(d, .box p (markT t cs))]
    | none => none
  | .box t x, some d => match sizeT P t, partS x (hint P t x (rs x)) with
    | some n, some (cs, u) => if cs.length = n ∧ nodupB ((u.map (·.1)) ++ [d]) then some (u ++ [(d, .box p cs)]) else none
    | some n, none => boxO p d n x (rs x).1
    | _, _ => none
  | .build t parts, some d => match zeroT P t with
    | none => none
    | some zs =>
      if keep.contains (4000000 + d) then buildO p d (placesT P t) rs (fun t x => hint P t x (rs x)) parts.toList zs else
      match buildP P t parts.toList rs zs with
      | some (cs, u) => if nodupB ((u.map (·.1)) ++ [d]) then some (u ++ [(d, .agg cs)]) else none
      | none => none
  | .buildSlice t len parts, some d => match rowT P t, (elemT P t).bind (zeroT P) with
    | some (n, _), some zs =>
      if len * n ≤ 16777216 ∧ 0 < n ∧ zs.length = n then
        match elemsS n (fun x => hint P ((elemT P t).getD 0) x (rs x)) parts.toList (List.replicate len (zs.map frzC)) with
        | some (xs, u) => if nodupB ((u.map (·.1)) ++ [d]) then some (u ++ [(d, .own p n xs)]) else none
        | none => none
      else none
    | _, _ => none
  | .load t x, some d => match sizeT P t, isAggT P t with
    | some n, some a => if a = true ∨ n = 1 then loadS (n, a) d x (rs x) else none
    | _, _ => none
  | .nilCheck x, some d => addrS d 0 x (rs x)
  | .fieldAddr t x f, some d => match fieldT P t f with
    | some (off, n, _, _) => if n = 0 then none else addrS d off x (rs x)
    | none => none
  | .indexAddr t x i, some d => match (rs i).1 with
    | .int _ n => match arrT P t with
      | some (len, s, _) => if 0 ≤ n ∧ n < len then addrS d (n.toNat * s) x (rs x) else none
      | none => match rowT P t with
        | some (s, _) => indexS d s x (rs x) n
        | none => none
    | _ => none
  | .index t x i, some d => match (rs i).1 with
    | .int _ n => match (rs x).1, P.underlying t with
      | .str s, some .string => if 0 ≤ n then (match s[n.toNat]? with | some b => some [(d, .int .u8 b.toNat)] | none => none) else none
      | .agg cs, some (.array _ _) => match arrT P t with
        | some (len, s, a) => if 0 ≤ n ∧ n < len ∧ (a = true ∨ s = 1) then fieldS d (rs x) (n.toNat * s) s a else none
        | none => none
      | _, _ => none
    | _ => none
  | .slice t x lo hi none, some d => match P.underlying t with
    | some .string => sliceS d none x (rs x) (lo.map fun y => (rs y).1) (hi.map fun y => (rs y).1)
    | some (.slice _) => match rowT P t with
      | some (n, _) => sliceS d (some n) x (rs x) (lo.map fun y => (rs y).1) (hi.map fun y => (rs y).1)
      | none => none
    | _ => none
  | .field t x f, some d => match fieldT P t f with
    | some (off, n, a, _) => if a = true ∨ n = 1 then fieldS d (rs x) off n a else none
    | none => none
  | .extract x i, some d => extractS p d x (rs x) i
  | .binOp op t x y _, some d => match binS P op t (rs x).1 (rs y).1 with
    | some v => some [(d, v)]
    | none => match ifcS P t (constO x || constO y) (rs x).1 (rs y).1, op with
      | some b, .eql => some [(d, .bool b)]
      | some b, .neq => some [(d, .bool (!b))]
      | _, _ => none
  | .makeInterface t x, some d => match P.underlying t with
    | none | some (.interface _) => none
    | some (.int _) => match (rs x).1 with
      | .int k n => some [(d, .ifi t k n)]
      | _ => some [(d, .erri)]
    | some _ => some [(d, .erri)]
  | .unOp op _ x, some d => match unS op (rs x).1 with
    | some v => some [(d, v)]
    | none => none
  | .convert s t x, some d => match view (rs x) with
    | some v => match convS P s t v with
      | some v => some [(d, v)]
      | none => none
    | none => none
  | .makeSlice t l c, some d => match rowT P t, (elemT P t).bind (zeroT P), (rs l).1, (rs c).1 with
    | some (n, b), some zs, .int _ l, .int _ c =>
      if 0 ≤ l ∧ l ≤ c ∧ c * b ≤ 140737488355328 ∧ c ≤ 140737488355328 ∧ 0 < n ∧ zs.length = n then some [(d, .own p n (List.replicate l.toNat (zs.map frzC)))] else none
    | _, _, _, _ => none
  | .makeFunc (.func f) first caps, some d =>
    if first.isEmpty then
      match capS (caps.toList.map fun x => (x, rs x)) with
      | some (cs, u) => if nodupB ((u.map (·.1)) ++ [d]) then some (u ++ [(d, .func f cs)]) else none
      | none => none
    else none
  | _, _ => none
end
/-! ### Code -/
def lookup (l : List (Nat × PV)) (s : Nat) : PV :=
  match l with
  | [] => .dead
  | (t, v) :: r => if s = t then v else lookup r s
def apply (ups : Ups) (e : Env) : Env := ups.foldl (fun e (s, v) => fun t => if t = s then v else e t) e
/-- The same on lists: the newest first. -/
def applyL (ups : Ups) (e : List (Nat × PV)) : List (Nat × PV) := ups.foldl (fun e q => q :: e) e
/-- Is an operation carried out? -/
def guardOf (ops : Array Oper) (o : Oper) (e : Env) : Option Bool :=
  match o.guard with
  | none => some true
  | some (j, want) => match (ops[j]?).bind (·.dst) with
    | some d => match opv e (.tmp d) with
      | .bool b => some (b == want)
      | .tup [] => some false
      | _ => none
    | none => none
section
variable (P : Program) (Φ : FuncId → List PV → Option (PV × List (List PV))) (keep : List Nat)
def stepO (ops : Array Oper) (rid i : Nat) (o : Oper) (e : Env) : Option Ups :=
  match guardOf ops o e with
  | none => none
  | some true => sem P Φ keep (rid, i) o (res e)
  | some false => some (match o.dst with | some d => [(d, .tup [])] | none => [])
def runOps (ops : Array Oper) (rid : Nat) : Nat → List Oper → List (Nat × PV) → Option (List (Nat × PV))
  | _, [], e => some e
  | i, o :: r, e => match stepO P Φ keep ops rid i o (lookup e) with
    | some u => runOps ops rid (i + 1) r (applyL u e)
    | none => none
/-- The slots that an operation looks at. -/
def foot (ops : Array Oper) (o : Oper) (e : Env) : List Nat :=
  (o.op.operands.toList.flatMap fun x => (match x with | .tmp t => [t] | _ => []) ++ (match rootOf (opv e x) with | some r => [r] | none => [])) ++
  (match o.guard with | some (j, _) => ((ops[j]?).bind (·.dst)).toList | none => [])
def runLog (ops : Array Oper) (rid : Nat) : Nat → List Oper → List (Nat × PV) → Option (List (Nat × PV) × List (List Nat × List Nat))
  | _, [], e => some (e, [])
  | i, o :: r, e => match stepO P Φ keep ops rid i o (lookup e) with
    | some u => match runLog ops rid (i + 1) r (applyL u e) with
      | some (e', l) => some (e', (foot ops o (lookup e), u.map (·.1)) :: l)
      | none => none
    | none => none
def disj (a b : List Nat) : Bool := a.all fun x => !b.contains x
/-- Operations that may come up in either order do not meet in a slot that one of them writes. -/
def apartB (ops : Array Oper) (l : List (List Nat × List Nat)) : Bool :=
  let bef := Region.before ops
  (l.zipIdx).all fun (x, j) => (l.zipIdx).all fun (y, i) => !(decide (i < j)) || (bef.getD j 0).testBit i || (disj y.2 x.1 && disj y.2 x.2 && disj x.2 y.1)
inductive Ex where
  | normal
  | exit (id : Nat)
  | ret
  deriving DecidableEq
abbrev St := Nat × List (Nat × PV)
def canonV (live : List Nat) (e : Env) (v : PV) : PV :=
  match v with
  | .own _ sz xs => .own (0, 0) sz xs
  | .nils sz => .own (0, 0) sz []
  | .box _ cs => .box (0, 0) (cs.map (stC (0, 0)))
  | .loc r st o => if live.contains r then (match e r with | .box st' _ => if st' = st then .loc r (0, 0) o else .dead | _ => .dead) else .dead
  | .eloc .. => .dead
  | .snap r pl st off len => if live.contains r then (match rowIf (e r) pl st with | some _ => .snap r pl (0, 0) off len | none => .dead) else .dead
  | .tup [] => .tup []
  | .tup _ => .dead
  | .back g r pl st off len => if live.contains r then (match rowIf (e r) pl st with | some _ => .back g r pl (0, 0) off len | none => .dead) else .dead
  | .pvar r st => if live.contains r then (match e r with | .box st' _ => if st' = st then .pvar r (0, 0) else .dead | _ => .dead) else .dead
  | .omap _ ks vs => .omap (0, 0) ks vs
  | .mref r pl st => if live.contains r then (match mapIf (e r) pl st with | some _ => .mref r pl (0, 0) | none => .dead) else .dead
  | .oagg _ => .dead
  | v => v
/-- A loop's head: what lives there, with fresh stamps. -/
def canon (live : List Nat) (e : Env) : List (Nat × PV) := live.map fun s => (s, canonV live e (e s))
def loopN (body : List (Nat × PV) → Option (Ex × St)) (live : List Nat) : Nat → List (Nat × PV) → Option (Ex × St)
  | 0, _ => none
  | n + 1, e => match body e with
    | some (.normal, _, e') => loopN body live n (canon live (lookup e'))
    | r => r
/-- The rounds of a range over slices.Backward: j elements are left. -/
def rangeN (body : Nat → List (Nat × PV) → Option (Ex × St)) (live : List Nat) : Nat → List (Nat × PV) → Option (List (Nat × PV))
  | 0, e => some e
  | j + 1, e => match body j e with
    | some (.normal, _, e') => rangeN body live j (canon live (lookup e'))
    | _ => none
/-- The element that comes next: its number, its value. -/
def backCell (e : Env) (t j : Nat) : Option PV :=
  match e t with
  | .back _ r pl st off _ => match rowIf (e r) pl st with
    | some (_, xs) => match xs[off + j]? with
      | some [.int .i64 z] => some (.int .i64 z)
      | _ => none
    | none => none
  | _ => none
def backLen (e : Env) (t : Nat) : Option Nat :=
  match e t with
  | .back g r pl st _ len => if itB g && t != VS then (match rowIf (e r) pl st with | some _ => some len | none => none) else none
  | _ => none
/-- A range over a function with two loop variables. -/
def rangeA (g : Operand) (ps : Array Tmp) : Option (Nat × Nat × Nat) :=
  match g, ps.toList with
  | .tmp t, [p0, p1] => some (t, p0, p1)
  | _, _ => none
/-- Code that writes none of the slots and has no range over a function in it. -/
def noW (live : List Nat) : Code → Bool
  | .region _ ops _ => ops.toList.all fun o => match o.dst with | some d => !live.contains d | none => true
  | .seq x y | .cond _ x y => noW live x && noW live y
  | .block _ c | .loop c => noW live c
  | .rangeFunc .. => false
  | _ => true
/-- Code, with at most n rounds of each loop; b: the block that stands around it. -/
def exec (lv : Nat → List Nat) (n : Nat) : Nat → Code → St → Option (Ex × St)
  | _, .skip, s => some (.normal, s)
  | _, .region _ ops draw, (rid, e) =>
    if draw then
      match runLog P Φ keep ops (rid + 1) 0 ops.toList e with
      | some (e', l) => if apartB ops l then some (.normal, rid + 1, e') else none
      | none => none
    else match runOps P Φ keep ops (rid + 1) 0 ops.toList e with
      | some e' => some (.normal, rid + 1, e')
      | none => none
  | b, .seq x y, s => match exec lv n b x s with
    | some (.normal, s') => exec lv n b y s'
    | r => r
  | b, .cond c x y, s => match opv (lookup s.2) c with
    | .bool t => if t then exec lv n b x s else exec lv n b y s
    | _ => none
  | _, .block id c, s => match exec lv n id c s with
    | some (.exit id', s') => if id' = id then some (.normal, s') else some (.exit id', s')
    | r => r
  | b, .loop c, s => loopN (fun e => exec lv n b c (0, e)) (lv b) n (canon (lv b) (lookup s.2))
  | b, .rangeFunc g ps assign body, (_, e) =>
    match rangeA g ps with
    | none => none
    | some (t, p0, p1) =>
    if (noW (lv b) assign && noW (lv b) body && !(lv b).contains p0 && !(lv b).contains p1) = true then
    match backLen (lookup (canon (lv b) (lookup e))) t with
    | some m =>
      match rangeN (fun j e => match backCell (lookup e) t j with
        | some c => match exec lv n b assign (0, (p1, c) :: (p0, .int .i64 j) :: e) with
          | some (.normal, s) => exec lv n b body s
          | _ => none
        | none => none) (lv b) m (canon (lv b) (lookup e)) with
      | some e' => some (.normal, 0, e')
      | none => none
    | none => none
    else none
  | _, .exit id, s => some (.exit id, s)
  | _, .ret, s => some (.ret, s)
  | _, _, _ => none
end
end Go.PE
