/-
  A part of the proof that the law's function returns true and leaves its arguments as they were, for every input (no condition): own lemmas of the proof, in the order of their use.
-/
import Derived.Test.YtkfppicmdgbfjaaGreatDoorC14
import Derived.Shelf.Strings.BuilderK
set_option linter.all false
namespace Go.PE
open Go.Shelf Go.Proofs Go.Proofs.Tryz
set_option maxRecDepth 100000
/-! ### strings.Builder: the library's numbers at this program -/
def renB : Shelf.Ren := ⟨fun | 166 => 159 | 167 => 161 | 240 => 193 | 276 => 216 | 169 => 162 | n => n, fun | 70 => 202 | 72 => 204 | 37 => 175 | 75 => 206 | 164 => 244 | 127 => 229 | 80 => 156 | n => n, fun n => n⟩
theorem lays166 : Proofs.Lays.n166 prog renB where
  mixed := by kernel_rfl
  f166 := func159.trans (congrArg some (by kernel_rfl))
  f240 := func193.trans (congrArg some (by kernel_rfl))
  f276 := func216.trans (congrArg some (by kernel_rfl))
  t0 := underlying0
  a0 := isAgg0
  z0 := sizeOf0
  v0 := zeroValue0
  t3 := underlying3
  a3 := isAgg3
  z3 := sizeOf3
  v3 := zeroValue3
  t4 := underlying4
  a4 := isAgg4
  z4 := sizeOf4
  v4 := zeroValue4
  t9 := underlying9
  a9 := isAgg9
  z9 := sizeOf9
  v9 := zeroValue9
  t20 := underlying20
  a20 := isAgg20
  z20 := sizeOf20
  v20 := zeroValue20
  t37 := underlying175
  a37 := isAgg175
  z37 := sizeOf175
  v37 := zeroValue175
  t70 := underlying202
  a70 := isAgg202
  z70 := sizeOf202
  v70 := zeroValue202
  t72 := underlying204
  a72 := isAgg204
  z72 := sizeOf204
  v72 := zeroValue204
  t75 := underlying206
  a75 := isAgg206
  z75 := sizeOf206
  v75 := zeroValue206
  t164 := underlying244
  a164 := isAgg244
  z164 := sizeOf244
  v164 := zeroValue244
theorem lays167 : Proofs.Lays.n167 prog renB where
  mixed := by kernel_rfl
  f167 := func161.trans (congrArg some (by kernel_rfl))
  f240 := func193.trans (congrArg some (by kernel_rfl))
  f276 := func216.trans (congrArg some (by kernel_rfl))
  t0 := underlying0
  a0 := isAgg0
  z0 := sizeOf0
  v0 := zeroValue0
  t4 := underlying4
  a4 := isAgg4
  z4 := sizeOf4
  v4 := zeroValue4
  t5 := underlying5
  a5 := isAgg5
  z5 := sizeOf5
  v5 := zeroValue5
  t9 := underlying9
  a9 := isAgg9
  z9 := sizeOf9
  v9 := zeroValue9
  t20 := underlying20
  a20 := isAgg20
  z20 := sizeOf20
  v20 := zeroValue20
  t37 := underlying175
  a37 := isAgg175
  z37 := sizeOf175
  v37 := zeroValue175
  t70 := underlying202
  a70 := isAgg202
  z70 := sizeOf202
  v70 := zeroValue202
  t72 := underlying204
  a72 := isAgg204
  z72 := sizeOf204
  v72 := zeroValue204
  t75 := underlying206
  a75 := isAgg206
  z75 := sizeOf206
  v75 := zeroValue206
  t164 := underlying244
  a164 := isAgg244
  z164 := sizeOf244
  v164 := zeroValue244
theorem lays169 : Proofs.Lays.n169 prog renB where
  mixed := by kernel_rfl
  f169 := func162.trans (congrArg some (by kernel_rfl))
  t0 := underlying0
  a0 := isAgg0
  z0 := sizeOf0
  v0 := zeroValue0
  t3 := underlying3
  a3 := isAgg3
  z3 := sizeOf3
  v3 := zeroValue3
  t9 := underlying9
  a9 := isAgg9
  z9 := sizeOf9
  v9 := zeroValue9
  t37 := underlying175
  a37 := isAgg175
  z37 := sizeOf175
  v37 := zeroValue175
  t70 := underlying202
  a70 := isAgg202
  z70 := sizeOf202
  v70 := zeroValue202
  t72 := underlying204
  a72 := isAgg204
  z72 := sizeOf204
  v72 := zeroValue204
  t127 := underlying229
  a127 := isAgg229
  z127 := sizeOf229
  v127 := zeroValue229
theorem extraB : Proofs.Builder.Extra prog renB where
  sizeBuilder := by kernel_rfl
  liesBuilder := by kernel_rfl
  t5 := underlying5
  a5 := isAgg5
  z5 := sizeOf5
  v5 := zeroValue5
  infoByte := by kernel_rfl
  cellsByte := by kernel_rfl
  sizeByte := by kernel_rfl
  neB5 := by decide
end Go.PE
namespace Go.PE
open Go.RowKit
section
variable {P : Program} {Φ : FuncId → List PV → Option (PV × List (List PV))} {keep : List Nat}
variable {ops : Array Oper} {rid i : Nat} {r : List Oper} {e : List (Nat × PV)} {acc : Option Lg} {K : List (Nat × PV) → Prop} {td : TypeId → TD}
variable {ty : TypeId} {pos : String} {after : Array Edge} {guard : Option (Nat × Bool)}
/-- The address of an element in memory that nobody writes. -/
theorem WX.idxImmD (htd : td = tdOf P) {d : Nat} {t : TypeId} {x y : Operand} {k : IntKind} {n : Int} {sz bb : Nat} {xs : List (List PV)} {cell : List PV}
    (hg : guardOf ops { dst := some d, op := .indexAddr t x y, type := ty, pos := pos, after := after, guard := guard } (lookup e) = some true)
    (hi : (res (lookup e) y).1 = .int k n) (hx : (res (lookup e) x).1 = .imm sz xs) (ha : (td t).arr = none) (hr : (td t).row = some (sz, bb)) (hs : Nat.blt 0 sz = true) (h0 : 0 ≤ n) (hc : xs[n.toNat]? = some cell)
    (k : WX P Φ keep ops rid (i + 1) r ((d, .iptr cell 0) :: e) (nxt acc (foot ops { dst := some d, op := .indexAddr t x y, type := ty, pos := pos, after := after, guard := guard } (lookup e)) [(d, .iptr cell 0)]) K) :
    WX P Φ keep ops rid i ({ dst := some d, op := .indexAddr t x y, type := ty, pos := pos, after := after, guard := guard } :: r) e acc K := by
  subst htd
  have ha : arrT P t = none := ha
  have hr : rowT P t = some (sz, bb) := hr
  refine WX.raw hg (u := [(d, .iptr cell 0)]) ?_ (by rw [onUps_eq]; exact k)
  have hs' : 0 < sz := by have := hs; simp only [Nat.blt, Nat.ble_eq] at this; omega
  simp only [sem, hi, ha, hr, indexS, hx]
  rw [if_pos (by simp only [true_and]; exact ⟨hs', h0⟩), hc]
theorem WX.idxImm (htd : td = tdOf P) {d : Nat} {t : TypeId} {x y : Operand} {k : IntKind} {n : Int} {sz bb : Nat} {xs : List (List PV)} {cell : List PV}
    (hg : guardOf ops { dst := some d, op := .indexAddr t x y, type := ty, pos := pos, after := after, guard := guard } (lookup e) = some true)
    (hi : (res (lookup e) y).1 = .int k n) (hx : (res (lookup e) x).1 = .imm sz xs) (ha : (td t).arr = none) (hr : (td t).row = some (sz, bb)) (hs : Nat.blt 0 sz = true) (h0 : 0 ≤ n) (hc : xs[n.toNat]? = some cell)
    (k : WX P Φ keep ops rid (i + 1) r ((d, .iptr cell 0) :: e) none K) :
    WX P Φ keep ops rid i ({ dst := some d, op := .indexAddr t x y, type := ty, pos := pos, after := after, guard := guard } :: r) e none K := WX.idxImmD htd hg hi hx ha hr hs h0 hc k
def ldV (a : Bool) (n k : Nat) (cell : List PV) : Option PV :=
  if k + n ≤ cell.length then
    if a then (if ((cell.drop k).take n).all okC then some (.agg ((cell.drop k).take n)) else none)
    else match (cell.drop k).take n with
      | [c] => if okC c then some c else none
      | _ => none
  else none
/-- The arguments of a call. -/
def argsC (td : TypeId → TD) (c : Call) (rs : Operand → PV × PV) (caps : List PV) : Option (List PV × Ups × List (Nat × Stamp)) :=
  match argsS ((c.args.toList.zipIdx).map fun (x, i) => (x, hintT td (c.argTypes.getD i 0) x (rs x))) with
  | some (vs, us, bs) => onL1 (vs ++ caps) fun vs' => some (vs', us, bs)
  | none => none
theorem WX.callD (htd : td = tdOf P) {dst : Option Nat} {c : Call} {f : Operand} {g : FuncId} {caps avs : List PV} {us ub : Ups} {bs : List (Nat × Stamp)} {rv : PV} {outs : List (List PV)}
    (hg : guardOf ops { dst := dst, op := .call c, type := ty, pos := pos, after := after, guard := guard } (lookup e) = some true)
    (hcal : c.callee = .value f) (hf : (res (lookup e) f).1 = .func g caps) (hw : (wrB g || prB g || (bkG g).isSome || rdB keep dst) = false) (ha : argsC td c (res (lookup e)) caps = some (avs, us, bs))
    (hΦ : Φ g avs = some (rv, outs)) (hb : backS (rid, i) bs outs = some ub)
    (hn : nodupB (((if scalar rv && bs.isEmpty then [] else us) ++ ub ++ dstUps (rid, i) dst rv).map (·.1)) = true)
    (k : onUps ((if scalar rv && bs.isEmpty then [] else us) ++ ub ++ dstUps (rid, i) dst rv) e fun e' => WX P Φ keep ops rid (i + 1) r e'
      (nxt acc (foot ops { dst := dst, op := .call c, type := ty, pos := pos, after := after, guard := guard } (lookup e)) ((if scalar rv && bs.isEmpty then [] else us) ++ ub ++ dstUps (rid, i) dst rv)) K) :
    WX P Φ keep ops rid i ({ dst := dst, op := .call c, type := ty, pos := pos, after := after, guard := guard } :: r) e acc K := by
  subst htd
  refine WX.raw hg ?_ k
  unfold argsC at ha
  split at ha
  · rename_i vs us' bs' h1
    rw [onL1_eq] at ha
    cases ha
    rw [Bool.or_eq_false_iff, Bool.or_eq_false_iff, Bool.or_eq_false_iff] at hw
    have hbk : bkG g = none := by simpa using hw.1.2
    simp only [sem, hw.2, callOf, hcal, hf, hbk, hw.1.1.1, hw.1.1.2, Bool.false_eq_true, if_false, callS]
    have h1 : argsS ((c.args.toList.zipIdx).map fun (x, i) => (x, hint P (c.argTypes.getD i 0) x (res (lookup e) x))) = some (vs, us, bs) := h1
    simp only [h1, hΦ, hb]
    rw [if_pos hn]
  · cases ha
theorem WX.call (htd : td = tdOf P) {dst : Option Nat} {c : Call} {f : Operand} {g : FuncId} {caps avs : List PV} {us ub : Ups} {bs : List (Nat × Stamp)} {rv : PV} {outs : List (List PV)}
    (hg : guardOf ops { dst := dst, op := .call c, type := ty, pos := pos, after := after, guard := guard } (lookup e) = some true)
    (hcal : c.callee = .value f) (hf : (res (lookup e) f).1 = .func g caps) (hw : (wrB g || prB g || (bkG g).isSome || rdB keep dst) = false) (ha : argsC td c (res (lookup e)) caps = some (avs, us, bs))
    (hΦ : Φ g avs = some (rv, outs)) (hb : backS (rid, i) bs outs = some ub)
    (hn : nodupB (((if scalar rv && bs.isEmpty then [] else us) ++ ub ++ dstUps (rid, i) dst rv).map (·.1)) = true)
    (k : onUps ((if scalar rv && bs.isEmpty then [] else us) ++ ub ++ dstUps (rid, i) dst rv) e fun e' => WX P Φ keep ops rid (i + 1) r e'
      none K) :
    WX P Φ keep ops rid i ({ dst := dst, op := .call c, type := ty, pos := pos, after := after, guard := guard } :: r) e none K := WX.callD htd hg hcal hf hw ha hΦ hb hn k
theorem res_of {e : Env} {s : Nat} {v : PV} (h : opv e (.tmp s) = v) : res e (.tmp s) = (v, match rootOf v with | some r => e r | none => .dead) := by unfold res; rw [h]; rfl
theorem WX.convSD (htd : td = tdOf P) {d : Nat} {s t el : TypeId} {x : Operand} {xs : List (List PV)} {b : List UInt8} {sz : Nat}
    (hg : guardOf ops { dst := some d, op := .convert s t x, type := ty, pos := pos, after := after, guard := guard } (lookup e) = some true)
    (hx : view (res (lookup e) x) = some (.imm sz xs)) (hs : (td s).und = .slice el) (he : (td el).und = .int .u8) (ht : (td t).und = .str) (hb : bytesOf? xs = some b)
    (k : WX P Φ keep ops rid (i + 1) r ((d, .str b) :: e) (nxt acc (foot ops { dst := some d, op := .convert s t x, type := ty, pos := pos, after := after, guard := guard } (lookup e)) [(d, .str b)]) K) :
    WX P Φ keep ops rid i ({ dst := some d, op := .convert s t x, type := ty, pos := pos, after := after, guard := guard } :: r) e acc K := by
  subst htd
  refine WX.raw hg (u := [(d, .str b)]) ?_ (by rw [onUps_eq]; exact k)
  have hs := und_slice (show ukOf (P.underlying s) = _ from hs)
  have he := und_int (show ukOf (P.underlying el) = _ from he)
  have ht := und_str (show ukOf (P.underlying t) = _ from ht)
  simp only [sem, hx, PE.convS, hs, ht, he, hb, Option.map_some]
theorem WX.convS (htd : td = tdOf P) {d : Nat} {s t el : TypeId} {x : Operand} {xs : List (List PV)} {b : List UInt8} {sz : Nat}
    (hg : guardOf ops { dst := some d, op := .convert s t x, type := ty, pos := pos, after := after, guard := guard } (lookup e) = some true)
    (hx : view (res (lookup e) x) = some (.imm sz xs)) (hs : (td s).und = .slice el) (he : (td el).und = .int .u8) (ht : (td t).und = .str) (hb : bytesOf? xs = some b)
    (k : WX P Φ keep ops rid (i + 1) r ((d, .str b) :: e) none K) :
    WX P Φ keep ops rid i ({ dst := some d, op := .convert s t x, type := ty, pos := pos, after := after, guard := guard } :: r) e none K := WX.convSD htd hg hx hs he ht hb k
/-- A truth value is read: the way parts. -/
theorem WX.boolMD {d s : Nat} {t : Bool} (hg : guardOf ops { dst := some d, op := .move (.tmp s), type := ty, pos := pos, after := after, guard := guard } (lookup e) = some true) (hx : opv (lookup e) (.tmp s) = .bool t)
    (k1 : t = true → WX P Φ keep ops rid (i + 1) r ((d, .bool true) :: e) (nxt acc (foot ops { dst := some d, op := .move (.tmp s), type := ty, pos := pos, after := after, guard := guard } (lookup e)) [(d, .bool true)]) K)
    (k2 : t = false → WX P Φ keep ops rid (i + 1) r ((d, .bool false) :: e) (nxt acc (foot ops { dst := some d, op := .move (.tmp s), type := ty, pos := pos, after := after, guard := guard } (lookup e)) [(d, .bool false)]) K) :
    WX P Φ keep ops rid i ({ dst := some d, op := .move (.tmp s), type := ty, pos := pos, after := after, guard := guard } :: r) e acc K := by
  refine WX.raw hg (u := [(d, .bool t)]) ?_ ?_
  · have : res (lookup e) (.tmp s) = (.bool t, .dead) := res_of hx
    simp only [sem, this, hint]
    rfl
  · rw [onUps_eq]
    cases t with
    | true => exact k1 rfl
    | false => exact k2 rfl
theorem WX.boolM {d s : Nat} {t : Bool} (hg : guardOf ops { dst := some d, op := .move (.tmp s), type := ty, pos := pos, after := after, guard := guard } (lookup e) = some true) (hx : opv (lookup e) (.tmp s) = .bool t)
    (k1 : t = true → WX P Φ keep ops rid (i + 1) r ((d, .bool true) :: e) none K) (k2 : t = false → WX P Φ keep ops rid (i + 1) r ((d, .bool false) :: e) none K) :
    WX P Φ keep ops rid i ({ dst := some d, op := .move (.tmp s), type := ty, pos := pos, after := after, guard := guard } :: r) e none K := WX.boolMD hg hx k1 k2
end
/-- A range over the elements of a slice, the last one first. -/
theorem W.range {P : Program} {Φ : FuncId → List PV → Option (PV × List (List PV))} {keep : List Nat} {lv : Nat → List Nat} {n b : Nat} {s : St} {Q : Ex → St → Prop} {t p0 p1 : Nat} {assign body : Code} {len : Nat}
    (I : Nat → List (Nat × PV) → Prop) (hs : (noW (lv b) assign && noW (lv b) body && !(lv b).contains p0 && !(lv b).contains p1) = true) (hl : backLen (lookup (canon (lv b) (lookup s.2))) t = some len)
    (h0 : I len (canon (lv b) (lookup s.2)))
    (hr : ∀ j e, j < len → I (j + 1) e → ∃ z, backCell (lookup e) t j = some (.int .i64 z) ∧
      W P Φ keep lv n b (.seq assign body) (0, (p1, .int .i64 z) :: (p0, .int .i64 j) :: e) fun ex s' => ex = .normal ∧ I j (canon (lv b) (lookup s'.2)))
    (hd : ∀ e, I 0 e → Q .normal (0, e)) : W P Φ keep lv n b (.rangeFunc (.tmp t) #[p0, p1] assign body) s Q := by
  have key : ∀ j e, j ≤ len → I j e → ∃ e', rangeN (fun j e => match backCell (lookup e) t j with
      | some c => match exec P Φ keep lv n b assign (0, (p1, c) :: (p0, .int .i64 j) :: e) with
        | some (.normal, s) => exec P Φ keep lv n b body s
        | _ => none
      | none => none) (lv b) j e = some e' ∧ I 0 e' := by
    intro j
    induction j with
    | zero => intro e _ h; exact ⟨e, rfl, h⟩
    | succ j ih =>
      intro e hj h
      obtain ⟨z, hz, hw⟩ := hr j e hj h
      obtain ⟨ex, s', h1, rfl, h2⟩ := hw.out
      rw [exec] at h1
      simp only [rangeN, hz]
      split at h1
      · rename_i s1 h3
        rw [h3]
        simp only [h1]
        exact ih _ (Nat.le_of_succ_le hj) h2
      · rename_i hne
        exact absurd h1 (hne _)
  obtain ⟨e', h1, h2⟩ := key len _ (Nat.le_refl _) h0
  obtain ⟨rid, e⟩ := s
  refine ⟨.normal, (0, e'), ?_, hd e' h2⟩
  simp only [exec, rangeA]
  have h1 := congrArg (fun x => (match x with | some e' => some (Ex.normal, (0, e')) | none => none : Option (Ex × St))) h1
  rw [if_pos hs]
  simp only [hl]
  exact h1
/-! ### The tower -/
theorem lvl_enter {P : Program} {X : FuncId → List PV → Option (PV × List (List PV))} {td : TypeId → TD} (htd : td = tdOf P) {keep : FuncId → List Nat} {lv : FuncId → Nat → List Nat} {n k : Nat} {f : FuncId} {avs : List PV} {r : PV × List (List PV)} {fn : Func} {c : Code}
    (hX : X f avs = none) (hf : P.funcs[f]? = some fn) (hc : fn.body = some c) (hn : ¬ (fn.name = "runtime.NumGoroutine" ∨ (wrB f || prB f) = true)) (hok : codeOK fn.ntmps (boxPos avs) c = true) (hl : avs.length ≤ fn.ntmps) (hv : fn.ntmps ≤ VS) (hst : avs.all stamp0 = true)
    (h : W P (lvl P X keep lv n k) (keep f) (lv f) n 0 c (0, avs.zipIdx.map fun q => (q.2, q.1)) (endW (finishT td fn.results.toList (boxPos avs)) r)) : lvl P X keep lv n (k + 1) f avs = some r := by
  rw [lvl, hX]
  exact funcS_enter htd hf hc hn hok hl hv hst h
end Go.PE
namespace Go.PE
open Go.RowKit Go.Proofs.Tryz
/-! ### Which slots live at the loops' heads -/
def keepF (f : Nat) : List Nat := (bif Nat.blt f 158 then (bif Nat.blt f 89 then (bif Nat.blt f 43 then (bif Nat.blt f 22 then (bif Nat.blt f 11 then (bif Nat.blt f 8 then (bif Nat.blt f 7 then (bif Nat.beq f 3 then [6] else []) else (bif Nat.beq f 7 then [4] else [])) else (bif Nat.blt f 9 then (bif Nat.beq f 8 then [0] else []) else (bif Nat.blt f 10 then (bif Nat.beq f 9 then [4] else []) else (bif Nat.beq f 10 then [2] else [])))) else (bif Nat.blt f 16 then (bif Nat.blt f 15 then (bif Nat.beq f 11 then [4] else []) else (bif Nat.beq f 15 then [2, 3] else [])) else (bif Nat.blt f 17 then (bif Nat.beq f 16 then [4, 5] else []) else (bif Nat.blt f 18 then (bif Nat.beq f 17 then [4, 5] else []) else (bif Nat.beq f 18 then [4] else []))))) else (bif Nat.blt f 33 then (bif Nat.blt f 24 then (bif Nat.blt f 23 then (bif Nat.beq f 22 then [4] else []) else (bif Nat.beq f 23 then [2] else [])) else (bif Nat.blt f 25 then (bif Nat.beq f 24 then [4] else []) else (bif Nat.blt f 32 then (bif Nat.beq f 25 then [4] else []) else (bif Nat.beq f 32 then [2, 3] else [])))) else (bif Nat.blt f 36 then (bif Nat.blt f 34 then (bif Nat.beq f 33 then [4] else []) else (bif Nat.blt f 35 then (bif Nat.beq f 34 then [4] else []) else (bif Nat.beq f 35 then [4] else []))) else (bif Nat.blt f 37 then (bif Nat.beq f 36 then [6, 7] else []) else (bif Nat.blt f 42 then (bif Nat.beq f 37 then [4] else []) else (bif Nat.beq f 42 then [4] else [])))))) else (bif Nat.blt f 58 then (bif Nat.blt f 53 then (bif Nat.blt f 50 then (bif Nat.blt f 44 then (bif Nat.beq f 43 then [4] else []) else (bif Nat.beq f 44 then [2] else [])) else (bif Nat.blt f 51 then (bif Nat.beq f 50 then [2] else []) else (bif Nat.blt f 52 then (bif Nat.beq f 51 then [2, 3000002, 4000007] else []) else (bif Nat.beq f 52 then [2] else [])))) else (bif Nat.blt f 55 then (bif Nat.blt f 54 then (bif Nat.beq f 53 then [6] else []) else (bif Nat.beq f 54 then [2] else [])) else (bif Nat.blt f 56 then (bif Nat.beq f 55 then [2, 3] else []) else (bif Nat.blt f 57 then (bif Nat.beq f 56 then [2, 3] else []) else (bif Nat.beq f 57 then [2] else []))))) else (bif Nat.blt f 83 then (bif Nat.blt f 80 then (bif Nat.blt f 59 then (bif Nat.beq f 58 then [2, 3] else []) else (bif Nat.beq f 59 then [2] else [])) else (bif Nat.blt f 81 then (bif Nat.beq f 80 then [2] else []) else (bif Nat.blt f 82 then (bif Nat.beq f 81 then [2, 3000002, 4000014, 5000062] else []) else (bif Nat.beq f 82 then [4] else [])))) else (bif Nat.blt f 86 then (bif Nat.blt f 84 then (bif Nat.beq f 83 then [2] else []) else (bif Nat.blt f 85 then (bif Nat.beq f 84 then [2] else []) else (bif Nat.beq f 85 then [4] else []))) else (bif Nat.blt f 87 then (bif Nat.beq f 86 then [2] else []) else (bif Nat.blt f 88 then (bif Nat.beq f 87 then [2, 3] else []) else (bif Nat.beq f 88 then [4, 5] else []))))))) else (bif Nat.blt f 130 then (bif Nat.blt f 117 then (bif Nat.blt f 112 then (bif Nat.blt f 91 then (bif Nat.blt f 90 then (bif Nat.beq f 89 then [6, 7] else []) else (bif Nat.beq f 90 then [4] else [])) else (bif Nat.blt f 110 then (bif Nat.beq f 91 then [2] else []) else (bif Nat.blt f 111 then (bif Nat.beq f 110 then [4] else []) else (bif Nat.beq f 111 then [4] else [])))) else (bif Nat.blt f 114 then (bif Nat.blt f 113 then (bif Nat.beq f 112 then [4] else []) else (bif Nat.beq f 113 then [2] else [])) else (bif Nat.blt f 115 then (bif Nat.beq f 114 then [2] else []) else (bif Nat.blt f 116 then (bif Nat.beq f 115 then [2] else []) else (bif Nat.beq f 116 then [2] else []))))) else (bif Nat.blt f 122 then (bif Nat.blt f 119 then (bif Nat.blt f 118 then (bif Nat.beq f 117 then [4] else []) else (bif Nat.beq f 118 then [2] else [])) else (bif Nat.blt f 120 then (bif Nat.beq f 119 then [4] else []) else (bif Nat.blt f 121 then (bif Nat.beq f 120 then [2, 3, 2000008, 3000002, 4000017] else []) else (bif Nat.beq f 121 then [2] else [])))) else (bif Nat.blt f 127 then (bif Nat.blt f 125 then (bif Nat.beq f 122 then [2, 3, 4] else []) else (bif Nat.blt f 126 then (bif Nat.beq f 125 then [4] else []) else (bif Nat.beq f 126 then [2] else []))) else (bif Nat.blt f 128 then (bif Nat.beq f 127 then [2] else []) else (bif Nat.blt f 129 then (bif Nat.beq f 128 then [2] else []) else (bif Nat.beq f 129 then [4] else [])))))) else (bif Nat.blt f 147 then (bif Nat.blt f 141 then (bif Nat.blt f 138 then (bif Nat.blt f 137 then (bif Nat.beq f 130 then [4] else []) else (bif Nat.beq f 137 then [2] else [])) else (bif Nat.blt f 139 then (bif Nat.beq f 138 then [4, 5] else []) else (bif Nat.blt f 140 then (bif Nat.beq f 139 then [2] else []) else (bif Nat.beq f 140 then [2, 3] else [])))) else (bif Nat.blt f 144 then (bif Nat.blt f 142 then (bif Nat.beq f 141 then [2, 3] else []) else (bif Nat.blt f 143 then (bif Nat.beq f 142 then [4] else []) else (bif Nat.beq f 143 then [2] else []))) else (bif Nat.blt f 145 then (bif Nat.beq f 144 then [4] else []) else (bif Nat.blt f 146 then (bif Nat.beq f 145 then [2] else []) else (bif Nat.beq f 146 then [4] else []))))) else (bif Nat.blt f 152 then (bif Nat.blt f 149 then (bif Nat.blt f 148 then (bif Nat.beq f 147 then [4] else []) else (bif Nat.beq f 148 then [4] else [])) else (bif Nat.blt f 150 then (bif Nat.beq f 149 then [4] else []) else (bif Nat.blt f 151 then (bif Nat.beq f 150 then [2] else []) else (bif Nat.beq f 151 then [4] else [])))) else (bif Nat.blt f 155 then (bif Nat.blt f 153 then (bif Nat.beq f 152 then [4] else []) else (bif Nat.blt f 154 then (bif Nat.beq f 153 then [4] else []) else (bif Nat.beq f 154 then [4] else []))) else (bif Nat.blt f 156 then (bif Nat.beq f 155 then [4] else []) else (bif Nat.blt f 157 then (bif Nat.beq f 156 then [4] else []) else (bif Nat.beq f 157 then [4] else [])))))))) else (bif Nat.blt f 203 then (bif Nat.blt f 180 then (bif Nat.blt f 168 then (bif Nat.blt f 163 then (bif Nat.blt f 160 then (bif Nat.blt f 159 then (bif Nat.beq f 158 then [6] else []) else (bif Nat.beq f 159 then [4, 5] else [])) else (bif Nat.blt f 161 then (bif Nat.beq f 160 then [2] else []) else (bif Nat.blt f 162 then (bif Nat.beq f 161 then [4] else []) else (bif Nat.beq f 162 then [2] else [])))) else (bif Nat.blt f 165 then (bif Nat.blt f 164 then (bif Nat.beq f 163 then [4, 5] else []) else (bif Nat.beq f 164 then [4, 5, 6] else [])) else (bif Nat.blt f 166 then (bif Nat.beq f 165 then [6, 7] else []) else (bif Nat.blt f 167 then (bif Nat.beq f 166 then [4] else []) else (bif Nat.beq f 167 then [2] else []))))) else (bif Nat.blt f 174 then (bif Nat.blt f 170 then (bif Nat.blt f 169 then (bif Nat.beq f 168 then [4] else []) else (bif Nat.beq f 169 then [2] else [])) else (bif Nat.blt f 171 then (bif Nat.beq f 170 then [4] else []) else (bif Nat.blt f 172 then (bif Nat.beq f 171 then [2] else []) else (bif Nat.beq f 172 then [2] else [])))) else (bif Nat.blt f 177 then (bif Nat.blt f 175 then (bif Nat.beq f 174 then [4] else []) else (bif Nat.blt f 176 then (bif Nat.beq f 175 then [4] else []) else (bif Nat.beq f 176 then [2] else []))) else (bif Nat.blt f 178 then (bif Nat.beq f 177 then [4] else []) else (bif Nat.blt f 179 then (bif Nat.beq f 178 then [4] else []) else (bif Nat.beq f 179 then [2] else [])))))) else (bif Nat.blt f 191 then (bif Nat.blt f 185 then (bif Nat.blt f 182 then (bif Nat.blt f 181 then (bif Nat.beq f 180 then [8] else []) else (bif Nat.beq f 181 then [4] else [])) else (bif Nat.blt f 183 then (bif Nat.beq f 182 then [4] else []) else (bif Nat.blt f 184 then (bif Nat.beq f 183 then [4] else []) else (bif Nat.beq f 184 then [4] else [])))) else (bif Nat.blt f 188 then (bif Nat.blt f 186 then (bif Nat.beq f 185 then [2] else []) else (bif Nat.blt f 187 then (bif Nat.beq f 186 then [4] else []) else (bif Nat.beq f 187 then [4] else []))) else (bif Nat.blt f 189 then (bif Nat.beq f 188 then [4] else []) else (bif Nat.blt f 190 then (bif Nat.beq f 189 then [4, 5] else []) else (bif Nat.beq f 190 then [4, 5] else []))))) else (bif Nat.blt f 197 then (bif Nat.blt f 194 then (bif Nat.blt f 192 then (bif Nat.beq f 191 then [6] else []) else (bif Nat.beq f 192 then [6] else [])) else (bif Nat.blt f 195 then (bif Nat.beq f 194 then [2] else []) else (bif Nat.blt f 196 then (bif Nat.beq f 195 then [4] else []) else (bif Nat.beq f 196 then [4, 5, 6] else [])))) else (bif Nat.blt f 200 then (bif Nat.blt f 198 then (bif Nat.beq f 197 then [6, 7] else []) else (bif Nat.blt f 199 then (bif Nat.beq f 198 then [10] else []) else (bif Nat.beq f 199 then [2] else []))) else (bif Nat.blt f 201 then (bif Nat.beq f 200 then [4, 5] else []) else (bif Nat.blt f 202 then (bif Nat.beq f 201 then [2] else []) else (bif Nat.beq f 202 then [2] else []))))))) else (bif Nat.blt f 228 then (bif Nat.blt f 217 then (bif Nat.blt f 209 then (bif Nat.blt f 206 then (bif Nat.blt f 205 then (bif Nat.beq f 203 then [4] else []) else (bif Nat.beq f 205 then [4] else [])) else (bif Nat.blt f 207 then (bif Nat.beq f 206 then [4] else []) else (bif Nat.blt f 208 then (bif Nat.beq f 207 then [6] else []) else (bif Nat.beq f 208 then [4] else [])))) else (bif Nat.blt f 211 then (bif Nat.blt f 210 then (bif Nat.beq f 209 then [4] else []) else (bif Nat.beq f 210 then [4] else [])) else (bif Nat.blt f 212 then (bif Nat.beq f 211 then [2] else []) else (bif Nat.blt f 213 then (bif Nat.beq f 212 then [4, 5] else []) else (bif Nat.beq f 213 then [6, 7] else []))))) else (bif Nat.blt f 222 then (bif Nat.blt f 219 then (bif Nat.blt f 218 then (bif Nat.beq f 217 then [4] else []) else (bif Nat.beq f 218 then [4] else [])) else (bif Nat.blt f 220 then (bif Nat.beq f 219 then [6, 7] else []) else (bif Nat.blt f 221 then (bif Nat.beq f 220 then [4] else []) else (bif Nat.beq f 221 then [4] else [])))) else (bif Nat.blt f 225 then (bif Nat.blt f 223 then (bif Nat.beq f 222 then [6] else []) else (bif Nat.blt f 224 then (bif Nat.beq f 223 then [6] else []) else (bif Nat.beq f 224 then [4, 5] else []))) else (bif Nat.blt f 226 then (bif Nat.beq f 225 then [4] else []) else (bif Nat.blt f 227 then (bif Nat.beq f 226 then [4] else []) else (bif Nat.beq f 227 then [4] else [])))))) else (bif Nat.blt f 242 then (bif Nat.blt f 235 then (bif Nat.blt f 231 then (bif Nat.blt f 229 then (bif Nat.beq f 228 then [4] else []) else (bif Nat.beq f 229 then [2] else [])) else (bif Nat.blt f 232 then (bif Nat.beq f 231 then [2] else []) else (bif Nat.blt f 234 then (bif Nat.beq f 232 then [2] else []) else (bif Nat.beq f 234 then [10, 11] else [])))) else (bif Nat.blt f 239 then (bif Nat.blt f 237 then (bif Nat.beq f 235 then [4] else []) else (bif Nat.blt f 238 then (bif Nat.beq f 237 then [2] else []) else (bif Nat.beq f 238 then [4] else []))) else (bif Nat.blt f 240 then (bif Nat.beq f 239 then [2] else []) else (bif Nat.blt f 241 then (bif Nat.beq f 240 then [2] else []) else (bif Nat.beq f 241 then [2] else []))))) else (bif Nat.blt f 250 then (bif Nat.blt f 245 then (bif Nat.blt f 243 then (bif Nat.beq f 242 then [2] else []) else (bif Nat.beq f 243 then [6] else [])) else (bif Nat.blt f 248 then (bif Nat.beq f 245 then [4] else []) else (bif Nat.blt f 249 then (bif Nat.beq f 248 then [2] else []) else (bif Nat.beq f 249 then [2] else [])))) else (bif Nat.blt f 254 then (bif Nat.blt f 251 then (bif Nat.beq f 250 then [2] else []) else (bif Nat.blt f 252 then (bif Nat.beq f 251 then [2] else []) else (bif Nat.beq f 252 then [2] else []))) else (bif Nat.blt f 255 then (bif Nat.beq f 254 then [2, 3] else []) else (bif Nat.blt f 256 then (bif Nat.beq f 255 then [2] else []) else (bif Nat.beq f 256 then [2] else [])))))))))
def lvF (f : Nat) : Nat → List Nat := look (bif Nat.blt f 142 then (bif Nat.blt f 52 then (bif Nat.blt f 18 then (bif Nat.blt f 11 then (bif Nat.blt f 9 then (bif Nat.beq f 7 then [(0, [0, 5])] else []) else (bif Nat.blt f 10 then (bif Nat.beq f 9 then [(0, [1, 2, 17, 18, 19, 16]), (2, [1, 2, 23, 17, 18, 19, 24, 25, 7, 6, 16, 22, 21])] else []) else (bif Nat.beq f 10 then [(0, [0, 4, 3, 8, 22])] else []))) else (bif Nat.blt f 16 then (bif Nat.blt f 15 then (bif Nat.beq f 11 then [(0, [1, 2, 5])] else []) else (bif Nat.beq f 15 then [(0, [6, 4, 2, 7, 12])] else [])) else (bif Nat.blt f 17 then (bif Nat.beq f 16 then [(0, [8, 1, 6, 24, 25, 26, 54, 16, 23, 22, 21])] else []) else (bif Nat.beq f 17 then [(0, [6, 22, 1, 23, 24, 8, 14, 21, 20, 19])] else [])))) else (bif Nat.blt f 37 then (bif Nat.blt f 24 then (bif Nat.blt f 22 then (bif Nat.beq f 18 then [(0, [1, 0, 5])] else []) else (bif Nat.beq f 22 then [(0, [1, 0, 5])] else [])) else (bif Nat.blt f 25 then (bif Nat.beq f 24 then [(0, [1, 0, 5])] else []) else (bif Nat.beq f 25 then [(0, [1, 0, 5])] else []))) else (bif Nat.blt f 43 then (bif Nat.blt f 42 then (bif Nat.beq f 37 then [(2, [10, 5, 56, 57]), (0, [1, 6, 5, 2, 27, 28, 29, 7, 26, 25, 24])] else []) else (bif Nat.beq f 42 then [(0, [1, 0, 5])] else [])) else (bif Nat.blt f 50 then (bif Nat.beq f 43 then [(0, [0, 1, 5])] else []) else (bif Nat.beq f 50 then [(0, [5, 0, 6, 7])] else []))))) else (bif Nat.blt f 112 then (bif Nat.blt f 56 then (bif Nat.blt f 53 then (bif Nat.beq f 52 then [(0, [3, 0, 10, 11])] else []) else (bif Nat.blt f 55 then (bif Nat.beq f 53 then [(0, [1, 0, 13, 14, 15, 8, 7, 2, 12, 34, 27])] else []) else (bif Nat.beq f 55 then [(0, [4, 10, 11, 12, 0])] else []))) else (bif Nat.blt f 81 then (bif Nat.blt f 58 then (bif Nat.beq f 56 then [(0, [4, 10, 11, 12, 0])] else []) else (bif Nat.beq f 58 then [(0, [2, 0, 4, 26, 27, 5, 41])] else [])) else (bif Nat.blt f 82 then (bif Nat.beq f 81 then [(0, [3, 0, 5, 4, 15, 42, 54, 38]), (2, [3, 0, 5, 29, 30, 4, 6, 15, 42, 54, 38])] else []) else (bif Nat.beq f 82 then [(0, [0, 100, 8, 101, 102, 9, 111])] else [])))) else (bif Nat.blt f 122 then (bif Nat.blt f 119 then (bif Nat.blt f 116 then (bif Nat.beq f 112 then [(0, [0, 5, 20, 21, 6, 16])] else []) else (bif Nat.beq f 116 then [(0, [1, 13, 14, 15, 12])] else [])) else (bif Nat.blt f 120 then (bif Nat.beq f 119 then [(0, [0, 1, 7, 8])] else []) else (bif Nat.beq f 120 then [(0, [4, 0, 6, 5, 18, 137]), (2, [9, 4, 10, 0, 6, 7, 5, 64, 18, 137])] else []))) else (bif Nat.blt f 137 then (bif Nat.blt f 130 then (bif Nat.beq f 122 then [(0, [6, 5, 8, 0, 25, 26, 27, 7, 95, 24, 57, 23, 22])] else []) else (bif Nat.beq f 130 then [(1, [19, 4, 1, 20, 21, 5])] else [])) else (bif Nat.blt f 139 then (bif Nat.beq f 137 then [(0, [3, 6, 7, 8, 0])] else []) else (bif Nat.beq f 139 then [(0, [6, 0, 7, 8])] else [])))))) else (bif Nat.blt f 211 then (bif Nat.blt f 177 then (bif Nat.blt f 166 then (bif Nat.blt f 147 then (bif Nat.beq f 142 then [(0, [0, 1, 7, 8])] else []) else (bif Nat.blt f 149 then (bif Nat.beq f 147 then [(0, [5, 0, 27, 4, 28, 29])] else []) else (bif Nat.beq f 149 then [(0, [1, 0, 12, 13])] else []))) else (bif Nat.blt f 168 then (bif Nat.blt f 167 then (bif Nat.beq f 166 then [(0, [1, 0])] else []) else (bif Nat.beq f 167 then [(0, [0, 4, 3, 36]), (2, [20, 0, 4, 3, 21, 22, 5, 36])] else [])) else (bif Nat.blt f 172 then (bif Nat.beq f 168 then [(0, [1, 0, 17, 16, 6, 15])] else []) else (bif Nat.beq f 172 then [(0, [0, 23, 24])] else [])))) else (bif Nat.blt f 206 then (bif Nat.blt f 199 then (bif Nat.blt f 178 then (bif Nat.beq f 177 then [(0, [0, 16, 17, 6, 5, 22])] else []) else (bif Nat.beq f 178 then [(0, [1, 0, 12, 13])] else [])) else (bif Nat.blt f 200 then (bif Nat.beq f 199 then [(0, [0, 3])] else []) else (bif Nat.beq f 200 then [(3, [8, 7, 9, 6, 10, 46, 43, 54, 60, 40]), (1, [8, 6, 0, 7, 46, 40, 43, 54])] else []))) else (bif Nat.blt f 209 then (bif Nat.blt f 208 then (bif Nat.beq f 206 then [(0, [5, 1, 18, 19, 20, 17, 0]), (2, [6, 5, 7, 25, 1, 18, 19, 20, 26, 27, 8, 17, 0])] else []) else (bif Nat.beq f 208 then [(0, [1, 0, 20, 21, 5, 6, 15, 37])] else [])) else (bif Nat.blt f 210 then (bif Nat.beq f 209 then [(0, [5, 1, 0])] else []) else (bif Nat.beq f 210 then [(0, [1, 0, 13, 14, 5, 6, 11, 37])] else []))))) else (bif Nat.blt f 233 then (bif Nat.blt f 219 then (bif Nat.blt f 213 then (bif Nat.beq f 211 then [(0, [3, 24])] else []) else (bif Nat.blt f 218 then (bif Nat.beq f 213 then [(0, [1, 0, 2, 10, 8, 9])] else []) else (bif Nat.beq f 218 then [(1, [1, 0, 9, 5, 7, 6, 10, 8])] else []))) else (bif Nat.blt f 225 then (bif Nat.blt f 224 then (bif Nat.beq f 219 then [(3, [11, 1, 13, 10, 8, 99, 9, 100, 101, 12])] else []) else (bif Nat.beq f 224 then [(0, [1, 6, 0, 8, 7, 12])] else [])) else (bif Nat.blt f 226 then (bif Nat.beq f 225 then [(0, [1, 0, 7, 5, 9, 8])] else []) else (bif Nat.beq f 226 then [(0, [0, 1, 7, 8])] else [])))) else (bif Nat.blt f 243 then (bif Nat.blt f 238 then (bif Nat.blt f 234 then (bif Nat.beq f 233 then [(0, [0, 4, 1])] else []) else (bif Nat.beq f 234 then [(0, [14, 12, 16, 11, 0, 10, 4, 3, 15, 1, 13, 98]), (2, [12, 17, 11, 0, 10, 4, 3, 1, 13, 98])] else [])) else (bif Nat.blt f 240 then (bif Nat.beq f 238 then [(2, [7, 1, 0, 5, 6, 10, 8]), (0, [0, 7, 1, 5, 6, 9, 8])] else []) else (bif Nat.beq f 240 then [(0, [0, 5, 4, 3])] else []))) else (bif Nat.blt f 247 then (bif Nat.blt f 244 then (bif Nat.beq f 243 then [(0, [0, 1, 2, 12, 13, 8, 7])] else []) else (bif Nat.beq f 244 then [(0, [0, 1, 8, 9, 4])] else [])) else (bif Nat.blt f 254 then (bif Nat.beq f 247 then [(0, [0, 3, 2])] else []) else (bif Nat.beq f 254 then [(2, [4, 8, 7, 6]), (0, [0, 5, 4])] else [])))))))
/-! ### The contracts that are proved by hand -/
/-- A digit. -/
def digC (n : Int) : Option UInt8 := if 0 ≤ n ∧ n < 10 then some (UInt8.ofNat (48 + n.toNat)) else none
/-- A node's part of a key. -/
def nodeKey (x : List PV) : Option (List UInt8) :=
  match x with
  | [.int .i64 a, .int .i64 b, .str c, .str d, .int .i64 e] => match digC a, digC b, digC e with
    | some a, some b, some e => some (a :: 32 :: b :: 32 :: e :: 32 :: (c ++ 32 :: (d ++ [10])))
    | _, _, _ => none
  | _ => none
def keyL : List (List PV) → Option (List UInt8)
  | [] => some []
  | x :: xs => match nodeKey x, keyL xs with
    | some a, some b => some (a ++ b)
    | _, _ => none
def keyF (avs : List PV) : Option (PV × List (List PV)) :=
  match avs with
  | [.imm 5 xs] => match keyL xs with
    | some l => if 0 < l.length ∧ l.length ≤ 1000000 then some (.str l, []) else none
    | none => none
  | _ => none
def extendF (avs : List PV) : Option (PV × List (List PV)) :=
  match avs with
  | [.iptr [.iptr (.imm 5 [.int .i64 o0 :: _, .int .i64 o1 :: _, _, .int .i64 o3 :: _] :: _) 0, _, .imm 1 [[.int .i64 f0], [.int .i64 f1], [.int .i64 f2]], .imm 1 [[.imm 1 [[.int .i64 k0], [.int .i64 k1]]], _, _], _, _] 0, .imm 1 [[.bool a], [.bool b]]] =>
    if o0 = 8 ∧ o1 = 4 ∧ o3 = 4 ∧ f0 = 0 ∧ f1 = 1 ∧ f2 = 3 ∧ k0 = 2 ∧ k1 = -3 then some (.own (0, 0) 1 [[.bool (a || !b)], [.bool a], [.bool b]], []) else none
  | _ => none
def cloneF (avs : List PV) : Option (PV × List (List PV)) :=
  match avs with
  | [.imm 1 []] => some (.imm 1 [], [])
  | [.nils 1] => some (.imm 1 [], [])
  | _ => none
def Xc (f : FuncId) (avs : List PV) : Option (PV × List (List PV)) :=
  bif Nat.beq f 137 then keyF avs else bif Nat.beq f 37 then extendF avs else bif Nat.beq f 91 then cloneF avs else none
def NN : Nat := 4611686018427387904
noncomputable def T (k : Nat) : FuncId → List PV → Option (PV × List (List PV)) := lvl prog Xc keepF lvF NN k
theorem enter {k : Nat} {f : FuncId} {avs : List PV} {r : PV × List (List PV)} {fn : Func} {c : Code}
    (hX : Xc f avs = none) (hf : prog.funcs[f]? = some fn) (hc : fn.body = some c) (hn : ¬ (fn.name = "runtime.NumGoroutine" ∨ (wrB f || prB f) = true)) (hok : codeOK fn.ntmps (boxPos avs) c = true) (hl : (Nat.ble avs.length fn.ntmps && Nat.ble fn.ntmps VS) = true) (hst : avs.all stamp0 = true)
    (h : W prog (T k) (keepF f) (lvF f) NN 0 c (0, avs.zipIdx.map fun q => (q.2, q.1)) (endW (finishT tab fn.results.toList (boxPos avs)) r)) : T (k + 1) f avs = some r :=
  lvl_enter tab_eq hX hf hc hn hok (Nat.le_of_ble_eq_true (Bool.and_eq_true_iff.1 hl).1) (Nat.le_of_ble_eq_true (Bool.and_eq_true_iff.1 hl).2) hst h
theorem wrap_i64 {x : Int} (h0 : -9223372036854775808 ≤ x) (h1 : x ≤ 9223372036854775807) : IntKind.i64.wrap x = x := by
  rw [IntKind.wrap_i64]; omega
/-! ### The walk's cascades, each said once: the tactic argument runs where the theorem is used -/
theorem zs0 {A B : Prop} (b : B) (h : B → A := by
  intro b
  repeat (first | refine WX.step tab_eq rfl rfl trivial ?_ | refine WX.step tab_eq rfl rfl (by decide) ?_ | refine WX.nil ?_ | refine W.seq ?_ | refine W.region ?_ | refine W.regionD ?_ | refine W.block ?_ | refine W.skip ?_ | refine W.exit ?_ | refine W.ret ?_ | refine W.condT rfl ?_ | refine W.condF rfl ?_ | refine WX.skip rfl ?_)
  exact b) : A := h b
theorem zs1 {A B C : Prop} (c : C) (b : B) (h : C → B → A := by
  intro c b
  repeat (first | refine WX.step tab_eq rfl rfl trivial ?_ | refine WX.step tab_eq rfl rfl (by decide) ?_ | refine WX.nil ?_ | refine W.seq ?_ | refine W.region ?_ | refine W.regionD ?_ | refine W.block ?_ | refine W.skip ?_ | refine W.exit ?_ | refine W.ret ?_ | refine W.condT rfl ?_ | refine W.condF rfl ?_ | refine WX.skip rfl ?_)
  refine WX.call tab_eq rfl rfl rfl rfl rfl c rfl rfl ?_
  repeat (first | refine WX.step tab_eq rfl rfl trivial ?_ | refine WX.step tab_eq rfl rfl (by decide) ?_ | refine WX.nil ?_ | refine W.seq ?_ | refine W.region ?_ | refine W.regionD ?_ | refine W.block ?_ | refine W.skip ?_ | refine W.exit ?_ | refine W.ret ?_ | refine W.condT rfl ?_ | refine W.condF rfl ?_ | refine WX.skip rfl ?_)
  exact b) : A := h c b
theorem zd0 {A B : Prop} (b : B) (h : B → A := by
  intro b
  repeat (first | refine WX.stepD tab_eq rfl rfl trivial ?_ | refine WX.stepD tab_eq rfl rfl (by decide) ?_ | refine WX.skipD rfl ?_)
  exact b) : A := h b
theorem zd4 {A B C : Prop} (c : C) (b : B) (h : C → B → A := by
  intro c b
  refine WX.callD tab_eq rfl rfl rfl rfl rfl c rfl rfl ?_
  repeat (first | refine WX.stepD tab_eq rfl rfl trivial ?_ | refine WX.stepD tab_eq rfl rfl (by decide) ?_ | refine WX.skipD rfl ?_)
  exact b) : A := h c b
theorem zd6 {A B C : Prop} (c : C) (b : B) (h : C → B → A := by
  intro c b
  repeat (first | refine WX.stepD tab_eq rfl rfl trivial ?_ | refine WX.stepD tab_eq rfl rfl (by decide) ?_ | refine WX.skipD rfl ?_)
  refine WX.callD tab_eq rfl rfl rfl rfl rfl c rfl rfl ?_
  repeat (first | refine WX.stepD tab_eq rfl rfl trivial ?_ | refine WX.stepD tab_eq rfl rfl (by decide) ?_ | refine WX.skipD rfl ?_)
  refine WX.nilD (by kernel_rfl) ?_
  repeat (first | refine WX.step tab_eq rfl rfl trivial ?_ | refine WX.step tab_eq rfl rfl (by decide) ?_ | refine WX.nil ?_ | refine W.seq ?_ | refine W.region ?_ | refine W.regionD ?_ | refine W.block ?_ | refine W.skip ?_ | refine W.exit ?_ | refine W.ret ?_ | refine W.condT rfl ?_ | refine W.condF rfl ?_ | refine WX.skip rfl ?_)
  exact b) : A := h c b
theorem zd8 {A B : Prop} (b : B) (h : B → A := by
  intro b
  repeat (first | refine WX.step tab_eq rfl rfl trivial ?_ | refine WX.step tab_eq rfl rfl (by decide) ?_ | refine WX.nil ?_ | refine W.seq ?_ | refine W.region ?_ | refine W.regionD ?_ | refine W.block ?_ | refine W.skip ?_ | refine W.exit ?_ | refine W.ret ?_ | refine W.condT rfl ?_ | refine W.condF rfl ?_ | refine WX.skip rfl ?_)
  repeat (first | refine WX.stepD tab_eq rfl rfl trivial ?_ | refine WX.stepD tab_eq rfl rfl (by decide) ?_ | refine WX.skipD rfl ?_)
  exact b) : A := h b
end Go.PE
