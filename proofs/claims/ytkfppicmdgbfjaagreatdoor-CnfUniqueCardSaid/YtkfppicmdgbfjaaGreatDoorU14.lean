/-
  A part of the proof that the law's function returns true and leaves its arguments as they were, for every input (no condition): own lemmas of the proof, in the order of their use.
-/
import Derived.Test.YtkfppicmdgbfjaaGreatDoorU13
set_option linter.all false
namespace Go.PE
open Go.RowKit
section
variable {P : Program} {Φ : FuncId → List PV → Option (PV × List (List PV))} {keep : List Nat} {p : Stamp} {rs : Operand → PV × PV} {c : Prop} {u : Ups}
theorem view_fst {v : PV} {r : PV} {w : PV} (h : PE.view (v, .dead) = some w) (hn : ∀ a b d e f, v ≠ .snap a b d e f) : PE.view (v, r) = some w := by
  unfold PE.view at h ⊢
  cases v <;> first | exact h | exact absurd rfl (hn _ _ _ _ _)
theorem buildC_eq (t : TypeId) (parts : List (Nat × Operand)) (rs : Operand → PV × PV) (zs : List PV) : buildC (tdOf P) t parts rs zs = buildP P t parts rs zs := rfl
set_option maxHeartbeats 1600000 in
theorem semC_sound {o : Oper} (h : semC (tdOf P) keep p o rs = some (c, u)) (hc : c) : sem P Φ keep p o rs = some u := by
  obtain ⟨dst, op, ty, pos, after, guard⟩ := o
  unfold semC at h
  simp only at h
  split at h
  · -- call
    split at h
    · cases h
    · rename_i hr
      simp only [sem]
      rw [if_neg hr]
      exact builtinC_sound h hc
  · -- store
    rename_i t x y
    rw [onVR_eq, onVR_eq] at h
    split at h
    · rename_i n hn
      have hn : sizeT P t = some n := hn
      simp only [sem, hn]
      exact yes_eq h
    · cases h
  · rename_i t m k v
    split at h
    · rename_i ag zs hm
      have hm : mapT P t = some (ag, zs) := hm
      simp only [sem, hm]
      exact yes_eq h
    · cases h
  · rename_i t d
    split at h
    · rename_i ag zs hm
      have hm : mapT P t = some (ag, zs) := hm
      cases h
      simp only [sem, hm]
    · cases h
  · rename_i t x k ok d
    split at h
    · rename_i m hm
      have hm : mapT P t = some m := hm
      simp only [sem, hm]
      exact yes_eq h
    · cases h
  · rename_i x d
    rw [onVR_eq] at h
    split at h
    · rename_i b hb
      have hm : moveS false keep p d x (hint P ty x (rs x)) = some [(d, .bool b)] := by
        unfold moveS
        have hb : (hint P ty x (rs x)).1 = .bool b := hb
        rw [hb]
        rfl
      simp only [sem, hm]
      split at h <;> (cases h; rfl)
    · exact yes_eq h
  · rename_i x d
    rw [onVR_eq] at h
    exact yes_eq h
  · rename_i cc a b d
    split at h
    · rename_i t ht
      simp only [sem, ht]
      split at h
      · rename_i va vb h1 h2
        cases h
        simp only [h1, h2]
        cases t <;> rfl
      · rename_i va h1 h2
        cases h
        subst hc
        simp only [h1]
        rfl
      · rename_i vb h1 h2
        cases h
        subst hc
        simp only [h1]
        rfl
      · cases h
    · cases h
  · rename_i t d
    split at h
    · rename_i cs hz
      cases h
      have hz : zeroT P t = some cs := hz
      simp only [sem, hz]
    · cases h
  · rename_i t x d
    rw [onVR_eq] at h
    split at h
    · rename_i n cs u0 hn hp
      have hn : sizeT P t = some n := hn
      split at h
      · rename_i h1
        cases h
        rw [hintT_const] at hp
        simp only [sem, hn, hp]
        rw [if_pos h1]
      · cases h
    · rename_i n hn hp
      have hn : sizeT P t = some n := hn
      rw [hintT_const] at hp
      simp only [sem, hn, hp]
      exact yes_eq h
    · cases h
  · rename_i t parts d
    split at h
    · cases h
    · rename_i zs hz
      have hz : zeroT P t = some zs := hz
      split at h
      · rename_i hk
        simp only [sem, hz]
        rw [if_pos hk]
        exact yes_eq h
      rename_i hk
      split at h
      · rename_i cs u0 hb
        rw [buildC_eq] at hb
        split at h
        · rename_i h1
          cases h
          simp only [sem, hz, hb]
          rw [if_neg hk, if_pos h1]
        · cases h
      · cases h
  · rename_i t len parts d
    split at h
    · rename_i n bb zs el h1 h2 h3
      have h1 : rowT P t = some (n, bb) := h1
      have h2 : (elemT P t).bind (zeroT P) = some zs := h2
      have h3 := und_slice (show ukOf (P.underlying t) = .slice el from h3)
      have he : elemT P t = some el := by simp [elemT, h3]
      split at h
      · rename_i h4
        split at h
        · rename_i xs u0 h5
          split at h
          · rename_i h6
            rw [onLL_eq] at h
            cases h
            simp only [sem, h1, h2]
            rw [if_pos h4, he, Option.getD_some]
            have h5 : elemsS n (fun x => hint P el x (rs x)) parts.toList (List.replicate len (List.map frzC zs)) = some (xs, u0) := h5
            simp only [h5]
            rw [if_pos h6]
          · cases h
        · cases h
      · cases h
    · cases h
  · rename_i t x d
    rw [onVR_eq] at h
    split at h
    · rename_i n a h1 h2
      have h1 : sizeT P t = some n := h1
      have h2 : isAggT P t = some a := h2
      split at h
      · rename_i h3
        simp only [sem, h1, h2]
        rw [if_pos h3]
        exact yes_eq h
      · cases h
    · cases h
  · rename_i x d
    rw [onVR_eq] at h
    exact yes_eq h
  · rename_i t x f d
    rw [onVR_eq] at h
    split at h
    · rename_i off n a t' h1
      have h1 := fieldT_of h1
      split at h
      · cases h
      · rename_i h2
        simp only [sem, h1]
        rw [if_neg h2]
        exact yes_eq h
    · cases h
  · rename_i t x i d
    split at h
    · rename_i k n hn
      simp only [sem, hn]
      split at h
      · rename_i len s a ha
        have ha : arrT P t = some (len, s, a) := ha
        rw [onVR_eq] at h
        split at h
        · rename_i u0 hu
          cases h
          simp only [ha]
          rw [if_pos hc]
          exact hu
        · cases h
      · rename_i ha
        have ha : arrT P t = none := ha
        split at h
        · rename_i s bb hr
          have hr : rowT P t = some (s, bb) := hr
          rw [onVR_eq] at h
          simp only [ha, hr]
          exact indexC_sound h hc
        · cases h
    · cases h
  · rename_i t x i d
    split at h
    · rename_i k n hn
      split at h
      · rename_i s hs hu
        have hu := und_str (show ukOf (P.underlying t) = .str from hu)
        cases h
        simp only [sem, hn, hs, hu]
        rw [if_pos hc.1]
        have hlt : n.toNat < s.length := by omega
        rw [List.getElem?_eq_getElem hlt]
        simp [List.getD, List.getElem?_eq_getElem hlt]
      · cases h
    · cases h
  · rename_i t x lo hi d
    split at h
    · rename_i hu
      have hu := und_str (show ukOf (P.underlying t) = .str from hu)
      rw [onVR_eq] at h
      simp only [sem, hu]
      exact sliceC_sound h hc
    · rename_i e hu
      have hu := und_slice (show ukOf (P.underlying t) = .slice e from hu)
      split at h
      · rename_i n bb hr
        have hr : rowT P t = some (n, bb) := hr
        rw [onVR_eq] at h
        simp only [sem, hu, hr]
        exact sliceC_sound h hc
      · cases h
    · cases h
  · rename_i t x f d
    rw [onVR_eq] at h
    split at h
    · rename_i off n a t' h1
      have h1 := fieldT_of h1
      split at h
      · rename_i h2
        simp only [sem, h1]
        rw [if_pos h2]
        exact yes_eq h
      · cases h
    · cases h
  · rename_i x i d
    rw [onVR_eq] at h
    exact yes_eq h
  · rename_i op t x y t2 d
    rw [onV_eq, onV_eq] at h
    exact binC_sound h hc
  · rename_i t x d
    rw [onV_eq] at h
    split at h
    · cases h
    · cases h
    · rename_i k hu
      have hu := und_int (show ukOf (P.underlying t) = .int k from hu)
      split at h
      · rename_i k n hx
        cases h
        simp only [sem, hu, hx]
      · rename_i hx
        cases h
        simp only [sem, hu]
    · rename_i h1 h2 h3
      cases h
      cases hu : P.underlying t with
      | none => exact absurd (show ukOf (P.underlying t) = .none by rw [hu]; rfl) h1
      | some dsc =>
        cases dsc <;> first
          | (simp only [sem, hu]; done)
          | exact absurd (show ukOf (P.underlying t) = .iface by rw [hu]; rfl) h2
          | exact absurd (show ukOf (P.underlying t) = .int _ by rw [hu]; rfl) (h3 _)
  · rename_i op t x d
    rw [onV_eq] at h
    split at h
    · rename_i k n hx
      cases h
      simp only [sem, unS, hx]
    · rename_i b hx
      cases h
      simp only [sem, unS, hx]
    · cases h
  · rename_i s t x d
    rw [onV_eq] at h
    obtain ⟨v, w, h1, h2, rfl⟩ := convC_sound h hc
    have h3 : PE.view (rs x) = some v := by
      refine view_fst h1 fun a b d e f hx => ?_
      rw [hx] at h1
      simp [PE.view, rowIf, rowAt?] at h1
    simp only [sem, h3, h2]
  · rename_i t l cc d
    split at h
    · rename_i n bb zs k1 l1 k2 c1 h1 h2 h3 h4
      have h1 : rowT P t = some (n, bb) := h1
      have h2 : (elemT P t).bind (zeroT P) = some zs := h2
      split at h
      · rename_i h5
        cases h
        simp only [sem, h1, h2, h3, h4]
        rw [if_pos ⟨hc.1, hc.2.1, hc.2.2.1, hc.2.2.2, h5.1, h5.2⟩]
      · cases h
    · cases h
  · rename_i f first caps d
    split at h
    · rename_i h1
      split at h
      · rename_i cs u0 h2
        split at h
        · rename_i h3
          cases h
          simp only [sem]
          rw [if_pos h1]
          simp only [h2]
          rw [if_pos h3]
        · cases h
      · cases h
    · cases h
  · cases h
variable {ops : Array Oper} {rid i : Nat} {o : Oper} {r : List Oper} {e : List (Nat × PV)} {acc : Option Lg} {K : List (Nat × PV) → Prop} {td : TypeId → TD}
/-- One operation, by its condition. -/
theorem WX.stepD (htd : td = tdOf P) (hg : guardOf ops o (lookup e) = some true) (h : semC td keep (rid, i) o (res (lookup e)) = some (c, u)) (hc : c)
    (k : onUps u e fun e' => WX P Φ keep ops rid (i + 1) r e' (nxt acc (foot ops o (lookup e)) u) K) : WX P Φ keep ops rid i (o :: r) e acc K := by
  subst htd
  exact WX.raw hg (semC_sound h hc) k
theorem WX.step (htd : td = tdOf P) (hg : guardOf ops o (lookup e) = some true) (h : semC td keep (rid, i) o (res (lookup e)) = some (c, u)) (hc : c)
    (k : onUps u e fun e' => WX P Φ keep ops rid (i + 1) r e' none K) : WX P Φ keep ops rid i (o :: r) e none K := WX.stepD htd hg h hc k
/-- An operation that gives a truth value: the way parts. -/
theorem WX.boolD (htd : td = tdOf P) (hg : guardOf ops o (lookup e) = some true) {d : Nat} {t : Bool} (h : semC td keep (rid, i) o (res (lookup e)) = some (c, [(d, .bool t)])) (hc : c)
    (k1 : t = true → WX P Φ keep ops rid (i + 1) r ((d, .bool true) :: e) (nxt acc (foot ops o (lookup e)) [(d, .bool true)]) K)
    (k2 : t = false → WX P Φ keep ops rid (i + 1) r ((d, .bool false) :: e) (nxt acc (foot ops o (lookup e)) [(d, .bool false)]) K) : WX P Φ keep ops rid i (o :: r) e acc K := by
  refine WX.stepD htd hg h hc ?_
  rw [onUps_eq]
  cases t with
  | true => exact k1 rfl
  | false => exact k2 rfl
theorem WX.bool (htd : td = tdOf P) (hg : guardOf ops o (lookup e) = some true) {d : Nat} {t : Bool} (h : semC td keep (rid, i) o (res (lookup e)) = some (c, [(d, .bool t)])) (hc : c)
    (k1 : t = true → WX P Φ keep ops rid (i + 1) r ((d, .bool true) :: e) none K)
    (k2 : t = false → WX P Φ keep ops rid (i + 1) r ((d, .bool false) :: e) none K) : WX P Φ keep ops rid i (o :: r) e none K := WX.boolD htd hg h hc k1 k2
end
end Go.PE
namespace Go.PE
open Go.RowKit
section
variable {P : Program} {Φ : FuncId → List PV → Option (PV × List (List PV))} {keep : List Nat}
variable {ops : Array Oper} {rid i : Nat} {r : List Oper} {e : List (Nat × PV)} {acc : Option Lg} {K : List (Nat × PV) → Prop} {td : TypeId → TD}
variable {ty : TypeId} {pos : String} {after : Array Edge} {guard : Option (Nat × Bool)}
/-- The address of an element in memory that nobody writes. -/
theorem WX.idxImmD (htd : td = tdOf P) {d : Nat} {t : TypeId} {x y : Operand} {k : IntKind} {n : Int} {sz bb : Nat} {xs : List (List PV)} {cell : List PV}
    (hg : guardOf ops { dst := some d, op := .indexAddr t x y, type := ty, pos := pos, after := after, guard := guard } (lookup e) = some true)
    (hi : (res (lookup e) y).1 = .int k n) (hx : (res (lookup e) x).1 = .imm sz xs) (ha : (td t).arr = none) (hr : (td t).row = some (sz, bb)) (hs : Nat.blt 0 sz = true) (h0 : 0 ≤ n) (hc : xs[n.toNat]? = some cell)
    (k : WX P Φ keep ops rid (i + 1) r ((d, .iptr cell 0) :: e) (nxt acc (foot ops { dst := some d, op := .indexAddr t x y, type := ty, pos := pos, after := after, guard := guard } (lookup e)) [(d, .iptr cell 0)]) K) :
    WX P Φ keep ops rid i ({ dst := some d, op := .indexAddr t x y, type := ty, pos := pos, after := after, guard := guard } :: r) e acc K := by
  subst htd
  have ha : arrT P t = none := ha
  have hr : rowT P t = some (sz, bb) := hr
  refine WX.raw hg (u := [(d, .iptr cell 0)]) ?_ (by rw [onUps_eq]; exact k)
  have hs' : 0 < sz := by have := hs; simp only [Nat.blt, Nat.ble_eq] at this; omega
  simp only [sem, hi, ha, hr, indexS, hx]
  rw [if_pos (by simp only [true_and]; exact ⟨hs', h0⟩), hc]
theorem WX.idxImm (htd : td = tdOf P) {d : Nat} {t : TypeId} {x y : Operand} {k : IntKind} {n : Int} {sz bb : Nat} {xs : List (List PV)} {cell : List PV}
    (hg : guardOf ops { dst := some d, op := .indexAddr t x y, type := ty, pos := pos, after := after, guard := guard } (lookup e) = some true)
    (hi : (res (lookup e) y).1 = .int k n) (hx : (res (lookup e) x).1 = .imm sz xs) (ha : (td t).arr = none) (hr : (td t).row = some (sz, bb)) (hs : Nat.blt 0 sz = true) (h0 : 0 ≤ n) (hc : xs[n.toNat]? = some cell)
    (k : WX P Φ keep ops rid (i + 1) r ((d, .iptr cell 0) :: e) none K) :
    WX P Φ keep ops rid i ({ dst := some d, op := .indexAddr t x y, type := ty, pos := pos, after := after, guard := guard } :: r) e none K := WX.idxImmD htd hg hi hx ha hr hs h0 hc k
def ldV (a : Bool) (n k : Nat) (cell : List PV) : Option PV :=
  if k + n ≤ cell.length then
    if a then (if ((cell.drop k).take n).all okC then some (.agg ((cell.drop k).take n)) else none)
    else match (cell.drop k).take n with
      | [c] => if okC c then some c else none
      | _ => none
  else none
/-- A load out of an element of a row. -/
theorem WX.ldElemD (htd : td = tdOf P) {d : Nat} {t : TypeId} {x : Operand} {rr j kk sz n : Nat} {pl : Option Nat} {st : Stamp} {xs : List (List PV)} {cell : List PV} {a : Bool} {v : PV}
    (hg : guardOf ops { dst := some d, op := .load t x, type := ty, pos := pos, after := after, guard := guard } (lookup e) = some true)
    (hx : (res (lookup e) x).1 = .eloc rr pl st j kk) (hr : rowIf (res (lookup e) x).2 pl st = some (sz, xs)) (hc : xs[j]? = some cell) (hn : (td t).size = some n) (ha : (td t).agg = some a)
    (han : (a || Nat.beq n 1) = true) (hv : ldV a n kk cell = some v)
    (k : onV v fun v => WX P Φ keep ops rid (i + 1) r ((d, v) :: e) (nxt acc (foot ops { dst := some d, op := .load t x, type := ty, pos := pos, after := after, guard := guard } (lookup e)) [(d, v)]) K) :
    WX P Φ keep ops rid i ({ dst := some d, op := .load t x, type := ty, pos := pos, after := after, guard := guard } :: r) e acc K := by
  subst htd
  have hn : sizeT P t = some n := hn
  have ha : isAggT P t = some a := ha
  rw [onV_eq] at k
  refine WX.raw hg (u := [(d, v)]) ?_ (by rw [onUps_eq]; exact k)
  have han' : a = true ∨ n = 1 := by simpa using han
  simp only [sem, hn, ha]
  rw [if_pos han']
  unfold loadS
  have hp : placeOf x (res (lookup e) x) = some (.elem rr pl (res (lookup e) x).2 st sz xs j kk) := by
    unfold placeOf
    rw [hx]
    simp only [hr]
  unfold ldV at hv
  split at hv
  · rename_i hk
    have hcells : (Place.elem rr pl (res (lookup e) x).2 st sz xs j kk).cells n = some ((cell.drop kk).take n) := by
      simp only [Place.cells, hc]
      rw [if_pos hk]
    simp only [hp, hcells]
    split at hv
    · rename_i hat
      subst hat
      split at hv
      · rename_i hall
        cases hv
        simp only [if_true]
        rw [if_pos hall]
      · cases hv
    · rename_i hat
      rw [if_neg hat]
      split at hv
      · rename_i c hcc
        split at hv
        · rename_i hok
          cases hv
          rw [hcc]
          cases v <;> first | rfl | simp [okC] at hok
        · cases hv
      · cases hv
  · cases hv
theorem WX.ldElem (htd : td = tdOf P) {d : Nat} {t : TypeId} {x : Operand} {rr j kk sz n : Nat} {pl : Option Nat} {st : Stamp} {xs : List (List PV)} {cell : List PV} {a : Bool} {v : PV}
    (hg : guardOf ops { dst := some d, op := .load t x, type := ty, pos := pos, after := after, guard := guard } (lookup e) = some true)
    (hx : (res (lookup e) x).1 = .eloc rr pl st j kk) (hr : rowIf (res (lookup e) x).2 pl st = some (sz, xs)) (hc : xs[j]? = some cell) (hn : (td t).size = some n) (ha : (td t).agg = some a)
    (han : (a || Nat.beq n 1) = true) (hv : ldV a n kk cell = some v)
    (k : onV v fun v => WX P Φ keep ops rid (i + 1) r ((d, v) :: e) none K) :
    WX P Φ keep ops rid i ({ dst := some d, op := .load t x, type := ty, pos := pos, after := after, guard := guard } :: r) e none K := WX.ldElemD htd hg hx hr hc hn ha han hv k
/-- A store into an element of a row. -/
theorem WX.stElemD (htd : td = tdOf P) {t : TypeId} {x y : Operand} {rr j kk sz n : Nat} {pl : Option Nat} {st : Stamp} {xs : List (List PV)} {cell new : List PV}
    (hg : guardOf ops { dst := none, op := .store t x y, type := ty, pos := pos, after := after, guard := guard } (lookup e) = some true)
    (hx : (res (lookup e) x).1 = .eloc rr pl st j kk) (hr : rowIf (res (lookup e) x).2 pl st = some (sz, xs)) (hc : xs[j]? = some cell) (hn : (td t).size = some n)
    (hy : cellsFrozen y (hintT td t y (res (lookup e) y)) = some (new, [])) (hl : (Nat.beq new.length n && Nat.ble (kk + n) cell.length) = true)
    (k : onL (splice cell new kk) fun c' => onV (putAt (res (lookup e) x).2 pl (.own st sz (xs.set j c'))) fun v => WX P Φ keep ops rid (i + 1) r ((rr, v) :: e)
      (nxt acc (foot ops { dst := none, op := .store t x y, type := ty, pos := pos, after := after, guard := guard } (lookup e)) [(rr, v)]) K) :
    WX P Φ keep ops rid i ({ dst := none, op := .store t x y, type := ty, pos := pos, after := after, guard := guard } :: r) e acc K := by
  subst htd
  have hn : sizeT P t = some n := hn
  rw [onL_eq, onV_eq] at k
  refine WX.raw hg (u := [(rr, putAt (res (lookup e) x).2 pl (.own st sz (xs.set j (splice cell new kk))))]) ?_ (by rw [onUps_eq]; exact k)
  have hp : placeOf x (res (lookup e) x) = some (.elem rr pl (res (lookup e) x).2 st sz xs j kk) := by
    unfold placeOf
    rw [hx]
    simp only [hr]
  rw [Bool.and_eq_true, Nat.beq_eq, Nat.ble_eq] at hl
  have hy : cellsFrozen y (hint P t y (res (lookup e) y)) = some (new, []) := hy
  have hq : storeP n x (res (lookup e) x) y (hint P t y (res (lookup e) y)) = none := by
    unfold storeP
    split
    · rename_i hb; rw [hx] at hb; cases hb
    · rfl
  simp only [sem, hn, storeQ, hq, storeS, hp, hy, hc]
  rw [if_pos ⟨hl.1, hl.2, rfl⟩]
theorem WX.stElem (htd : td = tdOf P) {t : TypeId} {x y : Operand} {rr j kk sz n : Nat} {pl : Option Nat} {st : Stamp} {xs : List (List PV)} {cell new : List PV}
    (hg : guardOf ops { dst := none, op := .store t x y, type := ty, pos := pos, after := after, guard := guard } (lookup e) = some true)
    (hx : (res (lookup e) x).1 = .eloc rr pl st j kk) (hr : rowIf (res (lookup e) x).2 pl st = some (sz, xs)) (hc : xs[j]? = some cell) (hn : (td t).size = some n)
    (hy : cellsFrozen y (hintT td t y (res (lookup e) y)) = some (new, [])) (hl : (Nat.beq new.length n && Nat.ble (kk + n) cell.length) = true)
    (k : onL (splice cell new kk) fun c' => onV (putAt (res (lookup e) x).2 pl (.own st sz (xs.set j c'))) fun v => WX P Φ keep ops rid (i + 1) r ((rr, v) :: e) none K) :
    WX P Φ keep ops rid i ({ dst := none, op := .store t x y, type := ty, pos := pos, after := after, guard := guard } :: r) e none K := WX.stElemD htd hg hx hr hc hn hy hl k
/-- The arguments of a call. -/
def argsC (td : TypeId → TD) (c : Call) (rs : Operand → PV × PV) (caps : List PV) : Option (List PV × Ups × List (Nat × Stamp)) :=
  match argsS ((c.args.toList.zipIdx).map fun (x, i) => (x, hintT td (c.argTypes.getD i 0) x (rs x))) with
  | some (vs, us, bs) => onL1 (vs ++ caps) fun vs' => some (vs', us, bs)
  | none => none
theorem WX.callD (htd : td = tdOf P) {dst : Option Nat} {c : Call} {f : Operand} {g : FuncId} {caps avs : List PV} {us ub : Ups} {bs : List (Nat × Stamp)} {rv : PV} {outs : List (List PV)}
    (hg : guardOf ops { dst := dst, op := .call c, type := ty, pos := pos, after := after, guard := guard } (lookup e) = some true)
    (hcal : c.callee = .value f) (hf : (res (lookup e) f).1 = .func g caps) (hw : (wrB g || prB g || (bkG g).isSome || rdB keep dst) = false) (ha : argsC td c (res (lookup e)) caps = some (avs, us, bs))
    (hΦ : Φ g avs = some (rv, outs)) (hb : backS (rid, i) bs outs = some ub)
    (hn : nodupB (((if scalar rv && bs.isEmpty then [] else us) ++ ub ++ dstUps (rid, i) dst rv).map (·.1)) = true)
    (k : onUps ((if scalar rv && bs.isEmpty then [] else us) ++ ub ++ dstUps (rid, i) dst rv) e fun e' => WX P Φ keep ops rid (i + 1) r e'
      (nxt acc (foot ops { dst := dst, op := .call c, type := ty, pos := pos, after := after, guard := guard } (lookup e)) ((if scalar rv && bs.isEmpty then [] else us) ++ ub ++ dstUps (rid, i) dst rv)) K) :
    WX P Φ keep ops rid i ({ dst := dst, op := .call c, type := ty, pos := pos, after := after, guard := guard } :: r) e acc K := by
  subst htd
  refine WX.raw hg ?_ k
  unfold argsC at ha
  split at ha
  · rename_i vs us' bs' h1
    rw [onL1_eq] at ha
    cases ha
    rw [Bool.or_eq_false_iff, Bool.or_eq_false_iff, Bool.or_eq_false_iff] at hw
    have hbk : bkG g = none := by simpa using hw.1.2
    simp only [sem, hw.2, callOf, hcal, hf, hbk, hw.1.1.1, hw.1.1.2, Bool.false_eq_true, if_false, callS]
    have h1 : argsS ((c.args.toList.zipIdx).map fun (x, i) => (x, hint P (c.argTypes.getD i 0) x (res (lookup e) x))) = some (vs, us, bs) := h1
    simp only [h1, hΦ, hb]
    rw [if_pos hn]
  · cases ha
theorem WX.call (htd : td = tdOf P) {dst : Option Nat} {c : Call} {f : Operand} {g : FuncId} {caps avs : List PV} {us ub : Ups} {bs : List (Nat × Stamp)} {rv : PV} {outs : List (List PV)}
    (hg : guardOf ops { dst := dst, op := .call c, type := ty, pos := pos, after := after, guard := guard } (lookup e) = some true)
    (hcal : c.callee = .value f) (hf : (res (lookup e) f).1 = .func g caps) (hw : (wrB g || prB g || (bkG g).isSome || rdB keep dst) = false) (ha : argsC td c (res (lookup e)) caps = some (avs, us, bs))
    (hΦ : Φ g avs = some (rv, outs)) (hb : backS (rid, i) bs outs = some ub)
    (hn : nodupB (((if scalar rv && bs.isEmpty then [] else us) ++ ub ++ dstUps (rid, i) dst rv).map (·.1)) = true)
    (k : onUps ((if scalar rv && bs.isEmpty then [] else us) ++ ub ++ dstUps (rid, i) dst rv) e fun e' => WX P Φ keep ops rid (i + 1) r e'
      none K) :
    WX P Φ keep ops rid i ({ dst := dst, op := .call c, type := ty, pos := pos, after := after, guard := guard } :: r) e none K := WX.callD htd hg hcal hf hw ha hΦ hb hn k
theorem res_of {e : Env} {s : Nat} {v : PV} (h : opv e (.tmp s) = v) : res e (.tmp s) = (v, match rootOf v with | some r => e r | none => .dead) := by unfold res; rw [h]; rfl
/-- A call that gives a first part of a row. -/
theorem WX.callPD {d s : Nat} {at0 : Array TypeId} {f : Operand} {g : FuncId} {rr off len sz : Nat} {st st' : Stamp} {xs : List (List PV)} {m : Int}
    (hg : guardOf ops { dst := some d, op := .call { callee := .value f, args := #[.tmp s], argTypes := at0 }, type := ty, pos := pos, after := after, guard := guard } (lookup e) = some true)
    (hf : (res (lookup e) f).1 = .func g []) (hw : (!wrB g && prB g && (bkG g).isNone && !rdB keep (some d)) = true) (hx : opv (lookup e) (.tmp s) = .snap rr none st off len) (hrow : lookup e rr = .own st' sz xs) (hst : st' = st) (hrd : Nat.beq rr d = false)
    (hfl : flat1 xs = true) (hc : 0 ≤ m ∧ m ≤ len ∧ off + len ≤ xs.length) (hΦ : Φ g [.own (0, 0) sz ((xs.drop off).take len)] = some (.int .i64 m, []))
    (k : WX P Φ keep ops rid (i + 1) r ((d, .snap rr none st off m.toNat) :: e) (nxt acc (foot ops { dst := some d, op := .call { callee := .value f, args := #[.tmp s], argTypes := at0 }, type := ty, pos := pos, after := after, guard := guard } (lookup e)) [(d, .snap rr none st off m.toNat)]) K) :
    WX P Φ keep ops rid i ({ dst := some d, op := .call { callee := .value f, args := #[.tmp s], argTypes := at0 }, type := ty, pos := pos, after := after, guard := guard } :: r) e acc K := by
  subst hst
  refine WX.raw hg (u := [(d, .snap rr none st' off m.toNat)]) ?_ (by rw [onUps_eq]; exact k)
  rw [Bool.and_eq_true, Bool.and_eq_true, Bool.and_eq_true, Bool.not_eq_true', Bool.not_eq_true'] at hw
  have hbk : bkG g = none := by simpa using hw.1.2
  have hrd : ¬ rr = d := by
    intro h
    subst h
    simp at hrd
  have hres : res (lookup e) (.tmp s) = (.snap rr none st' off len, lookup e rr) := res_of hx
  simp only [sem, hw.2, callOf, hf, hbk, hw.1.1.1, hw.1.1.2, Bool.false_eq_true, if_false, if_true, callPS, List.zipIdx_cons, List.zipIdx_nil, List.map_cons, List.map_nil, hres, hint, hrow, hΦ]
  rw [if_pos ⟨trivial, hrd, hc.1, hc.2.1, hc.2.2, hfl⟩]
theorem WX.callP {d s : Nat} {at0 : Array TypeId} {f : Operand} {g : FuncId} {rr off len sz : Nat} {st st' : Stamp} {xs : List (List PV)} {m : Int}
    (hg : guardOf ops { dst := some d, op := .call { callee := .value f, args := #[.tmp s], argTypes := at0 }, type := ty, pos := pos, after := after, guard := guard } (lookup e) = some true)
    (hf : (res (lookup e) f).1 = .func g []) (hw : (!wrB g && prB g && (bkG g).isNone && !rdB keep (some d)) = true) (hx : opv (lookup e) (.tmp s) = .snap rr none st off len) (hrow : lookup e rr = .own st' sz xs) (hst : st' = st) (hrd : Nat.beq rr d = false)
    (hfl : flat1 xs = true) (hc : 0 ≤ m ∧ m ≤ len ∧ off + len ≤ xs.length) (hΦ : Φ g [.own (0, 0) sz ((xs.drop off).take len)] = some (.int .i64 m, []))
    (k : WX P Φ keep ops rid (i + 1) r ((d, .snap rr none st off m.toNat) :: e) none K) :
    WX P Φ keep ops rid i ({ dst := some d, op := .call { callee := .value f, args := #[.tmp s], argTypes := at0 }, type := ty, pos := pos, after := after, guard := guard } :: r) e none K := WX.callPD hg hf hw hx hrow hst hrd hfl hc hΦ k
theorem WX.callO {d s : Nat} {at0 : Array TypeId} {f : Operand} {g : FuncId} {sz : Nat} {st : Stamp} {xs : List (List PV)} {m : Int}
    (hg : guardOf ops { dst := some d, op := .call { callee := .value f, args := #[.tmp s], argTypes := at0 }, type := ty, pos := pos, after := after, guard := guard } (lookup e) = some true)
    (hf : (res (lookup e) f).1 = .func g []) (hw : (!wrB g && prB g && (bkG g).isNone && !rdB keep (some d)) = true) (hx : opv (lookup e) (.tmp s) = .own st sz xs) (hrd : Nat.beq s d = false)
    (hfl : flat1 xs = true) (hc : 0 ≤ m ∧ m ≤ xs.length) (hΦ : Φ g [.own (0, 0) sz xs] = some (.int .i64 m, []))
    (k : WX P Φ keep ops rid (i + 1) r ((d, .snap s none st 0 m.toNat) :: e) none K) :
    WX P Φ keep ops rid i ({ dst := some d, op := .call { callee := .value f, args := #[.tmp s], argTypes := at0 }, type := ty, pos := pos, after := after, guard := guard } :: r) e none K := by
  refine WX.rawN hg (u := [(d, .snap s none st 0 m.toNat)]) ?_ (by rw [onUps_eq]; exact k)
  rw [Bool.and_eq_true, Bool.and_eq_true, Bool.and_eq_true, Bool.not_eq_true', Bool.not_eq_true'] at hw
  have hbk : bkG g = none := by simpa using hw.1.2
  have hrd : ¬ s = d := by
    intro h
    subst h
    simp at hrd
  have hres : (res (lookup e) (.tmp s)).1 = .own st sz xs := hx
  simp only [sem, hw.2, callOf, hf, hbk, hw.1.1.1, hw.1.1.2, Bool.false_eq_true, if_false, if_true, callPS, List.zipIdx_cons, List.zipIdx_nil, List.map_cons, List.map_nil, hres, hint, hΦ]
  rw [if_pos ⟨hrd, hc.1, hc.2, hfl⟩]
theorem WX.convSD (htd : td = tdOf P) {d : Nat} {s t el : TypeId} {x : Operand} {xs : List (List PV)} {b : List UInt8} {sz : Nat}
    (hg : guardOf ops { dst := some d, op := .convert s t x, type := ty, pos := pos, after := after, guard := guard } (lookup e) = some true)
    (hx : view (res (lookup e) x) = some (.imm sz xs)) (hs : (td s).und = .slice el) (he : (td el).und = .int .u8) (ht : (td t).und = .str) (hb : bytesOf? xs = some b)
    (k : WX P Φ keep ops rid (i + 1) r ((d, .str b) :: e) (nxt acc (foot ops { dst := some d, op := .convert s t x, type := ty, pos := pos, after := after, guard := guard } (lookup e)) [(d, .str b)]) K) :
    WX P Φ keep ops rid i ({ dst := some d, op := .convert s t x, type := ty, pos := pos, after := after, guard := guard } :: r) e acc K := by
  subst htd
  refine WX.raw hg (u := [(d, .str b)]) ?_ (by rw [onUps_eq]; exact k)
  have hs := und_slice (show ukOf (P.underlying s) = _ from hs)
  have he := und_int (show ukOf (P.underlying el) = _ from he)
  have ht := und_str (show ukOf (P.underlying t) = _ from ht)
  simp only [sem, hx, PE.convS, hs, ht, he, hb, Option.map_some]
theorem WX.convS (htd : td = tdOf P) {d : Nat} {s t el : TypeId} {x : Operand} {xs : List (List PV)} {b : List UInt8} {sz : Nat}
    (hg : guardOf ops { dst := some d, op := .convert s t x, type := ty, pos := pos, after := after, guard := guard } (lookup e) = some true)
    (hx : view (res (lookup e) x) = some (.imm sz xs)) (hs : (td s).und = .slice el) (he : (td el).und = .int .u8) (ht : (td t).und = .str) (hb : bytesOf? xs = some b)
    (k : WX P Φ keep ops rid (i + 1) r ((d, .str b) :: e) none K) :
    WX P Φ keep ops rid i ({ dst := some d, op := .convert s t x, type := ty, pos := pos, after := after, guard := guard } :: r) e none K := WX.convSD htd hg hx hs he ht hb k
/-- A truth value is read: the way parts. -/
theorem WX.boolMD {d s : Nat} {t : Bool} (hg : guardOf ops { dst := some d, op := .move (.tmp s), type := ty, pos := pos, after := after, guard := guard } (lookup e) = some true) (hx : opv (lookup e) (.tmp s) = .bool t)
    (k1 : t = true → WX P Φ keep ops rid (i + 1) r ((d, .bool true) :: e) (nxt acc (foot ops { dst := some d, op := .move (.tmp s), type := ty, pos := pos, after := after, guard := guard } (lookup e)) [(d, .bool true)]) K)
    (k2 : t = false → WX P Φ keep ops rid (i + 1) r ((d, .bool false) :: e) (nxt acc (foot ops { dst := some d, op := .move (.tmp s), type := ty, pos := pos, after := after, guard := guard } (lookup e)) [(d, .bool false)]) K) :
    WX P Φ keep ops rid i ({ dst := some d, op := .move (.tmp s), type := ty, pos := pos, after := after, guard := guard } :: r) e acc K := by
  refine WX.raw hg (u := [(d, .bool t)]) ?_ ?_
  · have : res (lookup e) (.tmp s) = (.bool t, .dead) := res_of hx
    simp only [sem, this, hint]
    rfl
  · rw [onUps_eq]
    cases t with
    | true => exact k1 rfl
    | false => exact k2 rfl
theorem WX.boolM {d s : Nat} {t : Bool} (hg : guardOf ops { dst := some d, op := .move (.tmp s), type := ty, pos := pos, after := after, guard := guard } (lookup e) = some true) (hx : opv (lookup e) (.tmp s) = .bool t)
    (k1 : t = true → WX P Φ keep ops rid (i + 1) r ((d, .bool true) :: e) none K) (k2 : t = false → WX P Φ keep ops rid (i + 1) r ((d, .bool false) :: e) none K) :
    WX P Φ keep ops rid i ({ dst := some d, op := .move (.tmp s), type := ty, pos := pos, after := after, guard := guard } :: r) e none K := WX.boolMD hg hx k1 k2
theorem WX.moveB {d s : Nat} {t : Bool} (hg : guardOf ops { dst := some d, op := .move (.tmp s), type := ty, pos := pos, after := after, guard := guard } (lookup e) = some true) (hx : opv (lookup e) (.tmp s) = .bool t)
    (k : WX P Φ keep ops rid (i + 1) r ((d, .bool t) :: e) none K) :
    WX P Φ keep ops rid i ({ dst := some d, op := .move (.tmp s), type := ty, pos := pos, after := after, guard := guard } :: r) e none K := by
  refine WX.boolM hg hx (fun h => ?_) (fun h => ?_) <;> (rw [h] at k; exact k)
/-- A call that writes into a row of this call. -/
theorem WX.callW (htd : td = tdOf P) {dst : Option Nat} {s : Nat} {ys : List Operand} {at0 : Array TypeId} {f : Operand} {g : FuncId} {rr off len sz : Nat} {st st' : Stamp} {xs new : List (List PV)} {vs : List PV} {rv : PV} {us : Ups} {args : Array Operand}
    (hg : guardOf ops { dst := dst, op := .call { callee := .value f, args := args, argTypes := at0 }, type := ty, pos := pos, after := after, guard := guard } (lookup e) = some true)
    (hargs : args.toList = .tmp s :: ys) (hf : (res (lookup e) f).1 = .func g []) (hw : (wrB g && (bkG g).isNone && !rdB keep dst) = true) (hx : opv (lookup e) (.tmp s) = .snap rr none st off len) (hroot : lookup e rr = .own st' sz xs) (hst : st' = st)
    (hy : argsS ((ys.zipIdx 1).map fun (x, i) => (x, hintT td (at0.getD i 0) x (res (lookup e) x))) = some (vs, us, [])) (hro : rowOnly rr ((ys.zipIdx 1).map fun (x, i) => (x, hintT td (at0.getD i 0) x (res (lookup e) x))) = true)
    (hΦ : Φ g (.own (0, 0) sz ((xs.drop off).take len) :: vs) = some (rv, new)) (hsc : scalar rv = true) (hdr : (match dst with | some d => Nat.beq d rr | none => false) = false)
    (hfl : flat1 xs = true) (hc : off + len ≤ xs.length ∧ 0 < len ∧ new.length = len) (hnew : new.all (fun c => c.length == sz && c.all scalar1) = true)
    (k : onUps ((rr, .own st sz (xs.take off ++ new ++ xs.drop (off + len))) :: dstUps (rid, i) dst rv) e fun e' => WX P Φ keep ops rid (i + 1) r e' none K) :
    WX P Φ keep ops rid i ({ dst := dst, op := .call { callee := .value f, args := args, argTypes := at0 }, type := ty, pos := pos, after := after, guard := guard } :: r) e none K := by
  subst htd hst
  have hdr : dst ≠ some rr := by
    intro h
    subst h
    simp at hdr
  refine WX.rawN hg (u := (rr, .own st' sz (xs.take off ++ new ++ xs.drop (off + len))) :: dstUps (rid, i) dst rv) ?_ k
  have hres : res (lookup e) (.tmp s) = (.snap rr none st' off len, lookup e rr) := res_of hx
  have hy' : argsS ((ys.zipIdx 1).map fun (x, i) => (x, hint P (at0.getD i 0) x (res (lookup e) x))) = some (vs, us, []) := hy
  have hro' : rowOnly rr ((ys.zipIdx 1).map fun (x, i) => (x, hint P (at0.getD i 0) x (res (lookup e) x))) = true := hro
  have hh : ∀ t v, hint P t (.tmp s) v = v := fun _ _ => rfl
  rw [Bool.and_eq_true, Bool.and_eq_true, Bool.not_eq_true'] at hw
  have hbk : bkG g = none := by simpa using hw.1.2
  simp only [sem, hw.2, Bool.false_eq_true, if_false, callOf, hf, hbk, hw.1.1, if_true, callWS, hargs, List.zipIdx_cons, List.map_cons, hres, hh, hroot, Nat.zero_add, hy', hΦ]
  rw [if_pos ⟨trivial, hsc, hc.1, hc.2.1, hc.2.2, hnew, hro', hdr, hfl⟩]
end
/-- A range over the elements of a slice, the last one first. -/
theorem W.range {P : Program} {Φ : FuncId → List PV → Option (PV × List (List PV))} {keep : List Nat} {lv : Nat → List Nat} {n b : Nat} {s : St} {Q : Ex → St → Prop} {t p0 p1 : Nat} {assign body : Code} {len : Nat}
    (I : Nat → List (Nat × PV) → Prop) (hs : (noW (lv b) assign && noW (lv b) body && !(lv b).contains p0 && !(lv b).contains p1) = true) (hl : backLen (lookup (canon (lv b) (lookup s.2))) t = some len)
    (h0 : I len (canon (lv b) (lookup s.2)))
    (hr : ∀ j e, j < len → I (j + 1) e → ∃ z, backCell (lookup e) t j = some (.int .i64 z) ∧
      W P Φ keep lv n b (.seq assign body) (0, (p1, .int .i64 z) :: (p0, .int .i64 j) :: e) fun ex s' => ex = .normal ∧ I j (canon (lv b) (lookup s'.2)))
    (hd : ∀ e, I 0 e → Q .normal (0, e)) : W P Φ keep lv n b (.rangeFunc (.tmp t) #[p0, p1] assign body) s Q := by
  have key : ∀ j e, j ≤ len → I j e → ∃ e', rangeN (fun j e => match backCell (lookup e) t j with
      | some c => match exec P Φ keep lv n b assign (0, (p1, c) :: (p0, .int .i64 j) :: e) with
        | some (.normal, s) => exec P Φ keep lv n b body s
        | _ => none
      | none => none) (lv b) j e = some e' ∧ I 0 e' := by
    intro j
    induction j with
    | zero => intro e _ h; exact ⟨e, rfl, h⟩
    | succ j ih =>
      intro e hj h
      obtain ⟨z, hz, hw⟩ := hr j e hj h
      obtain ⟨ex, s', h1, rfl, h2⟩ := hw.out
      rw [exec] at h1
      simp only [rangeN, hz]
      split at h1
      · rename_i s1 h3
        rw [h3]
        simp only [h1]
        exact ih _ (Nat.le_of_succ_le hj) h2
      · rename_i hne
        exact absurd h1 (hne _)
  obtain ⟨e', h1, h2⟩ := key len _ (Nat.le_refl _) h0
  obtain ⟨rid, e⟩ := s
  refine ⟨.normal, (0, e'), ?_, hd e' h2⟩
  simp only [exec, rangeA]
  have h1 := congrArg (fun x => (match x with | some e' => some (Ex.normal, (0, e')) | none => none : Option (Ex × St))) h1
  rw [if_pos hs]
  simp only [hl]
  exact h1
/-! ### The tower -/
theorem lvl_enter {P : Program} {X : FuncId → List PV → Option (PV × List (List PV))} {td : TypeId → TD} (htd : td = tdOf P) {keep : FuncId → List Nat} {lv : FuncId → Nat → List Nat} {n k : Nat} {f : FuncId} {avs : List PV} {r : PV × List (List PV)} {fn : Func} {c : Code}
    (hX : X f avs = none) (hf : P.funcs[f]? = some fn) (hc : fn.body = some c) (hn : ¬ (fn.name = "runtime.NumGoroutine" ∨ (wrB f || prB f) = true)) (hok : codeOK fn.ntmps (boxPos avs) c = true) (hl : avs.length ≤ fn.ntmps) (hv : fn.ntmps ≤ VS) (hst : avs.all stamp0 = true)
    (h : W P (lvl P X keep lv n k) (keep f) (lv f) n 0 c (0, avs.zipIdx.map fun q => (q.2, q.1)) (endW (finishT td fn.results.toList (boxPos avs)) r)) : lvl P X keep lv n (k + 1) f avs = some r := by
  rw [lvl, hX]
  exact funcS_enter htd hf hc hn hok hl hv hst h
theorem lvl_X {P : Program} {X : FuncId → List PV → Option (PV × List (List PV))} {keep : FuncId → List Nat} {lv : FuncId → Nat → List Nat} {n k : Nat} {f : FuncId} {avs : List PV} {r : PV × List (List PV)}
    (hX : X f avs = some r) : lvl P X keep lv n k f avs = some r := by
  cases k with
  | zero => exact hX
  | succ k => rw [lvl, hX]
end Go.PE
