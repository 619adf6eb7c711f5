/-
  A part of the proof that the law's function returns true and leaves its arguments as they were, for every input (no condition): own lemmas of the proof, in the order of their use.
-/
import Derived.Test.YtkfppicmdgbfjaaGreatDoorC13
import Derived.KernelRfl
import Derived.Test.YtkfppicmdgbfjaaGreatDoorProg
set_option linter.all false
namespace Go.PE
open Go.RowKit
section
variable {P : Program} {Φ : FuncId → List PV → Option (PV × List (List PV))} {keep : List Nat} {p : Stamp} {rs : Operand → PV × PV} {c : Prop} {u : Ups}
theorem view_fst {v : PV} {r : PV} {w : PV} (h : PE.view (v, .dead) = some w) (hn : ∀ a b d e f, v ≠ .snap a b d e f) : PE.view (v, r) = some w := by
  unfold PE.view at h ⊢
  cases v <;> first | exact h | exact absurd rfl (hn _ _ _ _ _)
theorem buildC_eq (t : TypeId) (parts : List (Nat × Operand)) (rs : Operand → PV × PV) (zs : List PV) : buildC (tdOf P) t parts rs zs = buildP P t parts rs zs := rfl
set_option maxHeartbeats 1600000 in
theorem semC_sound {o : Oper} (h : semC (tdOf P) keep p o rs = some (c, u)) (hc : c) : sem P Φ keep p o rs = some u := by
  obtain ⟨dst, op, ty, pos, after, guard⟩ := o
  unfold semC at h
  simp only at h
  split at h
  · -- call
    split at h
    · cases h
    · rename_i hr
      simp only [sem]
      rw [if_neg hr]
      exact builtinC_sound h hc
  · -- store
    rename_i t x y
    rw [onVR_eq, onVR_eq] at h
    split at h
    · rename_i n hn
      have hn : sizeT P t = some n := hn
      simp only [sem, hn]
      exact yes_eq h
    · cases h
  · rename_i t m k v
    split at h
    · rename_i ag zs hm
      have hm : mapT P t = some (ag, zs) := hm
      simp only [sem, hm]
      exact yes_eq h
    · cases h
  · rename_i t d
    split at h
    · rename_i ag zs hm
      have hm : mapT P t = some (ag, zs) := hm
      cases h
      simp only [sem, hm]
    · cases h
  · rename_i t x k ok d
    split at h
    · rename_i m hm
      have hm : mapT P t = some m := hm
      simp only [sem, hm]
      exact yes_eq h
    · cases h
  · rename_i x d
    rw [onVR_eq] at h
    split at h
    · rename_i b hb
      have hm : moveS false keep p d x (hint P ty x (rs x)) = some [(d, .bool b)] := by
        unfold moveS
        have hb : (hint P ty x (rs x)).1 = .bool b := hb
        rw [hb]
        rfl
      simp only [sem, hm]
      split at h <;> (cases h; rfl)
    · exact yes_eq h
  · rename_i x d
    rw [onVR_eq] at h
    exact yes_eq h
  · rename_i cc a b d
    split at h
    · rename_i t ht
      simp only [sem, ht]
      split at h
      · rename_i va vb h1 h2
        cases h
        simp only [h1, h2]
        cases t <;> rfl
      · rename_i va h1 h2
        cases h
        subst hc
        simp only [h1]
        rfl
      · rename_i vb h1 h2
        cases h
        subst hc
        simp only [h1]
        rfl
      · cases h
    · cases h
  · rename_i t d
    split at h
    · rename_i cs hz
      cases h
      have hz : zeroT P t = some cs := hz
      simp only [sem, hz]
    · cases h
  · rename_i t x d
    rw [onVR_eq] at h
    split at h
    · rename_i n cs u0 hn hp
      have hn : sizeT P t = some n := hn
      split at h
      · rename_i h1
        cases h
        rw [hintT_const] at hp
        simp only [sem, hn, hp]
        rw [if_pos h1]
      · cases h
    · rename_i n hn hp
      have hn : sizeT P t = some n := hn
      rw [hintT_const] at hp
      simp only [sem, hn, hp]
      exact yes_eq h
    · cases h
  · rename_i t parts d
    split at h
    · cases h
    · rename_i zs hz
      have hz : zeroT P t = some zs := hz
      split at h
      · rename_i hk
        simp only [sem, hz]
        rw [if_pos hk]
        exact yes_eq h
      rename_i hk
      split at h
      · rename_i cs u0 hb
        rw [buildC_eq] at hb
        split at h
        · rename_i h1
          cases h
          simp only [sem, hz, hb]
          rw [if_neg hk, if_pos h1]
        · cases h
      · cases h
  · rename_i t len parts d
    split at h
    · rename_i n bb zs el h1 h2 h3
      have h1 : rowT P t = some (n, bb) := h1
      have h2 : (elemT P t).bind (zeroT P) = some zs := h2
      have h3 := und_slice (show ukOf (P.underlying t) = .slice el from h3)
      have he : elemT P t = some el := by simp [elemT, h3]
      split at h
      · rename_i h4
        split at h
        · rename_i xs u0 h5
          split at h
          · rename_i h6
            rw [onLL_eq] at h
            cases h
            simp only [sem, h1, h2]
            rw [if_pos h4, he, Option.getD_some]
            have h5 : elemsS n (fun x => hint P el x (rs x)) parts.toList (List.replicate len (List.map frzC zs)) = some (xs, u0) := h5
            simp only [h5]
            rw [if_pos h6]
          · cases h
        · cases h
      · cases h
    · cases h
  · rename_i t x d
    rw [onVR_eq] at h
    split at h
    · rename_i n a h1 h2
      have h1 : sizeT P t = some n := h1
      have h2 : isAggT P t = some a := h2
      split at h
      · rename_i h3
        simp only [sem, h1, h2]
        rw [if_pos h3]
        exact yes_eq h
      · cases h
    · cases h
  · rename_i x d
    rw [onVR_eq] at h
    exact yes_eq h
  · rename_i t x f d
    rw [onVR_eq] at h
    split at h
    · rename_i off n a t' h1
      have h1 := fieldT_of h1
      split at h
      · cases h
      · rename_i h2
        simp only [sem, h1]
        rw [if_neg h2]
        exact yes_eq h
    · cases h
  · rename_i t x i d
    split at h
    · rename_i k n hn
      simp only [sem, hn]
      split at h
      · rename_i len s a ha
        have ha : arrT P t = some (len, s, a) := ha
        rw [onVR_eq] at h
        split at h
        · rename_i u0 hu
          cases h
          simp only [ha]
          rw [if_pos hc]
          exact hu
        · cases h
      · rename_i ha
        have ha : arrT P t = none := ha
        split at h
        · rename_i s bb hr
          have hr : rowT P t = some (s, bb) := hr
          rw [onVR_eq] at h
          simp only [ha, hr]
          exact indexC_sound h hc
        · cases h
    · cases h
  · rename_i t x i d
    split at h
    · rename_i k n hn
      split at h
      · rename_i s hs hu
        have hu := und_str (show ukOf (P.underlying t) = .str from hu)
        cases h
        simp only [sem, hn, hs, hu]
        rw [if_pos hc.1]
        have hlt : n.toNat < s.length := by omega
        rw [List.getElem?_eq_getElem hlt]
        simp [List.getD, List.getElem?_eq_getElem hlt]
      · cases h
    · cases h
  · rename_i t x lo hi d
    split at h
    · rename_i hu
      have hu := und_str (show ukOf (P.underlying t) = .str from hu)
      rw [onVR_eq] at h
      simp only [sem, hu]
      exact sliceC_sound h hc
    · rename_i e hu
      have hu := und_slice (show ukOf (P.underlying t) = .slice e from hu)
      split at h
      · rename_i n bb hr
        have hr : rowT P t = some (n, bb) := hr
        rw [onVR_eq] at h
        simp only [sem, hu, hr]
        exact sliceC_sound h hc
      · cases h
    · cases h
  · rename_i t x f d
    rw [onVR_eq] at h
    split at h
    · rename_i off n a t' h1
      have h1 := fieldT_of h1
      split at h
      · rename_i h2
        simp only [sem, h1]
        rw [if_pos h2]
        exact yes_eq h
      · cases h
    · cases h
  · rename_i x i d
    rw [onVR_eq] at h
    exact yes_eq h
  · rename_i op t x y t2 d
    rw [onV_eq, onV_eq] at h
    exact binC_sound h hc
  · rename_i t x d
    rw [onV_eq] at h
    split at h
    · cases h
    · cases h
    · rename_i k hu
      have hu := und_int (show ukOf (P.underlying t) = .int k from hu)
      split at h
      · rename_i k n hx
        cases h
        simp only [sem, hu, hx]
      · rename_i hx
        cases h
        simp only [sem, hu]
    · rename_i h1 h2 h3
      cases h
      cases hu : P.underlying t with
      | none => exact absurd (show ukOf (P.underlying t) = .none by rw [hu]; rfl) h1
      | some dsc =>
        cases dsc <;> first
          | (simp only [sem, hu]; done)
          | exact absurd (show ukOf (P.underlying t) = .iface by rw [hu]; rfl) h2
          | exact absurd (show ukOf (P.underlying t) = .int _ by rw [hu]; rfl) (h3 _)
  · rename_i op t x d
    rw [onV_eq] at h
    split at h
    · rename_i k n hx
      cases h
      simp only [sem, unS, hx]
    · rename_i b hx
      cases h
      simp only [sem, unS, hx]
    · cases h
  · rename_i s t x d
    rw [onV_eq] at h
    obtain ⟨v, w, h1, h2, rfl⟩ := convC_sound h hc
    have h3 : PE.view (rs x) = some v := by
      refine view_fst h1 fun a b d e f hx => ?_
      rw [hx] at h1
      simp [PE.view, rowIf, rowAt?] at h1
    simp only [sem, h3, h2]
  · rename_i t l cc d
    split at h
    · rename_i n bb zs k1 l1 k2 c1 h1 h2 h3 h4
      have h1 : rowT P t = some (n, bb) := h1
      have h2 : (elemT P t).bind (zeroT P) = some zs := h2
      split at h
      · rename_i h5
        cases h
        simp only [sem, h1, h2, h3, h4]
        rw [if_pos ⟨hc.1, hc.2.1, hc.2.2.1, hc.2.2.2, h5.1, h5.2⟩]
      · cases h
    · cases h
  · rename_i f first caps d
    split at h
    · rename_i h1
      split at h
      · rename_i cs u0 h2
        split at h
        · rename_i h3
          cases h
          simp only [sem]
          rw [if_pos h1]
          simp only [h2]
          rw [if_pos h3]
        · cases h
      · cases h
    · cases h
  · cases h
variable {ops : Array Oper} {rid i : Nat} {o : Oper} {r : List Oper} {e : List (Nat × PV)} {acc : Option Lg} {K : List (Nat × PV) → Prop} {td : TypeId → TD}
/-- One operation, by its condition. -/
theorem WX.stepD (htd : td = tdOf P) (hg : guardOf ops o (lookup e) = some true) (h : semC td keep (rid, i) o (res (lookup e)) = some (c, u)) (hc : c)
    (k : onUps u e fun e' => WX P Φ keep ops rid (i + 1) r e' (nxt acc (foot ops o (lookup e)) u) K) : WX P Φ keep ops rid i (o :: r) e acc K := by
  subst htd
  exact WX.raw hg (semC_sound h hc) k
theorem WX.step (htd : td = tdOf P) (hg : guardOf ops o (lookup e) = some true) (h : semC td keep (rid, i) o (res (lookup e)) = some (c, u)) (hc : c)
    (k : onUps u e fun e' => WX P Φ keep ops rid (i + 1) r e' none K) : WX P Φ keep ops rid i (o :: r) e none K := WX.stepD htd hg h hc k
/-- An operation that gives a truth value: the way parts. -/
theorem WX.boolD (htd : td = tdOf P) (hg : guardOf ops o (lookup e) = some true) {d : Nat} {t : Bool} (h : semC td keep (rid, i) o (res (lookup e)) = some (c, [(d, .bool t)])) (hc : c)
    (k1 : t = true → WX P Φ keep ops rid (i + 1) r ((d, .bool true) :: e) (nxt acc (foot ops o (lookup e)) [(d, .bool true)]) K)
    (k2 : t = false → WX P Φ keep ops rid (i + 1) r ((d, .bool false) :: e) (nxt acc (foot ops o (lookup e)) [(d, .bool false)]) K) : WX P Φ keep ops rid i (o :: r) e acc K := by
  refine WX.stepD htd hg h hc ?_
  rw [onUps_eq]
  cases t with
  | true => exact k1 rfl
  | false => exact k2 rfl
theorem WX.bool (htd : td = tdOf P) (hg : guardOf ops o (lookup e) = some true) {d : Nat} {t : Bool} (h : semC td keep (rid, i) o (res (lookup e)) = some (c, [(d, .bool t)])) (hc : c)
    (k1 : t = true → WX P Φ keep ops rid (i + 1) r ((d, .bool true) :: e) none K)
    (k2 : t = false → WX P Φ keep ops rid (i + 1) r ((d, .bool false) :: e) none K) : WX P Φ keep ops rid i (o :: r) e none K := WX.boolD htd hg h hc k1 k2
end
end Go.PE
namespace Go.PE
open Go.Proofs.Tryz
def td0 : TD := { size := some 1, agg := some false, row := none, ez := none, zero := none, flds := [], arr := none, plc := none, und := .other }
theorem td0_eq : td0 = tdOf prog 0 := by kernel_rfl
def td1 : TD := { size := some 1, agg := some false, row := none, ez := none, zero := some [.nilf], flds := [], arr := none, plc := none, und := .other }
theorem td1_eq : td1 = tdOf prog 1 := by kernel_rfl
def td2 : TD := { size := some 1, agg := some false, row := none, ez := none, zero := some [.int .i64 0], flds := [], arr := none, plc := none, und := .int .i64 }
theorem td2_eq : td2 = tdOf prog 2 := by kernel_rfl
def td3 : TD := { size := some 1, agg := some false, row := none, ez := none, zero := some [.int .i64 0], flds := [], arr := none, plc := none, und := .int .i64 }
theorem td3_eq : td3 = tdOf prog 3 := by kernel_rfl
def td4 : TD := { size := some 1, agg := some false, row := none, ez := none, zero := some [.bool false], flds := [], arr := none, plc := none, und := .bool }
theorem td4_eq : td4 = tdOf prog 4 := by kernel_rfl
def td5 : TD := { size := some 1, agg := some false, row := none, ez := none, zero := some [.int .u8 0], flds := [], arr := none, plc := none, und := .int .u8 }
theorem td5_eq : td5 = tdOf prog 5 := by kernel_rfl
def td6 : TD := { size := some 1, agg := some false, row := none, ez := none, zero := some [.int .u8 0], flds := [], arr := none, plc := none, und := .int .u8 }
theorem td6_eq : td6 = tdOf prog 6 := by kernel_rfl
def td8 : TD := { size := some 4, agg := some true, row := none, ez := none, zero := some [.int .i64 0, .int .i64 0, .bool false, .int .u8 0], flds := [some (0, 1, false, 2), some (1, 1, false, 3), some (2, 1, false, 4), some (3, 1, false, 6)], arr := none, plc := some [(0, 1, 2), (1, 1, 3), (2, 1, 4), (3, 1, 6)], und := .other }
theorem td8_eq : td8 = tdOf prog 8 := by kernel_rfl
def td9 : TD := { size := some 1, agg := some false, row := none, ez := none, zero := some [.str []], flds := [], arr := none, plc := none, und := .str }
theorem td9_eq : td9 = tdOf prog 9 := by kernel_rfl
def td20 : TD := { size := some 1, agg := some false, row := none, ez := none, zero := some [.nili], flds := [], arr := none, plc := none, und := .iface }
theorem td20_eq : td20 = tdOf prog 20 := by kernel_rfl
def td21 : TD := { size := some 1, agg := some false, row := none, ez := none, zero := some [.int .i32 0], flds := [], arr := none, plc := none, und := .int .i32 }
theorem td21_eq : td21 = tdOf prog 21 := by kernel_rfl
def td22 : TD := { size := some 1, agg := some false, row := some (1, 24), ez := some [.nils 1], zero := some [.nils 1], flds := [], arr := none, plc := none, und := .slice 59 }
theorem td22_eq : td22 = tdOf prog 22 := by kernel_rfl
def td23 : TD := { size := some 1, agg := some false, row := some (1, 1), ez := some [.bool false], zero := some [.nils 1], flds := [], arr := none, plc := none, und := .slice 4 }
theorem td23_eq : td23 = tdOf prog 23 := by kernel_rfl
def td26 : TD := { size := some 1, agg := some false, row := some (2, 32), ez := some [.int .i64 0, .nils 5], zero := some [.nils 2], flds := [], arr := none, plc := none, und := .slice 48 }
theorem td26_eq : td26 = tdOf prog 26 := by kernel_rfl
def td28 : TD := { size := some 3, agg := some true, row := none, ez := none, zero := some [.int .i64 0, .nils 1, .nils 2], flds := [some (0, 1, false, 3), some (1, 1, false, 22), some (2, 1, false, 26)], arr := none, plc := some [(0, 1, 3), (1, 1, 22), (2, 1, 26)], und := .other }
theorem td28_eq : td28 = tdOf prog 28 := by kernel_rfl
def td32 : TD := { size := some 1, agg := some false, row := some (5, 56), ez := some [.int .i64 0, .int .i64 0, .str [], .str [], .int .i64 0], zero := some [.nils 5], flds := [], arr := none, plc := none, und := .slice 61 }
theorem td32_eq : td32 = tdOf prog 32 := by kernel_rfl
def td33 : TD := { size := some 1, agg := some false, row := some (6, 96), ez := some [.str [], .int .i64 0, .bool false, .str [], .nils 1, .nils 1], zero := some [.nils 6], flds := [], arr := none, plc := none, und := .slice 63 }
theorem td33_eq : td33 = tdOf prog 33 := by kernel_rfl
def td36 : TD := { size := some 1, agg := some false, row := some (1, 16), ez := some [.str []], zero := some [.nils 1], flds := [], arr := none, plc := none, und := .slice 9 }
theorem td36_eq : td36 = tdOf prog 36 := by kernel_rfl
def td38 : TD := { size := some 5, agg := some true, row := none, ez := none, zero := some [.int .i64 0, .bool false, .str [], .nils 1, .nils 1], flds := [some (0, 1, false, 3), some (1, 1, false, 4), some (2, 1, false, 9), some (3, 1, false, 36), some (4, 1, false, 36)], arr := none, plc := some [(0, 1, 3), (1, 1, 4), (2, 1, 9), (3, 1, 36), (4, 1, 36)], und := .other }
theorem td38_eq : td38 = tdOf prog 38 := by kernel_rfl
def td39 : TD := { size := some 1, agg := some false, row := none, ez := none, zero := some [.int .i64 0], flds := [], arr := none, plc := none, und := .int .i64 }
theorem td39_eq : td39 = tdOf prog 39 := by kernel_rfl
def td40 : TD := { size := some 1, agg := some false, row := none, ez := none, zero := none, flds := [], arr := none, plc := none, und := .other }
theorem td40_eq : td40 = tdOf prog 40 := by kernel_rfl
def td41 : TD := { size := some 1, agg := some false, row := none, ez := none, zero := some [.nilf], flds := [], arr := none, plc := none, und := .other }
theorem td41_eq : td41 = tdOf prog 41 := by kernel_rfl
def td42 : TD := { size := some 1, agg := some false, row := none, ez := none, zero := none, flds := [], arr := none, plc := none, und := .other }
theorem td42_eq : td42 = tdOf prog 42 := by kernel_rfl
def td44 : TD := { size := some 1, agg := some false, row := none, ez := none, zero := none, flds := [], arr := none, plc := none, und := .other }
theorem td44_eq : td44 = tdOf prog 44 := by kernel_rfl
def td47 : TD := { size := some 2, agg := some true, row := none, ez := none, zero := some [.int .i64 0, .nils 5], flds := [some (0, 1, false, 3), some (1, 1, false, 32)], arr := none, plc := some [(0, 1, 3), (1, 1, 32)], und := .other }
theorem td47_eq : td47 = tdOf prog 47 := by kernel_rfl
def td48 : TD := { size := some 2, agg := some true, row := none, ez := none, zero := some [.int .i64 0, .nils 5], flds := [some (0, 1, false, 3), some (1, 1, false, 32)], arr := none, plc := some [(0, 1, 3), (1, 1, 32)], und := .other }
theorem td48_eq : td48 = tdOf prog 48 := by kernel_rfl
def td55 : TD := { size := some 1, agg := some false, row := some (2, 24), ez := some [.str [], .int .i64 0], zero := some [.nils 2], flds := [], arr := none, plc := none, und := .slice 96 }
theorem td55_eq : td55 = tdOf prog 55 := by kernel_rfl
def td59 : TD := { size := some 1, agg := some false, row := some (1, 8), ez := some [.int .i64 0], zero := some [.nils 1], flds := [], arr := none, plc := none, und := .slice 3 }
theorem td59_eq : td59 = tdOf prog 59 := by kernel_rfl
def td61 : TD := { size := some 5, agg := some true, row := none, ez := none, zero := some [.int .i64 0, .int .i64 0, .str [], .str [], .int .i64 0], flds := [some (0, 1, false, 3), some (1, 1, false, 3), some (2, 1, false, 9), some (3, 1, false, 9), some (4, 1, false, 3)], arr := none, plc := some [(0, 1, 3), (1, 1, 3), (2, 1, 9), (3, 1, 9), (4, 1, 3)], und := .other }
theorem td61_eq : td61 = tdOf prog 61 := by kernel_rfl
def td63 : TD := { size := some 6, agg := some true, row := none, ez := none, zero := some [.str [], .int .i64 0, .bool false, .str [], .nils 1, .nils 1], flds := [some (0, 1, false, 9), some (1, 5, true, 38)], arr := none, plc := some [(0, 1, 9), (1, 5, 38)], und := .other }
theorem td63_eq : td63 = tdOf prog 63 := by kernel_rfl
def td67 : TD := { size := some 1, agg := some false, row := none, ez := none, zero := some [.nilf], flds := [], arr := none, plc := none, und := .other }
theorem td67_eq : td67 = tdOf prog 67 := by kernel_rfl
def td68 : TD := { size := some 1, agg := some false, row := some (8, 144), ez := some [.str [], .nils 1, .nils 5, .int .i64 0, .bool false, .str [], .nils 1, .nils 1], zero := some [.nils 8], flds := [], arr := none, plc := none, und := .slice 74 }
theorem td68_eq : td68 = tdOf prog 68 := by kernel_rfl
def td71 : TD := { size := some 1, agg := some false, row := some (1, 24), ez := some [.nils 5], zero := some [.nils 1], flds := [], arr := none, plc := none, und := .slice 72 }
theorem td71_eq : td71 = tdOf prog 71 := by kernel_rfl
def td72 : TD := { size := some 1, agg := some false, row := some (5, 80), ez := some [.int .i64 0, .bool false, .str [], .nils 1, .nils 1], zero := some [.nils 5], flds := [], arr := none, plc := none, und := .slice 38 }
theorem td72_eq : td72 = tdOf prog 72 := by kernel_rfl
def td74 : TD := { size := some 8, agg := some true, row := none, ez := none, zero := some [.str [], .nils 1, .nils 5, .int .i64 0, .bool false, .str [], .nils 1, .nils 1], flds := [some (0, 1, false, 9), some (1, 1, false, 71), some (2, 1, false, 72), some (3, 5, true, 38)], arr := none, plc := some [(0, 1, 9), (1, 1, 71), (2, 1, 72), (3, 5, 38)], und := .other }
theorem td74_eq : td74 = tdOf prog 74 := by kernel_rfl
def td81 : TD := { size := some 1, agg := some false, row := none, ez := none, zero := some [.nilp], flds := [], arr := none, plc := none, und := .ptr }
theorem td81_eq : td81 = tdOf prog 81 := by kernel_rfl
def td82 : TD := { size := some 1, agg := some false, row := none, ez := none, zero := none, flds := [], arr := none, plc := none, und := .other }
theorem td82_eq : td82 = tdOf prog 82 := by kernel_rfl
def td84 : TD := { size := some 1, agg := some false, row := none, ez := none, zero := some [.nilp], flds := [], arr := none, plc := none, und := .ptr }
theorem td84_eq : td84 = tdOf prog 84 := by kernel_rfl
def td85 : TD := { size := some 1, agg := some false, row := none, ez := none, zero := some [.imap (false, []) []], flds := [], arr := none, plc := none, und := .other, mp := some (false, [.int .i64 0]), me := some 3 }
theorem td85_eq : td85 = tdOf prog 85 := by kernel_rfl
def td87 : TD := { size := some 6, agg := some true, row := none, ez := none, zero := some [.nilp, .imap (false, []) [], .nils 1, .nils 1, .int .i64 0, .bool false], flds := [some (0, 1, false, 84), some (1, 1, false, 85), some (2, 1, false, 59), some (3, 1, false, 22), some (4, 1, false, 3), some (5, 1, false, 4)], arr := none, plc := some [(0, 1, 84), (1, 1, 85), (2, 1, 59), (3, 1, 22), (4, 1, 3), (5, 1, 4)], und := .other }
theorem td87_eq : td87 = tdOf prog 87 := by kernel_rfl
def td89 : TD := { size := some 1, agg := some false, row := none, ez := none, zero := some [.nilf], flds := [], arr := none, plc := none, und := .other }
theorem td89_eq : td89 = tdOf prog 89 := by kernel_rfl
def td96 : TD := { size := some 2, agg := some true, row := none, ez := none, zero := some [.str [], .int .i64 0], flds := [some (0, 1, false, 9), some (1, 1, false, 3)], arr := none, plc := some [(0, 1, 9), (1, 1, 3)], und := .other }
theorem td96_eq : td96 = tdOf prog 96 := by kernel_rfl
def td101 : TD := { size := some 1, agg := some false, row := none, ez := none, zero := some [.nilf], flds := [], arr := none, plc := none, und := .other }
theorem td101_eq : td101 = tdOf prog 101 := by kernel_rfl
def td106 : TD := { size := some 3, agg := some true, row := none, ez := none, zero := some [.nils 5, .nils 1, .nils 1], flds := [some (0, 1, false, 32), some (1, 1, false, 59), some (2, 1, false, 59)], arr := none, plc := some [(0, 1, 32), (1, 1, 59), (2, 1, 59)], und := .other }
theorem td106_eq : td106 = tdOf prog 106 := by kernel_rfl
def td109 : TD := { size := some 1, agg := some false, row := none, ez := none, zero := some [.imap (true, []) []], flds := [], arr := none, plc := none, und := .other, mp := some (true, [.int .i64 0, .bool false, .str [], .nils 1, .nils 1]), me := some 38 }
theorem td109_eq : td109 = tdOf prog 109 := by kernel_rfl
def td110 : TD := { size := some 1, agg := some false, row := none, ez := none, zero := none, flds := [], arr := none, plc := none, und := .other }
theorem td110_eq : td110 = tdOf prog 110 := by kernel_rfl
def td112 : TD := { size := some 1, agg := some false, row := none, ez := none, zero := some [.imap (true, []) []], flds := [], arr := none, plc := none, und := .other, mp := some (true, [.str [], .nils 1, .nils 5, .int .i64 0, .bool false, .str [], .nils 1, .nils 1]), me := some 74 }
theorem td112_eq : td112 = tdOf prog 112 := by kernel_rfl
def td113 : TD := { size := some 1, agg := some false, row := none, ez := none, zero := none, flds := [], arr := none, plc := none, und := .other }
theorem td113_eq : td113 = tdOf prog 113 := by kernel_rfl
def td115 : TD := { size := some 1, agg := some false, row := none, ez := none, zero := some [.nilp], flds := [], arr := none, plc := none, und := .ptr }
theorem td115_eq : td115 = tdOf prog 115 := by kernel_rfl
def td117 : TD := { size := some 4, agg := some true, row := none, ez := none, zero := some [.nils 5, .int .i64 0, .imap (true, []) [], .imap (true, []) []], flds := [some (0, 1, false, 32), some (1, 1, false, 3), some (2, 1, false, 109), some (3, 1, false, 112)], arr := none, plc := some [(0, 1, 32), (1, 1, 3), (2, 1, 109), (3, 1, 112)], und := .other }
theorem td117_eq : td117 = tdOf prog 117 := by kernel_rfl
def td122 : TD := { size := some 1, agg := some false, row := some (3, 48), ez := some [.str [], .nils 1, .int .i64 0], zero := some [.nils 3], flds := [], arr := none, plc := none, und := .slice 124 }
theorem td122_eq : td122 = tdOf prog 122 := by kernel_rfl
def td124 : TD := { size := some 3, agg := some true, row := none, ez := none, zero := some [.str [], .nils 1, .int .i64 0], flds := [some (0, 1, false, 9), some (1, 1, false, 59), some (2, 1, false, 3)], arr := none, plc := some [(0, 1, 9), (1, 1, 59), (2, 1, 3)], und := .other }
theorem td124_eq : td124 = tdOf prog 124 := by kernel_rfl
def td140 : TD := { size := some 1, agg := some false, row := none, ez := none, zero := none, flds := [], arr := none, plc := none, und := .other }
theorem td140_eq : td140 = tdOf prog 140 := by kernel_rfl
def td141 : TD := { size := some 1, agg := some false, row := none, ez := none, zero := some [.nilf], flds := [], arr := none, plc := none, und := .other }
theorem td141_eq : td141 = tdOf prog 141 := by kernel_rfl
def td143 : TD := { size := some 1, agg := some false, row := none, ez := none, zero := none, flds := [], arr := none, plc := none, und := .other }
theorem td143_eq : td143 = tdOf prog 143 := by kernel_rfl
def td144 : TD := { size := some 1, agg := some false, row := none, ez := none, zero := some [.nilp], flds := [], arr := none, plc := none, und := .ptr }
theorem td144_eq : td144 = tdOf prog 144 := by kernel_rfl
def td145 : TD := { size := some 1, agg := some false, row := none, ez := none, zero := none, flds := [], arr := none, plc := none, und := .other }
theorem td145_eq : td145 = tdOf prog 145 := by kernel_rfl
def td160 : TD := { size := some 3, agg := some true, row := none, ez := none, zero := some [.int .i64 0, .int .i64 0, .int .i64 0], flds := [some (0, 1, false, 3), some (1, 1, false, 3), some (2, 1, false, 3)], arr := none, plc := some [(0, 1, 3), (1, 1, 3), (2, 1, 3)], und := .other }
theorem td160_eq : td160 = tdOf prog 160 := by kernel_rfl
def td161 : TD := { size := some 1, agg := some false, row := some (3, 24), ez := some [.int .i64 0, .int .i64 0, .int .i64 0], zero := some [.nils 3], flds := [], arr := none, plc := none, und := .slice 160 }
theorem td161_eq : td161 = tdOf prog 161 := by kernel_rfl
def td163 : TD := { size := some 2, agg := some true, row := none, ez := none, zero := some [.nils 5, .nils 3], flds := [some (0, 1, false, 32), some (1, 1, false, 161)], arr := none, plc := some [(0, 1, 32), (1, 1, 161)], und := .other }
theorem td163_eq : td163 = tdOf prog 163 := by kernel_rfl
def td165 : TD := { size := some 1, agg := some false, row := none, ez := none, zero := none, flds := [], arr := none, plc := none, und := .other }
theorem td165_eq : td165 = tdOf prog 165 := by kernel_rfl
def td169 : TD := { size := some 1, agg := some false, row := none, ez := none, zero := none, flds := [], arr := none, plc := none, und := .other }
theorem td169_eq : td169 = tdOf prog 169 := by kernel_rfl
def td173 : TD := { size := some 1, agg := some false, row := none, ez := none, zero := none, flds := [], arr := none, plc := none, und := .other }
theorem td173_eq : td173 = tdOf prog 173 := by kernel_rfl
def td175 : TD := { size := some 1, agg := some false, row := some (1, 1), ez := some [.int .u8 0], zero := some [.nils 1], flds := [], arr := none, plc := none, und := .slice 5 }
theorem td175_eq : td175 = tdOf prog 175 := by kernel_rfl
def td177 : TD := { size := some 1, agg := some false, row := none, ez := none, zero := none, flds := [], arr := none, plc := none, und := .other }
theorem td177_eq : td177 = tdOf prog 177 := by kernel_rfl
def td180 : TD := { size := some 2, agg := some true, row := none, ez := none, zero := some [.int .i64 0, .int .i64 0], flds := [some (0, 1, false, 2), some (1, 1, false, 2)], arr := none, plc := some [(0, 1, 2), (1, 1, 2)], und := .other }
theorem td180_eq : td180 = tdOf prog 180 := by kernel_rfl
def td181 : TD := { size := some 1, agg := some false, row := none, ez := none, zero := none, flds := [], arr := none, plc := none, und := .other }
theorem td181_eq : td181 = tdOf prog 181 := by kernel_rfl
def td184 : TD := { size := some 1, agg := some false, row := some (1, 4), ez := some [.int .u32 0], zero := some [.nils 1], flds := [], arr := none, plc := none, und := .slice 216 }
theorem td184_eq : td184 = tdOf prog 184 := by kernel_rfl
def td186 : TD := { size := some 3, agg := some true, row := none, ez := none, zero := some [.bool false, .nils 1, .nils 1], flds := [some (0, 1, false, 4), some (1, 1, false, 184), some (2, 1, false, 184)], arr := none, plc := some [(0, 1, 4), (1, 1, 184), (2, 1, 184)], und := .other }
theorem td186_eq : td186 = tdOf prog 186 := by kernel_rfl
def td187 : TD := { size := some 1, agg := some false, row := none, ez := none, zero := none, flds := [], arr := none, plc := none, und := .other }
theorem td187_eq : td187 = tdOf prog 187 := by kernel_rfl
def td190 : TD := { size := some 1, agg := some false, row := none, ez := none, zero := some [.nilf], flds := [], arr := none, plc := none, und := .other }
theorem td190_eq : td190 = tdOf prog 190 := by kernel_rfl
def td191 : TD := { size := some 1, agg := some false, row := none, ez := none, zero := some [.nilf], flds := [], arr := none, plc := none, und := .other }
theorem td191_eq : td191 = tdOf prog 191 := by kernel_rfl
def td194 : TD := { size := some 1, agg := some false, row := none, ez := none, zero := some [.imap (true, []) []], flds := [], arr := none, plc := none, und := .other, mp := some (true, [.str [], .int .i64 0]), me := some 96 }
theorem td194_eq : td194 = tdOf prog 194 := by kernel_rfl
def td195 : TD := { size := some 1, agg := some false, row := none, ez := none, zero := some [.imap (true, []) []], flds := [], arr := none, plc := none, und := .other, mp := some (true, [.str [], .nils 1, .int .i64 0]), me := some 124 }
theorem td195_eq : td195 = tdOf prog 195 := by kernel_rfl
def td196 : TD := { size := some 1, agg := some false, row := none, ez := none, zero := none, flds := [], arr := none, plc := none, und := .other }
theorem td196_eq : td196 = tdOf prog 196 := by kernel_rfl
def td197 : TD := { size := some 1, agg := some false, row := none, ez := none, zero := none, flds := [], arr := none, plc := none, und := .other }
theorem td197_eq : td197 = tdOf prog 197 := by kernel_rfl
def td202 : TD := { size := some 1, agg := some false, row := none, ez := none, zero := some [.nilp], flds := [], arr := none, plc := none, und := .ptr }
theorem td202_eq : td202 = tdOf prog 202 := by kernel_rfl
def td204 : TD := { size := some 2, agg := some true, row := none, ez := none, zero := some [.nilp, .nils 1], flds := [some (0, 1, false, 202), some (1, 1, false, 175)], arr := none, plc := some [(0, 1, 202), (1, 1, 175)], und := .other }
theorem td204_eq : td204 = tdOf prog 204 := by kernel_rfl
def td206 : TD := { size := some 1, agg := some false, row := none, ez := none, zero := some [.nili], flds := [], arr := none, plc := none, und := .iface }
theorem td206_eq : td206 = tdOf prog 206 := by kernel_rfl
def td207 : TD := { size := some 1, agg := some false, row := none, ez := none, zero := none, flds := [], arr := none, plc := none, und := .other }
theorem td207_eq : td207 = tdOf prog 207 := by kernel_rfl
def td210 : TD := { size := some 1, agg := some false, row := none, ez := none, zero := none, flds := [], arr := none, plc := none, und := .other }
theorem td210_eq : td210 = tdOf prog 210 := by kernel_rfl
def td212 : TD := { size := some 1, agg := some false, row := none, ez := none, zero := none, flds := [], arr := none, plc := none, und := .other }
theorem td212_eq : td212 = tdOf prog 212 := by kernel_rfl
def td216 : TD := { size := some 1, agg := some false, row := none, ez := none, zero := some [.int .u32 0], flds := [], arr := none, plc := none, und := .int .u32 }
theorem td216_eq : td216 = tdOf prog 216 := by kernel_rfl
def td223 : TD := { size := some 1, agg := some false, row := none, ez := none, zero := some [.nilf], flds := [], arr := none, plc := none, und := .other }
theorem td223_eq : td223 = tdOf prog 223 := by kernel_rfl
def td225 : TD := { size := some 1, agg := some false, row := none, ez := none, zero := some [.nilf], flds := [], arr := none, plc := none, und := .other }
theorem td225_eq : td225 = tdOf prog 225 := by kernel_rfl
def td229 : TD := { size := some 1, agg := some false, row := none, ez := none, zero := some [.nilp], flds := [], arr := none, plc := none, und := .ptr }
theorem td229_eq : td229 = tdOf prog 229 := by kernel_rfl
def td233 : TD := { size := some 1, agg := some false, row := none, ez := none, zero := none, flds := [], arr := none, plc := none, und := .other }
theorem td233_eq : td233 = tdOf prog 233 := by kernel_rfl
def td240 : TD := { size := some 1, agg := some false, row := none, ez := none, zero := none, flds := [], arr := none, plc := none, und := .other }
theorem td240_eq : td240 = tdOf prog 240 := by kernel_rfl
def td244 : TD := { size := some 1, agg := some false, row := none, ez := none, zero := none, flds := [], arr := none, plc := none, und := .other }
theorem td244_eq : td244 = tdOf prog 244 := by kernel_rfl
def td247 : TD := { size := some 1, agg := some false, row := none, ez := none, zero := some [.int .u64 0], flds := [], arr := none, plc := none, und := .int .u64 }
theorem td247_eq : td247 = tdOf prog 247 := by kernel_rfl
def td248 : TD := { size := some 1, agg := some false, row := none, ez := none, zero := none, flds := [], arr := none, plc := none, und := .other }
theorem td248_eq : td248 = tdOf prog 248 := by kernel_rfl
def td250 : TD := { size := some 1, agg := some false, row := none, ez := none, zero := some [.int .u64 0], flds := [], arr := none, plc := none, und := .int .u64 }
theorem td250_eq : td250 = tdOf prog 250 := by kernel_rfl
def td251 : TD := { size := some 1, agg := some false, row := none, ez := none, zero := some [.nilp], flds := [], arr := none, plc := none, und := .ptr }
theorem td251_eq : td251 = tdOf prog 251 := by kernel_rfl
def td259 : TD := { size := some 1, agg := some false, row := none, ez := none, zero := some [.nilf], flds := [], arr := none, plc := none, und := .other }
theorem td259_eq : td259 = tdOf prog 259 := by kernel_rfl
def td260 : TD := { size := some 1, agg := some false, row := none, ez := none, zero := some [.nilf], flds := [], arr := none, plc := none, und := .other }
theorem td260_eq : td260 = tdOf prog 260 := by kernel_rfl
def td262 : TD := { size := some 24, agg := some true, row := none, ez := none, zero := some [.int .u8 0, .int .u8 0, .int .u8 0, .int .u8 0, .int .u8 0, .int .u8 0, .int .u8 0, .int .u8 0, .int .u8 0, .int .u8 0, .int .u8 0, .int .u8 0, .int .u8 0, .int .u8 0, .int .u8 0, .int .u8 0, .int .u8 0, .int .u8 0, .int .u8 0, .int .u8 0, .int .u8 0, .int .u8 0, .int .u8 0, .int .u8 0], flds := [], arr := some (24, 1, false), plc := none, und := .other }
theorem td262_eq : td262 = tdOf prog 262 := by kernel_rfl
def td265 : TD := { size := some 1, agg := some false, row := none, ez := none, zero := none, flds := [], arr := none, plc := none, und := .other }
theorem td265_eq : td265 = tdOf prog 265 := by kernel_rfl
def td270 : TD := { size := some 3, agg := some true, row := none, ez := none, zero := some [.str [], .str [], .nili], flds := [some (0, 1, false, 9), some (1, 1, false, 9), some (2, 1, false, 206)], arr := none, plc := some [(0, 1, 9), (1, 1, 9), (2, 1, 206)], und := .other }
theorem td270_eq : td270 = tdOf prog 270 := by kernel_rfl
def td277 : TD := { size := some 20, agg := some true, row := none, ez := none, zero := some [.int .u64 0, .int .u64 0, .int .u64 0, .int .u64 0, .int .u64 0, .int .u64 0, .int .u64 0, .int .u64 0, .int .u64 0, .int .u64 0, .int .u64 0, .int .u64 0, .int .u64 0, .int .u64 0, .int .u64 0, .int .u64 0, .int .u64 0, .int .u64 0, .int .u64 0, .int .u64 0], flds := [], arr := some (20, 1, false), plc := none, und := .other }
theorem td277_eq : td277 = tdOf prog 277 := by kernel_rfl
def td278 : TD := { size := some 65, agg := some true, row := none, ez := none, zero := some [.int .u8 0, .int .u8 0, .int .u8 0, .int .u8 0, .int .u8 0, .int .u8 0, .int .u8 0, .int .u8 0, .int .u8 0, .int .u8 0, .int .u8 0, .int .u8 0, .int .u8 0, .int .u8 0, .int .u8 0, .int .u8 0, .int .u8 0, .int .u8 0, .int .u8 0, .int .u8 0, .int .u8 0, .int .u8 0, .int .u8 0, .int .u8 0, .int .u8 0, .int .u8 0, .int .u8 0, .int .u8 0, .int .u8 0, .int .u8 0, .int .u8 0, .int .u8 0, .int .u8 0, .int .u8 0, .int .u8 0, .int .u8 0, .int .u8 0, .int .u8 0, .int .u8 0, .int .u8 0, .int .u8 0, .int .u8 0, .int .u8 0, .int .u8 0, .int .u8 0, .int .u8 0, .int .u8 0, .int .u8 0, .int .u8 0, .int .u8 0, .int .u8 0, .int .u8 0, .int .u8 0, .int .u8 0, .int .u8 0, .int .u8 0, .int .u8 0, .int .u8 0, .int .u8 0, .int .u8 0, .int .u8 0, .int .u8 0, .int .u8 0, .int .u8 0, .int .u8 0], flds := [], arr := some (65, 1, false), plc := none, und := .other }
theorem td278_eq : td278 = tdOf prog 278 := by kernel_rfl
def td280 : TD := { size := some 1, agg := some false, row := none, ez := none, zero := none, flds := [], arr := none, plc := none, und := .other }
theorem td280_eq : td280 = tdOf prog 280 := by kernel_rfl
def td282 : TD := { size := some 1, agg := some false, row := none, ez := none, zero := some [.nilp], flds := [], arr := none, plc := none, und := .ptr }
theorem td282_eq : td282 = tdOf prog 282 := by kernel_rfl
def td284 : TD := { size := some 1, agg := some true, row := none, ez := none, zero := some [.str []], flds := [some (0, 1, false, 9)], arr := none, plc := some [(0, 1, 9)], und := .other }
theorem td284_eq : td284 = tdOf prog 284 := by kernel_rfl
def td286 : TD := { size := some 32, agg := some true, row := none, ez := none, zero := some [.int .u8 0, .int .u8 0, .int .u8 0, .int .u8 0, .int .u8 0, .int .u8 0, .int .u8 0, .int .u8 0, .int .u8 0, .int .u8 0, .int .u8 0, .int .u8 0, .int .u8 0, .int .u8 0, .int .u8 0, .int .u8 0, .int .u8 0, .int .u8 0, .int .u8 0, .int .u8 0, .int .u8 0, .int .u8 0, .int .u8 0, .int .u8 0, .int .u8 0, .int .u8 0, .int .u8 0, .int .u8 0, .int .u8 0, .int .u8 0, .int .u8 0, .int .u8 0], flds := [], arr := some (32, 1, false), plc := none, und := .other }
theorem td286_eq : td286 = tdOf prog 286 := by kernel_rfl
def td287 : TD := { size := some 64, agg := some true, row := none, ez := none, zero := some [.int .u8 0, .int .u8 0, .int .u8 0, .int .u8 0, .int .u8 0, .int .u8 0, .int .u8 0, .int .u8 0, .int .u8 0, .int .u8 0, .int .u8 0, .int .u8 0, .int .u8 0, .int .u8 0, .int .u8 0, .int .u8 0, .int .u8 0, .int .u8 0, .int .u8 0, .int .u8 0, .int .u8 0, .int .u8 0, .int .u8 0, .int .u8 0, .int .u8 0, .int .u8 0, .int .u8 0, .int .u8 0, .int .u8 0, .int .u8 0, .int .u8 0, .int .u8 0, .int .u8 0, .int .u8 0, .int .u8 0, .int .u8 0, .int .u8 0, .int .u8 0, .int .u8 0, .int .u8 0, .int .u8 0, .int .u8 0, .int .u8 0, .int .u8 0, .int .u8 0, .int .u8 0, .int .u8 0, .int .u8 0, .int .u8 0, .int .u8 0, .int .u8 0, .int .u8 0, .int .u8 0, .int .u8 0, .int .u8 0, .int .u8 0, .int .u8 0, .int .u8 0, .int .u8 0, .int .u8 0, .int .u8 0, .int .u8 0, .int .u8 0, .int .u8 0], flds := [], arr := some (64, 1, false), plc := none, und := .other }
theorem td287_eq : td287 = tdOf prog 287 := by kernel_rfl
theorem cond_eq {α : Type} {b : Bool} {x y z : α} (h1 : b = true → x = z) (h2 : b = false → y = z) : (bif b then x else y) = z := by cases b <;> simp_all
noncomputable def tab (t : TypeId) : TD := (bif Nat.blt t 140 then (bif Nat.blt t 55 then (bif Nat.blt t 26 then (bif Nat.blt t 6 then (bif Nat.blt t 3 then (bif Nat.blt t 1 then (bif Nat.beq t 0 then td0 else tdOf prog t) else (bif Nat.blt t 2 then (bif Nat.beq t 1 then td1 else tdOf prog t) else (bif Nat.beq t 2 then td2 else tdOf prog t))) else (bif Nat.blt t 4 then (bif Nat.beq t 3 then td3 else tdOf prog t) else (bif Nat.blt t 5 then (bif Nat.beq t 4 then td4 else tdOf prog t) else (bif Nat.beq t 5 then td5 else tdOf prog t)))) else (bif Nat.blt t 20 then (bif Nat.blt t 8 then (bif Nat.beq t 6 then td6 else tdOf prog t) else (bif Nat.blt t 9 then (bif Nat.beq t 8 then td8 else tdOf prog t) else (bif Nat.beq t 9 then td9 else tdOf prog t))) else (bif Nat.blt t 22 then (bif Nat.blt t 21 then (bif Nat.beq t 20 then td20 else tdOf prog t) else (bif Nat.beq t 21 then td21 else tdOf prog t)) else (bif Nat.blt t 23 then (bif Nat.beq t 22 then td22 else tdOf prog t) else (bif Nat.beq t 23 then td23 else tdOf prog t))))) else (bif Nat.blt t 39 then (bif Nat.blt t 33 then (bif Nat.blt t 28 then (bif Nat.beq t 26 then td26 else tdOf prog t) else (bif Nat.blt t 32 then (bif Nat.beq t 28 then td28 else tdOf prog t) else (bif Nat.beq t 32 then td32 else tdOf prog t))) else (bif Nat.blt t 36 then (bif Nat.beq t 33 then td33 else tdOf prog t) else (bif Nat.blt t 38 then (bif Nat.beq t 36 then td36 else tdOf prog t) else (bif Nat.beq t 38 then td38 else tdOf prog t)))) else (bif Nat.blt t 42 then (bif Nat.blt t 40 then (bif Nat.beq t 39 then td39 else tdOf prog t) else (bif Nat.blt t 41 then (bif Nat.beq t 40 then td40 else tdOf prog t) else (bif Nat.beq t 41 then td41 else tdOf prog t))) else (bif Nat.blt t 47 then (bif Nat.blt t 44 then (bif Nat.beq t 42 then td42 else tdOf prog t) else (bif Nat.beq t 44 then td44 else tdOf prog t)) else (bif Nat.blt t 48 then (bif Nat.beq t 47 then td47 else tdOf prog t) else (bif Nat.beq t 48 then td48 else tdOf prog t)))))) else (bif Nat.blt t 87 then (bif Nat.blt t 71 then (bif Nat.blt t 63 then (bif Nat.blt t 59 then (bif Nat.beq t 55 then td55 else tdOf prog t) else (bif Nat.blt t 61 then (bif Nat.beq t 59 then td59 else tdOf prog t) else (bif Nat.beq t 61 then td61 else tdOf prog t))) else (bif Nat.blt t 67 then (bif Nat.beq t 63 then td63 else tdOf prog t) else (bif Nat.blt t 68 then (bif Nat.beq t 67 then td67 else tdOf prog t) else (bif Nat.beq t 68 then td68 else tdOf prog t)))) else (bif Nat.blt t 81 then (bif Nat.blt t 72 then (bif Nat.beq t 71 then td71 else tdOf prog t) else (bif Nat.blt t 74 then (bif Nat.beq t 72 then td72 else tdOf prog t) else (bif Nat.beq t 74 then td74 else tdOf prog t))) else (bif Nat.blt t 84 then (bif Nat.blt t 82 then (bif Nat.beq t 81 then td81 else tdOf prog t) else (bif Nat.beq t 82 then td82 else tdOf prog t)) else (bif Nat.blt t 85 then (bif Nat.beq t 84 then td84 else tdOf prog t) else (bif Nat.beq t 85 then td85 else tdOf prog t))))) else (bif Nat.blt t 110 then (bif Nat.blt t 101 then (bif Nat.blt t 89 then (bif Nat.beq t 87 then td87 else tdOf prog t) else (bif Nat.blt t 96 then (bif Nat.beq t 89 then td89 else tdOf prog t) else (bif Nat.beq t 96 then td96 else tdOf prog t))) else (bif Nat.blt t 106 then (bif Nat.beq t 101 then td101 else tdOf prog t) else (bif Nat.blt t 109 then (bif Nat.beq t 106 then td106 else tdOf prog t) else (bif Nat.beq t 109 then td109 else tdOf prog t)))) else (bif Nat.blt t 115 then (bif Nat.blt t 112 then (bif Nat.beq t 110 then td110 else tdOf prog t) else (bif Nat.blt t 113 then (bif Nat.beq t 112 then td112 else tdOf prog t) else (bif Nat.beq t 113 then td113 else tdOf prog t))) else (bif Nat.blt t 122 then (bif Nat.blt t 117 then (bif Nat.beq t 115 then td115 else tdOf prog t) else (bif Nat.beq t 117 then td117 else tdOf prog t)) else (bif Nat.blt t 124 then (bif Nat.beq t 122 then td122 else tdOf prog t) else (bif Nat.beq t 124 then td124 else tdOf prog t))))))) else (bif Nat.blt t 206 then (bif Nat.blt t 180 then (bif Nat.blt t 161 then (bif Nat.blt t 144 then (bif Nat.blt t 141 then (bif Nat.beq t 140 then td140 else tdOf prog t) else (bif Nat.blt t 143 then (bif Nat.beq t 141 then td141 else tdOf prog t) else (bif Nat.beq t 143 then td143 else tdOf prog t))) else (bif Nat.blt t 145 then (bif Nat.beq t 144 then td144 else tdOf prog t) else (bif Nat.blt t 160 then (bif Nat.beq t 145 then td145 else tdOf prog t) else (bif Nat.beq t 160 then td160 else tdOf prog t)))) else (bif Nat.blt t 169 then (bif Nat.blt t 163 then (bif Nat.beq t 161 then td161 else tdOf prog t) else (bif Nat.blt t 165 then (bif Nat.beq t 163 then td163 else tdOf prog t) else (bif Nat.beq t 165 then td165 else tdOf prog t))) else (bif Nat.blt t 175 then (bif Nat.blt t 173 then (bif Nat.beq t 169 then td169 else tdOf prog t) else (bif Nat.beq t 173 then td173 else tdOf prog t)) else (bif Nat.blt t 177 then (bif Nat.beq t 175 then td175 else tdOf prog t) else (bif Nat.beq t 177 then td177 else tdOf prog t))))) else (bif Nat.blt t 191 then (bif Nat.blt t 186 then (bif Nat.blt t 181 then (bif Nat.beq t 180 then td180 else tdOf prog t) else (bif Nat.blt t 184 then (bif Nat.beq t 181 then td181 else tdOf prog t) else (bif Nat.beq t 184 then td184 else tdOf prog t))) else (bif Nat.blt t 187 then (bif Nat.beq t 186 then td186 else tdOf prog t) else (bif Nat.blt t 190 then (bif Nat.beq t 187 then td187 else tdOf prog t) else (bif Nat.beq t 190 then td190 else tdOf prog t)))) else (bif Nat.blt t 196 then (bif Nat.blt t 194 then (bif Nat.beq t 191 then td191 else tdOf prog t) else (bif Nat.blt t 195 then (bif Nat.beq t 194 then td194 else tdOf prog t) else (bif Nat.beq t 195 then td195 else tdOf prog t))) else (bif Nat.blt t 202 then (bif Nat.blt t 197 then (bif Nat.beq t 196 then td196 else tdOf prog t) else (bif Nat.beq t 197 then td197 else tdOf prog t)) else (bif Nat.blt t 204 then (bif Nat.beq t 202 then td202 else tdOf prog t) else (bif Nat.beq t 204 then td204 else tdOf prog t)))))) else (bif Nat.blt t 250 then (bif Nat.blt t 225 then (bif Nat.blt t 212 then (bif Nat.blt t 207 then (bif Nat.beq t 206 then td206 else tdOf prog t) else (bif Nat.blt t 210 then (bif Nat.beq t 207 then td207 else tdOf prog t) else (bif Nat.beq t 210 then td210 else tdOf prog t))) else (bif Nat.blt t 216 then (bif Nat.beq t 212 then td212 else tdOf prog t) else (bif Nat.blt t 223 then (bif Nat.beq t 216 then td216 else tdOf prog t) else (bif Nat.beq t 223 then td223 else tdOf prog t)))) else (bif Nat.blt t 240 then (bif Nat.blt t 229 then (bif Nat.beq t 225 then td225 else tdOf prog t) else (bif Nat.blt t 233 then (bif Nat.beq t 229 then td229 else tdOf prog t) else (bif Nat.beq t 233 then td233 else tdOf prog t))) else (bif Nat.blt t 247 then (bif Nat.blt t 244 then (bif Nat.beq t 240 then td240 else tdOf prog t) else (bif Nat.beq t 244 then td244 else tdOf prog t)) else (bif Nat.blt t 248 then (bif Nat.beq t 247 then td247 else tdOf prog t) else (bif Nat.beq t 248 then td248 else tdOf prog t))))) else (bif Nat.blt t 277 then (bif Nat.blt t 260 then (bif Nat.blt t 251 then (bif Nat.beq t 250 then td250 else tdOf prog t) else (bif Nat.blt t 259 then (bif Nat.beq t 251 then td251 else tdOf prog t) else (bif Nat.beq t 259 then td259 else tdOf prog t))) else (bif Nat.blt t 265 then (bif Nat.blt t 262 then (bif Nat.beq t 260 then td260 else tdOf prog t) else (bif Nat.beq t 262 then td262 else tdOf prog t)) else (bif Nat.blt t 270 then (bif Nat.beq t 265 then td265 else tdOf prog t) else (bif Nat.beq t 270 then td270 else tdOf prog t)))) else (bif Nat.blt t 282 then (bif Nat.blt t 278 then (bif Nat.beq t 277 then td277 else tdOf prog t) else (bif Nat.blt t 280 then (bif Nat.beq t 278 then td278 else tdOf prog t) else (bif Nat.beq t 280 then td280 else tdOf prog t))) else (bif Nat.blt t 286 then (bif Nat.blt t 284 then (bif Nat.beq t 282 then td282 else tdOf prog t) else (bif Nat.beq t 284 then td284 else tdOf prog t)) else (bif Nat.blt t 287 then (bif Nat.beq t 286 then td286 else tdOf prog t) else (bif Nat.beq t 287 then td287 else tdOf prog t))))))))
theorem tab_eq : tab = tdOf prog := funext fun t => (cond_eq (fun _ => (cond_eq (fun _ => (cond_eq (fun _ => (cond_eq (fun _ => (cond_eq (fun _ => (cond_eq (fun _ => (cond_eq (fun h => (Nat.eq_of_beq_eq_true h) ▸ td0_eq) fun _ => rfl)) fun _ => (cond_eq (fun _ => (cond_eq (fun h => (Nat.eq_of_beq_eq_true h) ▸ td1_eq) fun _ => rfl)) fun _ => (cond_eq (fun h => (Nat.eq_of_beq_eq_true h) ▸ td2_eq) fun _ => rfl)))) fun _ => (cond_eq (fun _ => (cond_eq (fun h => (Nat.eq_of_beq_eq_true h) ▸ td3_eq) fun _ => rfl)) fun _ => (cond_eq (fun _ => (cond_eq (fun h => (Nat.eq_of_beq_eq_true h) ▸ td4_eq) fun _ => rfl)) fun _ => (cond_eq (fun h => (Nat.eq_of_beq_eq_true h) ▸ td5_eq) fun _ => rfl))))) fun _ => (cond_eq (fun _ => (cond_eq (fun _ => (cond_eq (fun h => (Nat.eq_of_beq_eq_true h) ▸ td6_eq) fun _ => rfl)) fun _ => (cond_eq (fun _ => (cond_eq (fun h => (Nat.eq_of_beq_eq_true h) ▸ td8_eq) fun _ => rfl)) fun _ => (cond_eq (fun h => (Nat.eq_of_beq_eq_true h) ▸ td9_eq) fun _ => rfl)))) fun _ => (cond_eq (fun _ => (cond_eq (fun _ => (cond_eq (fun h => (Nat.eq_of_beq_eq_true h) ▸ td20_eq) fun _ => rfl)) fun _ => (cond_eq (fun h => (Nat.eq_of_beq_eq_true h) ▸ td21_eq) fun _ => rfl))) fun _ => (cond_eq (fun _ => (cond_eq (fun h => (Nat.eq_of_beq_eq_true h) ▸ td22_eq) fun _ => rfl)) fun _ => (cond_eq (fun h => (Nat.eq_of_beq_eq_true h) ▸ td23_eq) fun _ => rfl)))))) fun _ => (cond_eq (fun _ => (cond_eq (fun _ => (cond_eq (fun _ => (cond_eq (fun h => (Nat.eq_of_beq_eq_true h) ▸ td26_eq) fun _ => rfl)) fun _ => (cond_eq (fun _ => (cond_eq (fun h => (Nat.eq_of_beq_eq_true h) ▸ td28_eq) fun _ => rfl)) fun _ => (cond_eq (fun h => (Nat.eq_of_beq_eq_true h) ▸ td32_eq) fun _ => rfl)))) fun _ => (cond_eq (fun _ => (cond_eq (fun h => (Nat.eq_of_beq_eq_true h) ▸ td33_eq) fun _ => rfl)) fun _ => (cond_eq (fun _ => (cond_eq (fun h => (Nat.eq_of_beq_eq_true h) ▸ td36_eq) fun _ => rfl)) fun _ => (cond_eq (fun h => (Nat.eq_of_beq_eq_true h) ▸ td38_eq) fun _ => rfl))))) fun _ => (cond_eq (fun _ => (cond_eq (fun _ => (cond_eq (fun h => (Nat.eq_of_beq_eq_true h) ▸ td39_eq) fun _ => rfl)) fun _ => (cond_eq (fun _ => (cond_eq (fun h => (Nat.eq_of_beq_eq_true h) ▸ td40_eq) fun _ => rfl)) fun _ => (cond_eq (fun h => (Nat.eq_of_beq_eq_true h) ▸ td41_eq) fun _ => rfl)))) fun _ => (cond_eq (fun _ => (cond_eq (fun _ => (cond_eq (fun h => (Nat.eq_of_beq_eq_true h) ▸ td42_eq) fun _ => rfl)) fun _ => (cond_eq (fun h => (Nat.eq_of_beq_eq_true h) ▸ td44_eq) fun _ => rfl))) fun _ => (cond_eq (fun _ => (cond_eq (fun h => (Nat.eq_of_beq_eq_true h) ▸ td47_eq) fun _ => rfl)) fun _ => (cond_eq (fun h => (Nat.eq_of_beq_eq_true h) ▸ td48_eq) fun _ => rfl))))))) fun _ => (cond_eq (fun _ => (cond_eq (fun _ => (cond_eq (fun _ => (cond_eq (fun _ => (cond_eq (fun h => (Nat.eq_of_beq_eq_true h) ▸ td55_eq) fun _ => rfl)) fun _ => (cond_eq (fun _ => (cond_eq (fun h => (Nat.eq_of_beq_eq_true h) ▸ td59_eq) fun _ => rfl)) fun _ => (cond_eq (fun h => (Nat.eq_of_beq_eq_true h) ▸ td61_eq) fun _ => rfl)))) fun _ => (cond_eq (fun _ => (cond_eq (fun h => (Nat.eq_of_beq_eq_true h) ▸ td63_eq) fun _ => rfl)) fun _ => (cond_eq (fun _ => (cond_eq (fun h => (Nat.eq_of_beq_eq_true h) ▸ td67_eq) fun _ => rfl)) fun _ => (cond_eq (fun h => (Nat.eq_of_beq_eq_true h) ▸ td68_eq) fun _ => rfl))))) fun _ => (cond_eq (fun _ => (cond_eq (fun _ => (cond_eq (fun h => (Nat.eq_of_beq_eq_true h) ▸ td71_eq) fun _ => rfl)) fun _ => (cond_eq (fun _ => (cond_eq (fun h => (Nat.eq_of_beq_eq_true h) ▸ td72_eq) fun _ => rfl)) fun _ => (cond_eq (fun h => (Nat.eq_of_beq_eq_true h) ▸ td74_eq) fun _ => rfl)))) fun _ => (cond_eq (fun _ => (cond_eq (fun _ => (cond_eq (fun h => (Nat.eq_of_beq_eq_true h) ▸ td81_eq) fun _ => rfl)) fun _ => (cond_eq (fun h => (Nat.eq_of_beq_eq_true h) ▸ td82_eq) fun _ => rfl))) fun _ => (cond_eq (fun _ => (cond_eq (fun h => (Nat.eq_of_beq_eq_true h) ▸ td84_eq) fun _ => rfl)) fun _ => (cond_eq (fun h => (Nat.eq_of_beq_eq_true h) ▸ td85_eq) fun _ => rfl)))))) fun _ => (cond_eq (fun _ => (cond_eq (fun _ => (cond_eq (fun _ => (cond_eq (fun h => (Nat.eq_of_beq_eq_true h) ▸ td87_eq) fun _ => rfl)) fun _ => (cond_eq (fun _ => (cond_eq (fun h => (Nat.eq_of_beq_eq_true h) ▸ td89_eq) fun _ => rfl)) fun _ => (cond_eq (fun h => (Nat.eq_of_beq_eq_true h) ▸ td96_eq) fun _ => rfl)))) fun _ => (cond_eq (fun _ => (cond_eq (fun h => (Nat.eq_of_beq_eq_true h) ▸ td101_eq) fun _ => rfl)) fun _ => (cond_eq (fun _ => (cond_eq (fun h => (Nat.eq_of_beq_eq_true h) ▸ td106_eq) fun _ => rfl)) fun _ => (cond_eq (fun h => (Nat.eq_of_beq_eq_true h) ▸ td109_eq) fun _ => rfl))))) fun _ => (cond_eq (fun _ => (cond_eq (fun _ => (cond_eq (fun h => (Nat.eq_of_beq_eq_true h) ▸ td110_eq) fun _ => rfl)) fun _ => (cond_eq (fun _ => (cond_eq (fun h => (Nat.eq_of_beq_eq_true h) ▸ td112_eq) fun _ => rfl)) fun _ => (cond_eq (fun h => (Nat.eq_of_beq_eq_true h) ▸ td113_eq) fun _ => rfl)))) fun _ => (cond_eq (fun _ => (cond_eq (fun _ => (cond_eq (fun h => (Nat.eq_of_beq_eq_true h) ▸ td115_eq) fun _ => rfl)) fun _ => (cond_eq (fun h => (Nat.eq_of_beq_eq_true h) ▸ td117_eq) fun _ => rfl))) fun _ => (cond_eq (fun _ => (cond_eq (fun h => (Nat.eq_of_beq_eq_true h) ▸ td122_eq) fun _ => rfl)) fun _ => (cond_eq (fun h => (Nat.eq_of_beq_eq_true h) ▸ td124_eq) fun _ => rfl)))))))) fun _ => (cond_eq (fun _ => (cond_eq (fun _ => (cond_eq (fun _ => (cond_eq (fun _ => (cond_eq (fun _ => (cond_eq (fun h => (Nat.eq_of_beq_eq_true h) ▸ td140_eq) fun _ => rfl)) fun _ => (cond_eq (fun _ => (cond_eq (fun h => (Nat.eq_of_beq_eq_true h) ▸ td141_eq) fun _ => rfl)) fun _ => (cond_eq (fun h => (Nat.eq_of_beq_eq_true h) ▸ td143_eq) fun _ => rfl)))) fun _ => (cond_eq (fun _ => (cond_eq (fun h => (Nat.eq_of_beq_eq_true h) ▸ td144_eq) fun _ => rfl)) fun _ => (cond_eq (fun _ => (cond_eq (fun h => (Nat.eq_of_beq_eq_true h) ▸ td145_eq) fun _ => rfl)) fun _ => (cond_eq (fun h => (Nat.eq_of_beq_eq_true h) ▸ td160_eq) fun _ => rfl))))) fun _ => (cond_eq (fun _ => (cond_eq (fun _ => (cond_eq (fun h => (Nat.eq_of_beq_eq_true h) ▸ td161_eq) fun _ => rfl)) fun _ => (cond_eq (fun _ => (cond_eq (fun h => (Nat.eq_of_beq_eq_true h) ▸ td163_eq) fun _ => rfl)) fun _ => (cond_eq (fun h => (Nat.eq_of_beq_eq_true h) ▸ td165_eq) fun _ => rfl)))) fun _ => (cond_eq (fun _ => (cond_eq (fun _ => (cond_eq (fun h => (Nat.eq_of_beq_eq_true h) ▸ td169_eq) fun _ => rfl)) fun _ => (cond_eq (fun h => (Nat.eq_of_beq_eq_true h) ▸ td173_eq) fun _ => rfl))) fun _ => (cond_eq (fun _ => (cond_eq (fun h => (Nat.eq_of_beq_eq_true h) ▸ td175_eq) fun _ => rfl)) fun _ => (cond_eq (fun h => (Nat.eq_of_beq_eq_true h) ▸ td177_eq) fun _ => rfl)))))) fun _ => (cond_eq (fun _ => (cond_eq (fun _ => (cond_eq (fun _ => (cond_eq (fun h => (Nat.eq_of_beq_eq_true h) ▸ td180_eq) fun _ => rfl)) fun _ => (cond_eq (fun _ => (cond_eq (fun h => (Nat.eq_of_beq_eq_true h) ▸ td181_eq) fun _ => rfl)) fun _ => (cond_eq (fun h => (Nat.eq_of_beq_eq_true h) ▸ td184_eq) fun _ => rfl)))) fun _ => (cond_eq (fun _ => (cond_eq (fun h => (Nat.eq_of_beq_eq_true h) ▸ td186_eq) fun _ => rfl)) fun _ => (cond_eq (fun _ => (cond_eq (fun h => (Nat.eq_of_beq_eq_true h) ▸ td187_eq) fun _ => rfl)) fun _ => (cond_eq (fun h => (Nat.eq_of_beq_eq_true h) ▸ td190_eq) fun _ => rfl))))) fun _ => (cond_eq (fun _ => (cond_eq (fun _ => (cond_eq (fun h => (Nat.eq_of_beq_eq_true h) ▸ td191_eq) fun _ => rfl)) fun _ => (cond_eq (fun _ => (cond_eq (fun h => (Nat.eq_of_beq_eq_true h) ▸ td194_eq) fun _ => rfl)) fun _ => (cond_eq (fun h => (Nat.eq_of_beq_eq_true h) ▸ td195_eq) fun _ => rfl)))) fun _ => (cond_eq (fun _ => (cond_eq (fun _ => (cond_eq (fun h => (Nat.eq_of_beq_eq_true h) ▸ td196_eq) fun _ => rfl)) fun _ => (cond_eq (fun h => (Nat.eq_of_beq_eq_true h) ▸ td197_eq) fun _ => rfl))) fun _ => (cond_eq (fun _ => (cond_eq (fun h => (Nat.eq_of_beq_eq_true h) ▸ td202_eq) fun _ => rfl)) fun _ => (cond_eq (fun h => (Nat.eq_of_beq_eq_true h) ▸ td204_eq) fun _ => rfl))))))) fun _ => (cond_eq (fun _ => (cond_eq (fun _ => (cond_eq (fun _ => (cond_eq (fun _ => (cond_eq (fun h => (Nat.eq_of_beq_eq_true h) ▸ td206_eq) fun _ => rfl)) fun _ => (cond_eq (fun _ => (cond_eq (fun h => (Nat.eq_of_beq_eq_true h) ▸ td207_eq) fun _ => rfl)) fun _ => (cond_eq (fun h => (Nat.eq_of_beq_eq_true h) ▸ td210_eq) fun _ => rfl)))) fun _ => (cond_eq (fun _ => (cond_eq (fun h => (Nat.eq_of_beq_eq_true h) ▸ td212_eq) fun _ => rfl)) fun _ => (cond_eq (fun _ => (cond_eq (fun h => (Nat.eq_of_beq_eq_true h) ▸ td216_eq) fun _ => rfl)) fun _ => (cond_eq (fun h => (Nat.eq_of_beq_eq_true h) ▸ td223_eq) fun _ => rfl))))) fun _ => (cond_eq (fun _ => (cond_eq (fun _ => (cond_eq (fun h => (Nat.eq_of_beq_eq_true h) ▸ td225_eq) fun _ => rfl)) fun _ => (cond_eq (fun _ => (cond_eq (fun h => (Nat.eq_of_beq_eq_true h) ▸ td229_eq) fun _ => rfl)) fun _ => (cond_eq (fun h => (Nat.eq_of_beq_eq_true h) ▸ td233_eq) fun _ => rfl)))) fun _ => (cond_eq (fun _ => (cond_eq (fun _ => (cond_eq (fun h => (Nat.eq_of_beq_eq_true h) ▸ td240_eq) fun _ => rfl)) fun _ => (cond_eq (fun h => (Nat.eq_of_beq_eq_true h) ▸ td244_eq) fun _ => rfl))) fun _ => (cond_eq (fun _ => (cond_eq (fun h => (Nat.eq_of_beq_eq_true h) ▸ td247_eq) fun _ => rfl)) fun _ => (cond_eq (fun h => (Nat.eq_of_beq_eq_true h) ▸ td248_eq) fun _ => rfl)))))) fun _ => (cond_eq (fun _ => (cond_eq (fun _ => (cond_eq (fun _ => (cond_eq (fun h => (Nat.eq_of_beq_eq_true h) ▸ td250_eq) fun _ => rfl)) fun _ => (cond_eq (fun _ => (cond_eq (fun h => (Nat.eq_of_beq_eq_true h) ▸ td251_eq) fun _ => rfl)) fun _ => (cond_eq (fun h => (Nat.eq_of_beq_eq_true h) ▸ td259_eq) fun _ => rfl)))) fun _ => (cond_eq (fun _ => (cond_eq (fun _ => (cond_eq (fun h => (Nat.eq_of_beq_eq_true h) ▸ td260_eq) fun _ => rfl)) fun _ => (cond_eq (fun h => (Nat.eq_of_beq_eq_true h) ▸ td262_eq) fun _ => rfl))) fun _ => (cond_eq (fun _ => (cond_eq (fun h => (Nat.eq_of_beq_eq_true h) ▸ td265_eq) fun _ => rfl)) fun _ => (cond_eq (fun h => (Nat.eq_of_beq_eq_true h) ▸ td270_eq) fun _ => rfl))))) fun _ => (cond_eq (fun _ => (cond_eq (fun _ => (cond_eq (fun h => (Nat.eq_of_beq_eq_true h) ▸ td277_eq) fun _ => rfl)) fun _ => (cond_eq (fun _ => (cond_eq (fun h => (Nat.eq_of_beq_eq_true h) ▸ td278_eq) fun _ => rfl)) fun _ => (cond_eq (fun h => (Nat.eq_of_beq_eq_true h) ▸ td280_eq) fun _ => rfl)))) fun _ => (cond_eq (fun _ => (cond_eq (fun _ => (cond_eq (fun h => (Nat.eq_of_beq_eq_true h) ▸ td282_eq) fun _ => rfl)) fun _ => (cond_eq (fun h => (Nat.eq_of_beq_eq_true h) ▸ td284_eq) fun _ => rfl))) fun _ => (cond_eq (fun _ => (cond_eq (fun h => (Nat.eq_of_beq_eq_true h) ▸ td286_eq) fun _ => rfl)) fun _ => (cond_eq (fun h => (Nat.eq_of_beq_eq_true h) ▸ td287_eq) fun _ => rfl))))))))
end Go.PE
