/-
  A part of the proof that the law's function returns true and leaves its arguments as they were, for every input (no condition): own lemmas of the proof, in the order of their use.
-/
import Derived.Test.YtggpmnlmbfogeaaGreatDoorX22
set_option linter.all false
namespace Go.PE
open Go.RowKit Go.Proofs.Tryz
set_option maxRecDepth 100000
variable {k : Nat}
def chB (c : Int) : Bool := ((lt1 c || (decide (48 ≤ c) && decide (c ≤ 57))) || decide (c = 46)) || decide (c = 64)
def nameB (s : Bs) : Bool := decide (s ≠ []) && (decide (s.length ≤ 40) && (lt1 (s.getD 0 0).toNat && (!words.contains s && s.all fun c => chB c.toNat)))
theorem all_step {s : Bs} {i : Nat} {f : UInt8 → Bool} (hi : i < s.length) (h : (s.take i).all f = true) (h2 : f (s.getD i 0) = true) : (s.take (i + 1)).all f = true := by
 rw [take_dg hi, List.all_append, h, List.all_cons, h2]; rfl
theorem all_stop {s : Bs} {i : Nat} {f : UInt8 → Bool} (hi : i < s.length) (h2 : f (s.getD i 0) = false) : s.all f = false := by
 have hc : [s.getD i 0].all f = false := by
  show (f (s.getD i 0) && true) = false
  rw [h2]; rfl
 rw [← List.take_append_drop (i + 1) s, List.all_append, take_dg hi, List.all_append, hc, Bool.and_false, Bool.false_and]
theorem isName_T (s : Bs) (hs : s.length < 4611686018427387904) : T (k + 2) 71 [.str s] = some (.bool (nameB s), []) := by
 refine enter rfl func71 rfl (by decide) (by kernel_rfl) rfl rfl ?_
 refine zs0 ?_
 refine WX.boolM rfl rfl (fun b1 => ?_) (fun b1 => ?_)
 ·have b1 : s = [] := of_decide_eq_true b1
  subst b1
  refine zs0 ?_
  rfl
 ·have b1 : s ≠ [] := of_decide_eq_false b1
  have hp := List.length_pos_iff.2 b1
  refine zs0 ?_
  refine WX.boolM rfl rfl (fun b2 => ?_) (fun b2 => ?_)
  ·have b2 := of_decide_eq_true b2
   refine zs0 ?_
   (refine (congrArg (fun b => some (PV.bool b, [])) ?_ : some (PV.bool _, []) = some (PV.bool _, [])); (unfold nameB; rw [decide_eq_false (p := s.length ≤ 40) (by omega)]; simp))
  ·have b2 := of_decide_eq_false b2
   refine zs0 ?_
   refine wS te rfl rfl (by constructor <;> omega) ?_
   refine zs0 ?_
   refine wC te rfl rfl rfl rfl rfl (ltr_T (k := k) _) rfl rfl ?_
   refine zs0 ?_
   refine WX.boolM rfl rfl (fun b3 => ?_) (fun b3 => ?_)
   ·have b3 := not_true b3
    refine zs0 ?_
    (refine (congrArg (fun b => some (PV.bool b, [])) ?_ : some (PV.bool _, []) = some (PV.bool _, [])); (unfold nameB; rw [show lt1 (s.getD 0 0).toNat = false from b3]; simp))
   ·have b3 := not_false b3
    refine zs1 (word_T (k := k) s) ?_
    refine W.cond rfl (fun b4 => ?_) (fun b4 => ?_)
    ·refine zs0 ?_
     (refine (congrArg (fun b => some (PV.bool b, [])) ?_ : some (PV.bool _, []) = some (PV.bool _, [])); (unfold nameB; rw [show words.contains s = true from b4]; simp))
    ·have hn : nameB s = s.all fun c => chB c.toNat := by
      unfold nameB; rw [show lt1 (s.getD 0 0).toNat = true from b3, show words.contains s = false from b4, decide_eq_true b1, decide_eq_true (show s.length ≤ 40 by omega)]; simp
     rw [hn]
     refine zs0 ?_
     refine W.loop (fun e m => ∃ (i : Nat), e = [(0, .str s), (23, .int .i64 s.length), (24, .int .i64 i)] ∧ i ≤ s.length ∧ ((s.take i).all fun c => chB c.toNat) = true ∧ m = s.length - i) s.length ?_ ?_ ?_
     ·exact ⟨0, rfl, by omega, rfl, by omega⟩
     ·show _ < 4611686018427387904; omega
     ·rintro e m ⟨i, rfl, hi, hd, rfl⟩
      refine zs0 ?_
      refine W.cond rfl (fun hlt => ?_) (fun hlt => ?_)
      ·have hlt := of_decide_eq_true hlt
       have hgo : chB (s.getD i 0).toNat = true → _ := all_step (s := s) (i := i) (f := fun c => chB c.toNat) (by omega) hd
       have hno : chB (s.getD i 0).toNat = false → _ := all_stop (s := s) (i := i) (f := fun c => chB c.toNat) (by omega)
       refine zs0 ?_
       refine wS te rfl rfl (by constructor <;> omega) ?_
       rw [Int.toNat_natCast]
       refine zs0 ?_
       generalize ((s.getD i 0).toNat : Int) = c at *
       refine zs2 (ltr_T (k := k) c) ?_
       repeat' (first | refine wS te rfl rfl trivial ?_ | refine wS te rfl rfl (by decide) ?_ | refine wN ?_ | refine wq ?_ | refine wr ?_ | refine wb ?_ | refine wk ?_ | refine we ?_ | refine wt ?_ | refine wT rfl ?_ | refine wF rfl ?_ | refine wK rfl ?_ | refine WX.boolM rfl rfl (fun _ => ?_) (fun _ => ?_) | refine W.cond rfl (fun _ => ?_) (fun _ => ?_))
       all_goals first
        | (refine (congrArg (fun b => some (PV.bool b, [])) ?_ : some (PV.bool _, []) = some (PV.bool _, [])); exact (hno (by clear hgo hno; simp_all [chB] <;> omega)).symm)
        | (rw [wrap_i64 (x := (i : Int) + 1) (by omega) (by omega)]; show ∃ m', _; exact ⟨s.length - (i + 1), by omega, i + 1, rfl, by omega, hgo (by clear hgo hno; simp_all [chB] <;> omega), rfl⟩)
      ·have hlt := of_decide_eq_false hlt
       rw [List.take_of_length_le (by omega)] at hd
       refine zs0 ?_
       (refine (congrArg (fun b => some (PV.bool b, [])) ?_ : some (PV.bool _, []) = some (PV.bool _, [])); exact hd.symm)
theorem lt1_eq (c : Int) : lt1 c = (((lt0 c || decide (c = 95)) || decide (c = 36)) || decide (c = 33)) := rfl
theorem rname_T (s : Bs) (hs : s.length < 4611686018427387904) : T (k + 2) 74 [.str s] = some (.bool (nameB s), []) := by
 refine enter rfl func74 rfl (by decide) (by kernel_rfl) rfl rfl ?_
 refine zs0 ?_
 refine WX.boolM rfl rfl (fun b1 => ?_) (fun b1 => ?_)
 ·have b1 : s = [] := of_decide_eq_true b1
  subst b1
  refine zs0 ?_
  rfl
 ·have b1 : s ≠ [] := of_decide_eq_false b1
  have hp := List.length_pos_iff.2 b1
  refine zs0 ?_
  refine WX.boolM rfl rfl (fun b2 => ?_) (fun b2 => ?_)
  ·have b2 := of_decide_eq_true b2
   refine zs0 ?_
   (refine (congrArg (fun b => some (PV.bool b, [])) ?_ : some (PV.bool _, []) = some (PV.bool _, [])); (unfold nameB; rw [decide_eq_false (p := s.length ≤ 40) (by omega)]; simp))
  ·have b2 := of_decide_eq_false b2
   refine zs1 (reserved_T (k := k)) ?_
   refine wC te rfl rfl rfl rfl rfl (in_T (k := k) words s (by decide)) rfl rfl ?_
   refine zs0 ?_
   refine W.cond rfl (fun b4 => ?_) (fun b4 => ?_)
   ·refine zs0 ?_
    (refine (congrArg (fun b => some (PV.bool b, [])) ?_ : some (PV.bool _, []) = some (PV.bool _, [])); (unfold nameB; rw [show words.contains s = true from b4]; simp))
   ·have hn : nameB s = (lt1 (s.getD 0 0).toNat && s.all fun c => chB c.toNat) := by
     unfold nameB; rw [show words.contains s = false from b4, decide_eq_true b1, decide_eq_true (show s.length ≤ 40 by omega)]; simp
    rw [hn]
    refine zs0 ?_
    refine W.loop (fun e m => ∃ (i : Nat), e = [(0, .str s), (3, .int .i64 i)] ∧ i ≤ s.length ∧ ((s.take i).all fun c => chB c.toNat) = true ∧ (i ≠ 0 → lt1 (s.getD 0 0).toNat = true) ∧ m = s.length - i) s.length ?_ ?_ ?_
    ·exact ⟨0, rfl, by omega, rfl, fun h => absurd rfl h, by omega⟩
    ·show _ < 4611686018427387904; omega
    ·rintro e m ⟨i, rfl, hi, hd, h0, rfl⟩
     refine zs0 ?_
     refine W.cond rfl (fun hlt => ?_) (fun hlt => ?_)
     ·have hlt := of_decide_eq_true hlt
      have hgo : chB (s.getD i 0).toNat = true → _ := all_step (s := s) (i := i) (f := fun c => chB c.toNat) (by omega) hd
      have hno : chB (s.getD i 0).toNat = false → _ := all_stop (s := s) (i := i) (f := fun c => chB c.toNat) (by omega)
      have hz : i = 0 → lt1 (s.getD i 0).toNat = false → lt1 (s.getD 0 0).toNat = false := by rintro rfl h; exact h
      have hz2 : lt1 (s.getD i 0).toNat = true ∨ i ≠ 0 → lt1 (s.getD 0 0).toNat = true := by
       rintro (h | h)
       ·by_cases e : i = 0
        ·subst e; exact h
        ·exact h0 e
       ·exact h0 h
      generalize lt1 (s.getD 0 0).toNat = first at *
      refine zs0 ?_
      refine wS te rfl rfl (by constructor <;> omega) ?_
      rw [Int.toNat_natCast]
      refine zs0 ?_
      generalize ((s.getD i 0).toNat : Int) = c at *
      have hf : (i = 0 ∧ lt1 c = false) ∨ chB c = false → (first && s.all fun c => chB c.toNat) = false := by
       rintro (⟨h1, h2⟩ | h)
       ·rw [hz h1 h2]; rfl
       ·rw [hno h, Bool.and_false]
      refine zs2 (rltr_T (k := k) c) ?_
      repeat' (first | refine wS te rfl rfl trivial ?_ | refine wS te rfl rfl (by decide) ?_ | refine wN ?_ | refine wq ?_ | refine wr ?_ | refine wb ?_ | refine wk ?_ | refine we ?_ | refine wt ?_ | refine wT rfl ?_ | refine wF rfl ?_ | refine wK rfl ?_ | refine WX.boolM rfl rfl (fun _ => ?_) (fun _ => ?_) | refine W.cond rfl (fun _ => ?_) (fun _ => ?_))
      all_goals first
       | (refine (congrArg (fun b => some (PV.bool b, [])) ?_ : some (PV.bool _, []) = some (PV.bool _, [])); (exact (hf (by clear hz hz2 hgo hno h0 hn hf; simp_all [chB, lt1_eq] <;> omega)).symm))
       | (rw [wrap_i64 (x := (i : Int) + 1) (by omega) (by omega)]; show ∃ m', _; exact ⟨s.length - (i + 1), by omega, i + 1, rfl, by omega, hgo (by clear hz hz2 hgo hno h0 hn hf; simp_all [chB, lt1_eq] <;> omega), fun _ => hz2 (by clear hz hz2 hgo hno h0 hn hf; simp_all [lt1_eq] <;> omega), rfl⟩)
     ·have hlt := of_decide_eq_false hlt
      rw [List.take_of_length_le (by omega)] at hd
      refine zs0 ?_
      (refine (congrArg (fun b => some (PV.bool b, [])) ?_ : some (PV.bool _, []) = some (PV.bool _, [])); (rw [hd, h0 (by omega)]; rfl))
end Go.PE
namespace Go.PE
open Go.RowKit Go.Proofs.Tryz
set_option maxRecDepth 100000
variable {k : Nat}
abbrev Trm := Bs × Bs
def trow (ts : List Trm) : List (List PV) := ts.map fun t => [.str t.1, .str t.2]
theorem trow_len (ts : List Trm) : (trow ts).length = ts.length := by simp [trow]
theorem trow_get {ts : List Trm} {i : Nat} (h : i < ts.length) : (trow ts)[i]? = some [.str (ts.getD i ([], [])).1, .str (ts.getD i ([], [])).2] := by
 unfold trow
 rw [List.getElem?_map, List.getElem?_eq_getElem h]
 simp [List.getD, List.getElem?_eq_getElem h]
def okI (ts : List Trm) (i : Nat) : Bool :=
 nameB (ts.getD i ([], [])).1 && ((rd (ts.getD i ([], [])).2).isSome && (decide ((ts.getD i ([], [])).2 ≠ [48]) && (decide (i = 0) || Op.bytesLess (ts.getD (i - 1) ([], [])).1 (ts.getD i ([], [])).1)))
def linB (kind : Int) (ts : List Trm) (c : Bs) : Bool := (decide (kind = 2) || decide (kind = 3)) && ((rd c).isSome && (List.range ts.length).all (okI ts))
def smallT (t : Trm) : Prop := t.1.length < 150994900 ∧ t.2.length < 150994900
theorem small_get {ts : List Trm} (h : ∀ t ∈ ts, smallT t) (i : Nat) : (ts.getD i ([], [])).1.length < 150994900 ∧ (ts.getD i ([], [])).2.length < 150994900 := by
 simp only [List.getD]
 cases e : ts[i]? with
 | none => simp
 | some t => exact h t (List.mem_of_getElem? e)
theorem range_stop {n i : Nat} {f : Nat → Bool} (hi : i < n) (h : f i = false) : (List.range n).all f = false := by
 rw [Bool.eq_false_iff]; intro e
 have := List.all_eq_true.1 e i (List.mem_range.2 hi)
 rw [h] at this; cases this
theorem range_step {i : Nat} {f : Nat → Bool} (h : (List.range i).all f = true) (h2 : f i = true) : (List.range (i + 1)).all f = true := by
 rw [List.range_succ, List.all_append, h, List.all_cons, h2]; rfl
theorem linLoop (kind : Int) (ts : List Trm) (c : Bs) (av : PV) (hts : ∀ t ∈ ts, smallT t) (hn : ts.length < 1073741824) (p : Nat) (e : List (Nat × PV)) (s1 : Stamp)
  (h1 : lookup e 1 = .box s1 [.int .i64 kind, .imm 2 (trow ts), .str c]) (h19 : lookup e 19 = .loc 1 s1 1) (h20 : lookup e 20 = .imm 2 (trow ts)) (h21 : lookup e 21 = .int .i64 ts.length) (h22 : lookup e 22 = .int .i64 0) (hb : boxPos [av] = []) :
  W prog (T (k + 6)) (keepF 22) (lvF 22) NN 0 (cs2 (cs1 (cs2 (cs2 (bodyOf f22))))) (p, e)
   (thenW (fun s' => W prog (T (k + 6)) (keepF 22) (lvF 22) NN 0 (cs2 (cs2 (cs2 (bodyOf f22)))) s' (endW (finishT tab f22.results.toList (boxPos [av])) (.bool ((List.range ts.length).all (okI ts)), [])))
    (endW (finishT tab f22.results.toList (boxPos [av])) (.bool ((List.range ts.length).all (okI ts)), []))) := by
 rw [hb]
 refine wb ?_
 refine W.loop (fun e m => ∃ (i : Nat), e = [(1, .box (0, 0) [.int .i64 kind, .imm 2 (trow ts), .str c]), (19, .loc 1 (0, 0) 1), (20, .imm 2 (trow ts)), (21, .int .i64 ts.length), (22, .int .i64 i)] ∧ i ≤ ts.length ∧ (List.range i).all (okI ts) = true ∧ m = ts.length - i) ts.length ?_ ?_ ?_
 ·refine ⟨0, ?_, by omega, rfl, by omega⟩
  have hl : [1, 19, 20, 21, 22].contains 1 = true := rfl
  show [(1, canonV _ _ (lookup e 1)), (19, canonV [1, 19, 20, 21, 22] (lookup e) (lookup e 19)), (20, canonV _ _ (lookup e 20)), (21, canonV _ _ (lookup e 21)), (22, canonV _ _ (lookup e 22))] = _
  rw [h1, h19, h20, h21, h22]
  simp only [canonV, hl, h1, if_true]
  rfl
 ·show _ < 4611686018427387904; omega
 ·rintro e m ⟨i, rfl, hi, hd, rfl⟩
  refine zs0 ?_
  refine W.cond rfl (fun hlt => ?_) (fun hlt => ?_)
  ·have hlt := of_decide_eq_true hlt
   have hg := trow_get (ts := ts) (i := i) (by omega)
   have hsm := small_get hts i
   have hgo := @range_step i (okI ts) hd
   have hno := @range_stop ts.length i (okI ts) (by omega)
   refine zs0 ?_
   refine wI te rfl rfl rfl rfl rfl rfl (by omega) (hg) ?_
   refine zd8 ?_
   have hok : okI ts i = (nameB (ts.getD i ([], [])).1 && ((rd (ts.getD i ([], [])).2).isSome && (decide ((ts.getD i ([], [])).2 ≠ [48]) && (decide (i = 0) || Op.bytesLess (ts.getD (i - 1) ([], [])).1 (ts.getD i ([], [])).1)))) := rfl
   generalize hnm : (ts.getD i ([], [])).1 = nm at *
   generalize hcf : (ts.getD i ([], [])).2 = cf at *
   refine wG te rfl rfl rfl rfl rfl (isName_T (k := k + 4) nm (by omega)) rfl rfl ?_
   refine zd0 ?_
   refine WX.boolMD rfl rfl (fun b1 => ?_) (fun b1 => ?_)
   ·have b1 := not_true b1
    refine zd7 ?_
    (refine (congrArg (fun b => some (PV.bool b, [])) ?_ : some (PV.bool _, []) = some (PV.bool _, [])); exact (hno (by rw [hok, b1]; rfl)).symm)
   ·have b1 := not_false b1
    refine zd0 ?_
    refine wG te rfl rfl rfl rfl rfl (valid_T (k := k) cf (by omega)) rfl rfl ?_
    refine zd0 ?_
    refine WX.boolMD rfl rfl (fun b2 => ?_) (fun b2 => ?_)
    ·have b2 := not_true b2
     refine zd7 ?_
     (refine (congrArg (fun b => some (PV.bool b, [])) ?_ : some (PV.bool _, []) = some (PV.bool _, [])); exact (hno (by rw [hok, b2, Bool.false_and, Bool.and_false])).symm)
    ·have b2 := not_false b2
     refine zd0 ?_
     refine WX.boolMD rfl rfl (fun b3 => ?_) (fun b3 => ?_)
     ·have b3 : cf = [48] := of_decide_eq_true b3
      refine zd7 ?_
      (refine (congrArg (fun b => some (PV.bool b, [])) ?_ : some (PV.bool _, []) = some (PV.bool _, [])); exact (hno (by rw [hok, b3]; simp)).symm)
     ·have b3 : cf ≠ [48] := of_decide_eq_false b3
      rw [b1, b2, decide_eq_true b3, Bool.true_and, Bool.true_and, Bool.true_and] at hok
      refine zd0 ?_
      refine WX.boolMD rfl rfl (fun b4 => ?_) (fun b4 => ?_)
      ·have b4 : 0 < i := by have := of_decide_eq_true b4; omega
       have hg2 := trow_get (ts := ts) (i := i - 1) (by omega)
       refine zd0 ?_
       rw [wrap_i64 (x := (i : Int) - 1) (by omega) (by omega)]
       refine WX.idxImmD tab_eq rfl rfl rfl rfl rfl rfl (by omega) (by rw [show ((i : Int) - 1).toNat = i - 1 by omega]; exact hg2) ?_
       refine zd0 ?_
       refine WX.nilD (by kernel_rfl) ?_
       rw [decide_eq_false (show ¬ i = 0 by omega), Bool.false_or] at hok
       generalize (ts.getD (i - 1) ([], [])).1 = pn at *
       refine W.cond rfl (fun b5 => ?_) (fun b5 => ?_)
       ·have b5 := not_true b5
        refine zs0 ?_
        (refine (congrArg (fun b => some (PV.bool b, [])) ?_ : some (PV.bool _, []) = some (PV.bool _, [])); exact (hno (by rw [hok]; exact b5)).symm)
       ·have b5 := not_false b5
        refine zs0 ?_
        rw [wrap_i64 (x := (i : Int) + 1) (by omega) (by omega)]
        show ∃ m', _
        exact ⟨ts.length - (i + 1), by omega, i + 1, rfl, by omega, hgo (by rw [hok]; exact b5), rfl⟩
      ·have b4 : i = 0 := by have := of_decide_eq_false b4; omega
       refine zd7 ?_
       rw [wrap_i64 (x := (i : Int) + 1) (by omega) (by omega)]
       show ∃ m', _
       exact ⟨ts.length - (i + 1), by omega, i + 1, rfl, by omega, hgo (by rw [hok, decide_eq_true b4]; rfl), rfl⟩
  ·have hlt := of_decide_eq_false hlt
   have hie : i = ts.length := by omega
   subst hie
   refine zs0 ?_
   (refine (congrArg (fun b => some (PV.bool b, [])) ?_ : some (PV.bool _, []) = some (PV.bool _, [])); exact hd.symm)
theorem linValid_T (kind : Int) (ts : List Trm) (c : Bs) (hts : ∀ t ∈ ts, smallT t) (hn : ts.length < 1073741824) (hc : c.length < 150994900) :
  T (k + 7) 22 [.agg [.int .i64 kind, .imm 2 (trow ts), .str c]] = some (.bool (linB kind ts c), []) := by
 have hv := valid_T (k := k) c hc
 unfold linB
 by_cases hk : kind = 2 ∨ kind = 3
 ·have hk1 : (decide (kind = 2) || decide (kind = 3)) = true := by rcases hk with rfl | rfl <;> rfl
  rw [hk1, Bool.true_and]
  cases hr : (rd c).isSome
  ·rw [hr] at hv
   rcases hk with rfl | rfl
   ·refine enter rfl func22 rfl (by decide) (by kernel_rfl) rfl rfl ?_
    refine zs1 hv ?_
    rfl
   ·refine enter rfl func22 rfl (by decide) (by kernel_rfl) rfl rfl ?_
    refine zs1 hv ?_
    rfl
  ·rw [hr] at hv
   rcases hk with rfl | rfl
   ·refine enter rfl func22 rfl (by decide) (by kernel_rfl) rfl rfl ?_
    refine wq ?_
    refine wr ?_
    repeat (first | refine wS te rfl rfl trivial ?_ | refine wS te rfl rfl (by decide) ?_ | refine wN ?_ | refine wK rfl ?_)
    refine wq ?_
    refine wq ?_
    refine wr ?_
    repeat (first | refine wS te rfl rfl trivial ?_ | refine wS te rfl rfl (by decide) ?_ | refine wN ?_ | refine wK rfl ?_)
    refine zs3 hv ?_
    repeat (first | refine wS te rfl rfl trivial ?_ | refine wS te rfl rfl (by decide) ?_ | refine wN ?_ | refine wK rfl ?_)
    refine wF rfl ?_
    refine wk ?_
    refine wq ?_
    refine wq ?_
    refine wr ?_
    repeat (first | refine wS te rfl rfl trivial ?_ | refine wS te rfl rfl (by decide) ?_ | refine wN ?_ | refine wK rfl ?_)
    rw [trow_len]
    refine linLoop (k := k) 2 ts c _ hts hn _ _ ?s1 ?h1 ?h19 ?h20 ?h21 ?h22 rfl
    case h1 => exact rfl
    case h19 => exact rfl
    case h20 => exact rfl
    case h21 => exact rfl
    case h22 => exact rfl
   ·refine enter rfl func22 rfl (by decide) (by kernel_rfl) rfl rfl ?_
    refine wq ?_
    refine wr ?_
    repeat (first | refine wS te rfl rfl trivial ?_ | refine wS te rfl rfl (by decide) ?_ | refine wN ?_ | refine wK rfl ?_)
    refine wq ?_
    refine wq ?_
    refine wr ?_
    repeat (first | refine wS te rfl rfl trivial ?_ | refine wS te rfl rfl (by decide) ?_ | refine wN ?_ | refine wK rfl ?_)
    refine zs3 hv ?_
    repeat (first | refine wS te rfl rfl trivial ?_ | refine wS te rfl rfl (by decide) ?_ | refine wN ?_ | refine wK rfl ?_)
    refine wF rfl ?_
    refine wk ?_
    refine wq ?_
    refine wq ?_
    refine wr ?_
    repeat (first | refine wS te rfl rfl trivial ?_ | refine wS te rfl rfl (by decide) ?_ | refine wN ?_ | refine wK rfl ?_)
    rw [trow_len]
    refine linLoop (k := k) 3 ts c _ hts hn _ _ ?s1 ?h1 ?h19 ?h20 ?h21 ?h22 rfl
    case h1 => exact rfl
    case h19 => exact rfl
    case h20 => exact rfl
    case h21 => exact rfl
    case h22 => exact rfl
 ·have hk1 : (decide (kind = 2) || decide (kind = 3)) = false := by
   rw [not_or] at hk; simp [hk.1, hk.2]
  rw [not_or] at hk
  rw [hk1, Bool.false_and]
  refine enter rfl func22 rfl (by decide) (by kernel_rfl) rfl rfl ?_
  refine zs0 ?_
  refine WX.boolM rfl rfl (fun b1 => ?_) (fun b1 => ?_)
  ·refine zs0 ?_
   refine WX.boolM rfl rfl (fun b2 => ?_) (fun b2 => ?_)
   ·refine zs0 ?_
    rfl
   ·exact absurd b2 (by simp [hk.2])
  ·exact absurd b1 (by simp [hk.1])
end Go.PE
namespace Go.PE
open Go.RowKit Go.Proofs.Tryz
set_option maxRecDepth 100000
variable {k : Nat}
theorem numeric_T (c : Int) : T (k + 1) 72 [.int .i64 c] = some (.bool (decide (c = 2) || decide (c = 3)), []) := by
 refine enter rfl func72 rfl (by decide) (by kernel_rfl) rfl rfl ?_
 repeat' (first | refine wS te rfl rfl trivial ?_ | refine wS te rfl rfl (by decide) ?_ | refine wN ?_ | refine wq ?_ | refine wr ?_ | refine wb ?_ | refine wk ?_ | refine we ?_ | refine wt ?_ | refine wT rfl ?_ | refine wF rfl ?_ | refine wK rfl ?_ | refine WX.boolM rfl rfl (fun _ => ?_) (fun _ => ?_) | refine W.cond rfl (fun _ => ?_) (fun _ => ?_))
 all_goals (refine (congrArg (fun b => some (PV.bool b, [])) ?_ : some (PV.bool _, []) = some (PV.bool _, [])); simp_all)
theorem rlinLoop (kind : Int) (ts : List Trm) (c : Bs) (av : PV) (hts : ∀ t ∈ ts, smallT t) (hn : ts.length < 1073741824) (p : Nat) (e : List (Nat × PV)) (s1 : Stamp)
  (h1 : lookup e 1 = .box s1 [.int .i64 kind, .imm 2 (trow ts), .str c]) (h3 : lookup e 3 = .int .i64 0) (hb : boxPos [av] = []) :
  W prog (T (k + 7)) (keepF 23) (lvF 23) NN 0 (cs2 (cs1 (cs2 (cs2 (bodyOf f23))))) (p, e)
   (thenW (fun s' => W prog (T (k + 7)) (keepF 23) (lvF 23) NN 0 (cs2 (cs2 (cs2 (bodyOf f23)))) s' (endW (finishT tab f23.results.toList (boxPos [av])) (.bool ((List.range ts.length).all (okI ts)), [])))
    (endW (finishT tab f23.results.toList (boxPos [av])) (.bool ((List.range ts.length).all (okI ts)), []))) := by
 rw [hb]
 refine wb ?_
 refine W.loop (fun e m => ∃ (i : Nat), e = [(1, .box (0, 0) [.int .i64 kind, .imm 2 (trow ts), .str c]), (3, .int .i64 i)] ∧ i ≤ ts.length ∧ (List.range i).all (okI ts) = true ∧ m = ts.length - i) ts.length ?_ ?_ ?_
 ·refine ⟨0, ?_, by omega, rfl, by omega⟩
  show [(1, canonV _ _ (lookup e 1)), (3, canonV _ _ (lookup e 3))] = _
  rw [h1, h3]
  rfl
 ·show _ < 4611686018427387904; omega
 ·rintro e m ⟨i, rfl, hi, hd, rfl⟩
  refine zs0 ?_
  rw [trow_len]
  refine W.cond rfl (fun hlt => ?_) (fun hlt => ?_)
  ·have hlt := of_decide_eq_true hlt
   have hg := trow_get (ts := ts) (i := i) (by omega)
   have hsm := small_get hts i
   have hgo := @range_step i (okI ts) hd
   have hno := @range_stop ts.length i (okI ts) (by omega)
   have hok : okI ts i = (nameB (ts.getD i ([], [])).1 && ((rd (ts.getD i ([], [])).2).isSome && (decide ((ts.getD i ([], [])).2 ≠ [48]) && (decide (i = 0) || Op.bytesLess (ts.getD (i - 1) ([], [])).1 (ts.getD i ([], [])).1)))) := rfl
   generalize hnm : (ts.getD i ([], [])).1 = nm at *
   generalize hcf : (ts.getD i ([], [])).2 = cf at *
   refine zd8 ?_
   refine WX.idxImmD tab_eq rfl rfl rfl rfl rfl rfl (by omega) (hg) ?_
   refine zd0 ?_
   refine wG te rfl rfl rfl rfl rfl (rname_T (k := k + 5) nm (by omega)) rfl rfl ?_
   refine zd0 ?_
   refine WX.boolMD rfl rfl (fun b1 => ?_) (fun b1 => ?_)
   ·have b1 := not_true b1
    refine zd7 ?_
    (refine (congrArg (fun b => some (PV.bool b, [])) ?_ : some (PV.bool _, []) = some (PV.bool _, [])); exact (hno (by rw [hok, b1]; rfl)).symm)
   ·have b1 := not_false b1
    refine zd0 ?_
    refine WX.idxImmD tab_eq rfl rfl rfl rfl rfl rfl (by omega) (hg) ?_
    refine zd0 ?_
    refine wG te rfl rfl rfl rfl rfl (rvalid_T (k := k) cf (by omega)) rfl rfl ?_
    refine zd0 ?_
    refine WX.boolMD rfl rfl (fun b2 => ?_) (fun b2 => ?_)
    ·have b2 := not_true b2
     refine zd7 ?_
     (refine (congrArg (fun b => some (PV.bool b, [])) ?_ : some (PV.bool _, []) = some (PV.bool _, [])); exact (hno (by rw [hok, b2, Bool.false_and, Bool.and_false])).symm)
    ·have b2 := not_false b2
     refine zd0 ?_
     refine WX.idxImmD tab_eq rfl rfl rfl rfl rfl rfl (by omega) (hg) ?_
     refine zd0 ?_
     refine WX.boolMD rfl rfl (fun b3 => ?_) (fun b3 => ?_)
     ·have b3 : cf = [48] := of_decide_eq_true b3
      refine zd7 ?_
      (refine (congrArg (fun b => some (PV.bool b, [])) ?_ : some (PV.bool _, []) = some (PV.bool _, [])); exact (hno (by rw [hok, b3]; simp)).symm)
     ·have b3 : cf ≠ [48] := of_decide_eq_false b3
      rw [b1, b2, decide_eq_true b3, Bool.true_and, Bool.true_and, Bool.true_and] at hok
      refine zd0 ?_
      refine WX.boolMD rfl rfl (fun b4 => ?_) (fun b4 => ?_)
      ·have b4 : 0 < i := by have := of_decide_eq_true b4; omega
       have hg2 := trow_get (ts := ts) (i := i - 1) (by omega)
       refine zd0 ?_
       rw [wrap_i64 (x := (i : Int) - 1) (by omega) (by omega)]
       refine WX.idxImmD tab_eq rfl rfl rfl rfl rfl rfl (by omega) (by rw [show ((i : Int) - 1).toNat = i - 1 by omega]; exact hg2) ?_
       refine zd0 ?_
       refine WX.idxImmD tab_eq rfl rfl rfl rfl rfl rfl (by omega) (hg) ?_
       refine zd0 ?_
       refine WX.nilD (by kernel_rfl) ?_
       rw [decide_eq_false (show ¬ i = 0 by omega), Bool.false_or] at hok
       generalize (ts.getD (i - 1) ([], [])).1 = pn at *
       refine zs0 ?_
       refine W.cond rfl (fun b5 => ?_) (fun b5 => ?_)
       ·have b5 := not_true b5
        refine zs0 ?_
        (refine (congrArg (fun b => some (PV.bool b, [])) ?_ : some (PV.bool _, []) = some (PV.bool _, [])); exact (hno (by rw [hok]; exact b5)).symm)
       ·have b5 := not_false b5
        refine zs0 ?_
        rw [wrap_i64 (x := (i : Int) + 1) (by omega) (by omega)]
        show ∃ m', _
        exact ⟨ts.length - (i + 1), by omega, i + 1, rfl, by omega, hgo (by rw [hok]; exact b5), rfl⟩
      ·have b4 : i = 0 := by have := of_decide_eq_false b4; omega
       refine zd7 ?_
       rw [wrap_i64 (x := (i : Int) + 1) (by omega) (by omega)]
       show ∃ m', _
       exact ⟨ts.length - (i + 1), by omega, i + 1, rfl, by omega, hgo (by rw [hok, decide_eq_true b4]; rfl), rfl⟩
  ·have hlt := of_decide_eq_false hlt
   have hie : i = ts.length := by omega
   subst hie
   refine zs0 ?_
   (refine (congrArg (fun b => some (PV.bool b, [])) ?_ : some (PV.bool _, []) = some (PV.bool _, [])); exact hd.symm)
theorem rlinValid_T (kind : Int) (ts : List Trm) (c : Bs) (hts : ∀ t ∈ ts, smallT t) (hn : ts.length < 1073741824) (hc : c.length < 150994900) :
  T (k + 8) 23 [.agg [.int .i64 kind, .imm 2 (trow ts), .str c]] = some (.bool (linB kind ts c), []) := by
 have hv := rvalid_T (k := k) c (by omega)
 unfold linB
 refine enter rfl func23 rfl (by decide) (by kernel_rfl) rfl rfl ?_
 refine wq ?_
 refine wr ?_
 repeat (first | refine wS te rfl rfl trivial ?_ | refine wS te rfl rfl (by decide) ?_ | refine wN ?_ | refine wK rfl ?_)
 refine wq ?_
 refine wq ?_
 refine wr ?_
 repeat (first | refine wS te rfl rfl trivial ?_ | refine wS te rfl rfl (by decide) ?_ | refine wN ?_ | refine wK rfl ?_)
 refine zs3 (numeric_T (k := k + 6) kind) ?_
 repeat (first | refine wS te rfl rfl trivial ?_ | refine wS te rfl rfl (by decide) ?_ | refine wN ?_ | refine wK rfl ?_)
 refine WX.boolM rfl rfl (fun b1 => ?_) (fun b1 => ?_)
 ·have b1 := not_true b1
  refine zs0 ?_
  (refine (congrArg (fun b => some (PV.bool b, [])) ?_ : some (PV.bool _, []) = some (PV.bool _, [])); (rw [b1]; rfl))
 ·have b1 := not_false b1
  rw [b1, Bool.true_and]
  repeat (first | refine wS te rfl rfl trivial ?_ | refine wS te rfl rfl (by decide) ?_ | refine wN ?_ | refine wK rfl ?_)
  refine zs3 hv ?_
  repeat (first | refine wS te rfl rfl trivial ?_ | refine wS te rfl rfl (by decide) ?_ | refine wN ?_ | refine wK rfl ?_)
  refine W.cond rfl (fun b2 => ?_) (fun b2 => ?_)
  ·have b2 := not_true b2
   refine zs0 ?_
   (refine (congrArg (fun b => some (PV.bool b, [])) ?_ : some (PV.bool _, []) = some (PV.bool _, [])); (rw [b2]; rfl))
  ·have b2 := not_false b2
   rw [b2, Bool.true_and]
   refine wk ?_
   refine wq ?_
   refine wq ?_
   refine wr ?_
   repeat (first | refine wS te rfl rfl trivial ?_ | refine wS te rfl rfl (by decide) ?_ | refine wN ?_ | refine wK rfl ?_)
   refine rlinLoop (k := k) kind ts c _ hts hn _ _ ?s1 ?h1 ?h3 rfl
   case h1 => exact rfl
   case h3 => exact rfl
end Go.PE
namespace Go.PE
open Go.RowKit Go.Proofs.Tryz
set_option maxRecDepth 100000
variable {k : Nat}
def isIq (s : Bs) : Bool := match rd s with | some q => decide (q.den = 1) | none => false
def sgq (s : Bs) : Int := match rd s with | some q => sgn q | none => 0
theorem isI_q (s : Bs) : isI s = isIq s := by
 unfold isIq
 cases h : rd s with
 | some q => rw [rs_rd h, isI_rs]
 | none =>
  simp only
  rw [Bool.eq_false_iff]
  intro hi
  unfold isI at hi
  simp only [Bool.and_eq_true, Bool.not_eq_true', Bool.and_eq_false_imp, decide_eq_false_iff_not] at hi
  obtain ⟨h1, h2⟩ := hi
  have hs : (47 : UInt8) ∉ (cutM s).1 := by
   intro hm
   have := List.all_eq_true.1 (numeral_all h1) _ hm
   revert this; decide
  have : rd s = some (mkRat (sg (cutM s).2 (val (cutM s).1)) 1) := by
   unfold rd
   simp only [cutS_none hs]
   rw [if_pos]
   ·rfl
   ·rw [h1, Bool.true_and, Bool.not_eq_true', Bool.and_eq_false_imp]
    intro e
    have e : (cutM s).1 = [48] := by simpa using e
    rw [Bool.or_false]
    cases hc : (cutM s).2
    ·rfl
    ·exact absurd e (h2 hc)
  rw [this] at h; cases h
def conB (rel kind : Int) (ts : List Trm) (c m : Bs) : Bool :=
 if rel = 1 ∨ rel = 2 ∨ rel = 3 then linB kind ts c && decide (m = [])
 else if rel = 4 ∨ rel = 5 then linB kind ts c && (decide (kind = 2) && (isIq m && decide (0 < sgq m)))
 else false
theorem con24_1 (kind : Int) (ts : List Trm) (c m : Bs) (L : Bool) (hl : T (k + 7) 22 [.agg [.int .i64 kind, .imm 2 (trow ts), .str c]] = some (.bool L, [])) :
  T (k + 7 + 1) 24 [.agg [.int .i64 1, .int .i64 kind, .imm 2 (trow ts), .str c, .str m]] = some (.bool (L && decide (m = [])), []) := by
 cases L
 ·refine enter rfl func24 rfl (by decide) (by kernel_rfl) rfl rfl ?_
  refine zs1 hl ?_
  rfl
 ·refine enter rfl func24 rfl (by decide) (by kernel_rfl) rfl rfl ?_
  refine zs1 hl ?_
  rfl
theorem con24_2 (kind : Int) (ts : List Trm) (c m : Bs) (L : Bool) (hl : T (k + 7) 22 [.agg [.int .i64 kind, .imm 2 (trow ts), .str c]] = some (.bool L, [])) :
  T (k + 7 + 1) 24 [.agg [.int .i64 2, .int .i64 kind, .imm 2 (trow ts), .str c, .str m]] = some (.bool (L && decide (m = [])), []) := by
 cases L
 ·refine enter rfl func24 rfl (by decide) (by kernel_rfl) rfl rfl ?_
  refine zs1 hl ?_
  rfl
 ·refine enter rfl func24 rfl (by decide) (by kernel_rfl) rfl rfl ?_
  refine zs1 hl ?_
  rfl
theorem con24_3 (kind : Int) (ts : List Trm) (c m : Bs) (L : Bool) (hl : T (k + 7) 22 [.agg [.int .i64 kind, .imm 2 (trow ts), .str c]] = some (.bool L, [])) :
  T (k + 7 + 1) 24 [.agg [.int .i64 3, .int .i64 kind, .imm 2 (trow ts), .str c, .str m]] = some (.bool (L && decide (m = [])), []) := by
 cases L
 ·refine enter rfl func24 rfl (by decide) (by kernel_rfl) rfl rfl ?_
  refine zs1 hl ?_
  rfl
 ·refine enter rfl func24 rfl (by decide) (by kernel_rfl) rfl rfl ?_
  refine zs1 hl ?_
  rfl
theorem con24_4 (kind : Int) (ts : List Trm) (c m : Bs) (L I : Bool) (S : Int) (hl : T (k + 7) 22 [.agg [.int .i64 kind, .imm 2 (trow ts), .str c]] = some (.bool L, []))
  (hi : T (k + 7) 34 [.str m] = some (.bool I, [])) (hs : T (k + 7) 75 [.str m] = some (.int .i64 S, [])) :
  T (k + 7 + 1) 24 [.agg [.int .i64 4, .int .i64 kind, .imm 2 (trow ts), .str c, .str m]] = some (.bool (L && (decide (kind = 2) && (I && decide (0 < S)))), []) := by
 cases L
 ·refine enter rfl func24 rfl (by decide) (by kernel_rfl) rfl rfl ?_
  refine zs1 hl ?_
  rfl
 ·refine enter rfl func24 rfl (by decide) (by kernel_rfl) rfl rfl ?_
  refine zs1 hl ?_
  refine WX.boolM rfl rfl (fun b1 => ?_) (fun b1 => ?_)
  ·have b1 : decide (kind = 2) = true := b1
   rw [b1]
   refine zs1 hi ?_
   cases I
   ·refine zs0 ?_
    rfl
   ·refine zs1 hs ?_
    rfl
  ·have b1 : decide (kind = 2) = false := b1
   rw [b1]
   refine zs0 ?_
   rfl
theorem con24_5 (kind : Int) (ts : List Trm) (c m : Bs) (L I : Bool) (S : Int) (hl : T (k + 7) 22 [.agg [.int .i64 kind, .imm 2 (trow ts), .str c]] = some (.bool L, []))
  (hi : T (k + 7) 34 [.str m] = some (.bool I, [])) (hs : T (k + 7) 75 [.str m] = some (.int .i64 S, [])) :
  T (k + 7 + 1) 24 [.agg [.int .i64 5, .int .i64 kind, .imm 2 (trow ts), .str c, .str m]] = some (.bool (L && (decide (kind = 2) && (I && decide (0 < S)))), []) := by
 cases L
 ·refine enter rfl func24 rfl (by decide) (by kernel_rfl) rfl rfl ?_
  refine zs1 hl ?_
  rfl
 ·refine enter rfl func24 rfl (by decide) (by kernel_rfl) rfl rfl ?_
  refine zs1 hl ?_
  refine WX.boolM rfl rfl (fun b1 => ?_) (fun b1 => ?_)
  ·have b1 : decide (kind = 2) = true := b1
   rw [b1]
   refine zs1 hi ?_
   cases I
   ·refine zs0 ?_
    rfl
   ·refine zs1 hs ?_
    rfl
  ·have b1 : decide (kind = 2) = false := b1
   rw [b1]
   refine zs0 ?_
   rfl
theorem con24_0 (rel kind : Int) (ts : List Trm) (c m : Bs) (L : Bool) (hl : T (k + 7) 22 [.agg [.int .i64 kind, .imm 2 (trow ts), .str c]] = some (.bool L, []))
  (h1 : rel ≠ 1) (h2 : rel ≠ 2) (h3 : rel ≠ 3) (h4 : rel ≠ 4) (h5 : rel ≠ 5) : T (k + 7 + 1) 24 [.agg [.int .i64 rel, .int .i64 kind, .imm 2 (trow ts), .str c, .str m]] = some (.bool false, []) := by
 refine enter rfl func24 rfl (by decide) (by kernel_rfl) rfl rfl ?_
 refine zs0 ?_
 refine W.cond rfl (fun c1 => ?_) (fun c1 => ?_)
 ·exact absurd (of_decide_eq_true c1) h1
 refine zs0 ?_
 refine W.cond rfl (fun c2 => ?_) (fun c2 => ?_)
 ·exact absurd (of_decide_eq_true c2) h2
 refine zs0 ?_
 refine W.cond rfl (fun c3 => ?_) (fun c3 => ?_)
 ·exact absurd (of_decide_eq_true c3) h3
 refine zs0 ?_
 refine W.cond rfl (fun c4 => ?_) (fun c4 => ?_)
 ·exact absurd (of_decide_eq_true c4) h4
 refine zs0 ?_
 refine W.cond rfl (fun c5 => ?_) (fun c5 => ?_)
 ·exact absurd (of_decide_eq_true c5) h5
 refine zs0 ?_
 rfl
theorem con25_1 (kind : Int) (ts : List Trm) (c m : Bs) (L : Bool) (hl : T (k + 8) 23 [.agg [.int .i64 kind, .imm 2 (trow ts), .str c]] = some (.bool L, [])) :
  T (k + 8 + 1) 25 [.agg [.int .i64 1, .int .i64 kind, .imm 2 (trow ts), .str c, .str m]] = some (.bool (L && decide (m = [])), []) := by
 cases L
 ·refine enter rfl func25 rfl (by decide) (by kernel_rfl) rfl rfl ?_
  refine zs1 hl ?_
  rfl
 ·refine enter rfl func25 rfl (by decide) (by kernel_rfl) rfl rfl ?_
  refine zs1 hl ?_
  rfl
theorem con25_2 (kind : Int) (ts : List Trm) (c m : Bs) (L : Bool) (hl : T (k + 8) 23 [.agg [.int .i64 kind, .imm 2 (trow ts), .str c]] = some (.bool L, [])) :
  T (k + 8 + 1) 25 [.agg [.int .i64 2, .int .i64 kind, .imm 2 (trow ts), .str c, .str m]] = some (.bool (L && decide (m = [])), []) := by
 cases L
 ·refine enter rfl func25 rfl (by decide) (by kernel_rfl) rfl rfl ?_
  refine zs1 hl ?_
  rfl
 ·refine enter rfl func25 rfl (by decide) (by kernel_rfl) rfl rfl ?_
  refine zs1 hl ?_
  rfl
theorem con25_3 (kind : Int) (ts : List Trm) (c m : Bs) (L : Bool) (hl : T (k + 8) 23 [.agg [.int .i64 kind, .imm 2 (trow ts), .str c]] = some (.bool L, [])) :
  T (k + 8 + 1) 25 [.agg [.int .i64 3, .int .i64 kind, .imm 2 (trow ts), .str c, .str m]] = some (.bool (L && decide (m = [])), []) := by
 cases L
 ·refine enter rfl func25 rfl (by decide) (by kernel_rfl) rfl rfl ?_
  refine zs1 hl ?_
  rfl
 ·refine enter rfl func25 rfl (by decide) (by kernel_rfl) rfl rfl ?_
  refine zs1 hl ?_
  rfl
theorem con25_4 (kind : Int) (ts : List Trm) (c m : Bs) (L I : Bool) (S : Int) (hl : T (k + 8) 23 [.agg [.int .i64 kind, .imm 2 (trow ts), .str c]] = some (.bool L, []))
  (hi : T (k + 8) 52 [.str m] = some (.bool I, [])) (hs : T (k + 8) 76 [.str m] = some (.int .i64 S, [])) :
  T (k + 8 + 1) 25 [.agg [.int .i64 4, .int .i64 kind, .imm 2 (trow ts), .str c, .str m]] = some (.bool (L && (decide (kind = 2) && (I && decide (0 < S)))), []) := by
 cases L
 ·refine enter rfl func25 rfl (by decide) (by kernel_rfl) rfl rfl ?_
  refine zs1 hl ?_
  rfl
 ·refine enter rfl func25 rfl (by decide) (by kernel_rfl) rfl rfl ?_
  refine zs1 hl ?_
  refine WX.boolM rfl rfl (fun b1 => ?_) (fun b1 => ?_)
  ·have b1 : decide (kind = 2) = true := b1
   rw [b1]
   refine zs1 hi ?_
   cases I
   ·refine zs0 ?_
    rfl
   ·refine zs1 hs ?_
    rfl
  ·have b1 : decide (kind = 2) = false := b1
   rw [b1]
   refine zs0 ?_
   rfl
theorem con25_5 (kind : Int) (ts : List Trm) (c m : Bs) (L I : Bool) (S : Int) (hl : T (k + 8) 23 [.agg [.int .i64 kind, .imm 2 (trow ts), .str c]] = some (.bool L, []))
  (hi : T (k + 8) 52 [.str m] = some (.bool I, [])) (hs : T (k + 8) 76 [.str m] = some (.int .i64 S, [])) :
  T (k + 8 + 1) 25 [.agg [.int .i64 5, .int .i64 kind, .imm 2 (trow ts), .str c, .str m]] = some (.bool (L && (decide (kind = 2) && (I && decide (0 < S)))), []) := by
 cases L
 ·refine enter rfl func25 rfl (by decide) (by kernel_rfl) rfl rfl ?_
  refine zs1 hl ?_
  rfl
 ·refine enter rfl func25 rfl (by decide) (by kernel_rfl) rfl rfl ?_
  refine zs1 hl ?_
  refine WX.boolM rfl rfl (fun b1 => ?_) (fun b1 => ?_)
  ·have b1 : decide (kind = 2) = true := b1
   rw [b1]
   refine zs1 hi ?_
   cases I
   ·refine zs0 ?_
    rfl
   ·refine zs1 hs ?_
    rfl
  ·have b1 : decide (kind = 2) = false := b1
   rw [b1]
   refine zs0 ?_
   rfl
theorem con25_0 (rel kind : Int) (ts : List Trm) (c m : Bs) (L : Bool) (hl : T (k + 8) 23 [.agg [.int .i64 kind, .imm 2 (trow ts), .str c]] = some (.bool L, []))
  (h1 : rel ≠ 1) (h2 : rel ≠ 2) (h3 : rel ≠ 3) (h4 : rel ≠ 4) (h5 : rel ≠ 5) : T (k + 8 + 1) 25 [.agg [.int .i64 rel, .int .i64 kind, .imm 2 (trow ts), .str c, .str m]] = some (.bool false, []) := by
 cases L
 ·refine enter rfl func25 rfl (by decide) (by kernel_rfl) rfl rfl ?_
  refine zs1 hl ?_
  rfl
 ·refine enter rfl func25 rfl (by decide) (by kernel_rfl) rfl rfl ?_
  refine zs1 hl ?_
  refine W.cond rfl (fun c1 => ?_) (fun c1 => ?_)
  ·exact absurd (of_decide_eq_true c1) h1
  refine zs0 ?_
  refine W.cond rfl (fun c2 => ?_) (fun c2 => ?_)
  ·exact absurd (of_decide_eq_true c2) h2
  refine zs0 ?_
  refine W.cond rfl (fun c3 => ?_) (fun c3 => ?_)
  ·exact absurd (of_decide_eq_true c3) h3
  refine zs0 ?_
  refine W.cond rfl (fun c4 => ?_) (fun c4 => ?_)
  ·exact absurd (of_decide_eq_true c4) h4
  refine zs0 ?_
  refine W.cond rfl (fun c5 => ?_) (fun c5 => ?_)
  ·exact absurd (of_decide_eq_true c5) h5
  refine zs0 ?_
  rfl
theorem con_T (rel kind : Int) (ts : List Trm) (c m : Bs) (hts : ∀ t ∈ ts, smallT t) (hn : ts.length < 1073741824) (hc : c.length < 150994900) (hm : m.length < 150994900) :
  T (k + 8) 24 [.agg [.int .i64 rel, .int .i64 kind, .imm 2 (trow ts), .str c, .str m]] = some (.bool (conB rel kind ts c m), []) := by
 have hl := linValid_T (k := k) kind ts c hts hn hc
 have hi := isInt_T (k := k + 3) m (by omega)
 rw [isI_q] at hi
 have hs : T (k + 7) 75 [.str m] = some (.int .i64 (sgq m), []) := sign_T (k := k) m hm
 unfold conB
 by_cases r1 : rel = 1 ∨ rel = 2 ∨ rel = 3
 ·rw [if_pos r1]
  rcases r1 with rfl | rfl | rfl
  ·exact con24_1 kind ts c m _ hl
  ·exact con24_2 kind ts c m _ hl
  ·exact con24_3 kind ts c m _ hl
 ·rw [if_neg r1]
  by_cases r2 : rel = 4 ∨ rel = 5
  ·rw [if_pos r2]
   rcases r2 with rfl | rfl
   ·exact con24_4 kind ts c m _ _ _ hl hi hs
   ·exact con24_5 kind ts c m _ _ _ hl hi hs
  ·rw [if_neg r2]
   rw [not_or, not_or] at r1
   rw [not_or] at r2
   exact con24_0 rel kind ts c m _ hl r1.1 r1.2.1 r1.2.2 r2.1 r2.2
theorem rcon_T (rel kind : Int) (ts : List Trm) (c m : Bs) (hts : ∀ t ∈ ts, smallT t) (hn : ts.length < 1073741824) (hc : c.length < 150994900) (hm : m.length < 150994900) :
  T (k + 9) 25 [.agg [.int .i64 rel, .int .i64 kind, .imm 2 (trow ts), .str c, .str m]] = some (.bool (conB rel kind ts c m), []) := by
 have hl := rlinValid_T (k := k) kind ts c hts hn hc
 have hi : T (k + 8) 52 [.str m] = some (.bool (isIq m), []) := risInt_T (k := k + 1) m (by omega)
 have hs : T (k + 8) 76 [.str m] = some (.int .i64 (sgq m), []) := rsign_T (k := k + 1) m (by omega)
 unfold conB
 by_cases r1 : rel = 1 ∨ rel = 2 ∨ rel = 3
 ·rw [if_pos r1]
  rcases r1 with rfl | rfl | rfl
  ·exact con25_1 kind ts c m _ hl
  ·exact con25_2 kind ts c m _ hl
  ·exact con25_3 kind ts c m _ hl
 ·rw [if_neg r1]
  by_cases r2 : rel = 4 ∨ rel = 5
  ·rw [if_pos r2]
   rcases r2 with rfl | rfl
   ·exact con25_4 kind ts c m _ _ _ hl hi hs
   ·exact con25_5 kind ts c m _ _ _ hl hi hs
  ·rw [if_neg r2]
   rw [not_or, not_or] at r1
   rw [not_or] at r2
   exact con25_0 rel kind ts c m _ hl r1.1 r1.2.1 r1.2.2 r2.1 r2.2
end Go.PE
namespace Go.PE
open Go.RowKit Go.Proofs.Tryz
set_option maxRecDepth 100000
variable {k : Nat}
theorem tdiv10 (n : Int) : (n.tdiv 10).natAbs = n.natAbs / 10 := Int.natAbs_tdiv n 10
theorem tmod10 (n : Int) : (n.tmod 10).natAbs = n.natAbs % 10 := Int.natAbs_tmod n 10
def decZ (n : Nat) (t : Bs) : Bs := if n = 0 ∧ t ≠ [] then t else dec n ++ t
theorem decZ_step {n : Nat} {t : Bs} (h : ¬ (n = 0 ∧ t ≠ [])) : decZ (n / 10) (UInt8.ofNat (48 + n % 10) :: t) = decZ n t := by
 unfold decZ
 rw [if_neg h]
 by_cases h1 : n < 10
 ·rw [if_pos ⟨Nat.div_eq_of_lt h1, by simp⟩, dec_small h1, Nat.mod_eq_of_lt h1]; rfl
 ·rw [if_neg (by rintro ⟨h2, _⟩; omega), dec_big h1, List.append_assoc]; rfl
def mz (x : Int) (t : Bs) : Nat := if x.natAbs = 0 ∧ t ≠ [] then 0 else (dec x.natAbs).length + 1
theorem fromInt_T (n : Int) (h0 : -9223372036854775808 ≤ n) (h1 : n ≤ 9223372036854775807) : T (k + 1) 30 [.int .i64 n] = some (.str (rs n), []) := by
 have hrs : rs (n : Rat) = (if n < 0 then [45] else []) ++ dec n.natAbs := by
  unfold rs qt
  have e1 : (n : Rat).num = n := rfl
  have e2 : (n : Rat).den = 1 := rfl
  rw [e1, e2, if_pos rfl, List.append_nil]
  by_cases h : n < 0
  ·have : n.natAbs ≠ 0 := by omega
   simp [h, this]
  ·simp [h]
 rw [hrs]
 have hl := dec_len_le (n := n.natAbs) (k := 19) (by omega) (by omega)
 have hstep : ∀ (x : Int) (t : Bs), ¬ (x.natAbs = 0 ∧ t ≠ []) → mz (x.tdiv 10) (UInt8.ofNat (48 + x.natAbs % 10) :: t) < mz x t := by
  intro x t h
  unfold mz
  rw [if_neg h, tdiv10]
  by_cases h1 : x.natAbs < 10
  ·rw [if_pos ⟨Nat.div_eq_of_lt h1, by simp⟩]; omega
  ·rw [if_neg (by rintro ⟨h2, _⟩; omega), dec_big h1, List.length_append, List.length_singleton]; omega
 have hfin : ∀ (x : Int) (t : Bs), -9223372036854775808 ≤ x → x ≤ 9223372036854775807 → decZ x.natAbs t = dec n.natAbs → ¬ (x.natAbs = 0 ∧ t ≠ []) → t.length ≤ 20 := by
  intro x t _ _ h _
  have : t.length ≤ (decZ x.natAbs t).length := by
   unfold decZ; split <;> simp
  rw [h] at this; omega
 refine enter rfl func30 rfl (by decide) (by kernel_rfl) rfl rfl ?_
 refine zs0 ?_
 refine W.loop (fun e m => ∃ (x : Int) (t : Bs), e = [(0, .int .i64 n), (3, .str t), (4, .int .i64 x)] ∧ -9223372036854775808 ≤ x ∧ x ≤ 9223372036854775807 ∧ decZ x.natAbs t = dec n.natAbs ∧ m = mz x t) (mz n []) ?_ ?_ ?_
 ·refine ⟨n, [], rfl, h0, h1, ?_, rfl⟩
  unfold decZ; rw [if_neg (by simp), List.append_nil]
 ·have : mz n [] ≤ 20 := by unfold mz; rw [if_neg (by simp)]; omega
  show _ < 4611686018427387904; omega
 ·rintro e m ⟨x, t, rfl, hx0, hx1, hd, rfl⟩
  have hs := hstep x t
  have hf := hfin x t hx0 hx1 hd
  have hz := @decZ_step x.natAbs t
  have hr := tmod10 x
  have hq := tdiv10 x
  have hrl : -10 < x.tmod 10 ∧ x.tmod 10 < 10 := by omega
  have hql : -9223372036854775808 ≤ x.tdiv 10 ∧ x.tdiv 10 ≤ 9223372036854775807 := by omega
  refine zs0 ?_
  refine WX.boolM rfl rfl (fun c1 => ?_) (fun c1 => ?_)
  ·have c1 : x ≠ 0 := of_decide_eq_true c1
   have hg : ¬ (x.natAbs = 0 ∧ t ≠ []) := fun h => by omega
   refine zs0 ?_
   have ht20 := hf hg
   refine W.cond rfl (fun c2 => ?_) (fun c2 => ?_)
   ·have c2 := of_decide_eq_true c2
    refine zs0 ?_
    rw [wrap_i64 (x := 0 - x.tmod 10) (by omega) (by omega), show (48 : Int) + (0 - x.tmod 10) = ((48 + x.natAbs % 10 : Nat) : Int) by omega]
    rw [wrap_i64 (x := ((48 + x.natAbs % 10 : Nat) : Int)) (by omega) (by omega), wrap_u8 (x := ((48 + x.natAbs % 10 : Nat) : Int)) (by omega) (by omega), ofNat48 (show x.natAbs % 10 < 10 by omega)]
    refine zs0 ?_
    refine WX.convS tab_eq rfl rfl rfl rfl rfl (bytesOf_PV [UInt8.ofNat (48 + x.natAbs % 10)]) ?_
    refine zs0 ?_
    refine wS te rfl rfl (by simp; omega) ?_
    refine zs0 ?_
    rw [wrap_i64 (x := x.tdiv 10) (by omega) (by omega)]
    show ∃ m', _
    exact ⟨mz (x.tdiv 10) (UInt8.ofNat (48 + x.natAbs % 10) :: t), hs hg, x.tdiv 10, UInt8.ofNat (48 + x.natAbs % 10) :: t, rfl, by omega, by omega, by rw [hq, hz hg]; exact hd, rfl⟩
   ·have c2 := of_decide_eq_false c2
    refine zs0 ?_
    rw [show (48 : Int) + x.tmod 10 = ((48 + x.natAbs % 10 : Nat) : Int) by omega]
    rw [wrap_i64 (x := ((48 + x.natAbs % 10 : Nat) : Int)) (by omega) (by omega), wrap_u8 (x := ((48 + x.natAbs % 10 : Nat) : Int)) (by omega) (by omega), ofNat48 (show x.natAbs % 10 < 10 by omega)]
    refine zs0 ?_
    refine WX.convS tab_eq rfl rfl rfl rfl rfl (bytesOf_PV [UInt8.ofNat (48 + x.natAbs % 10)]) ?_
    refine zs0 ?_
    refine wS te rfl rfl (by simp; omega) ?_
    refine zs0 ?_
    rw [wrap_i64 (x := x.tdiv 10) (by omega) (by omega)]
    show ∃ m', _
    exact ⟨mz (x.tdiv 10) (UInt8.ofNat (48 + x.natAbs % 10) :: t), hs hg, x.tdiv 10, UInt8.ofNat (48 + x.natAbs % 10) :: t, rfl, by omega, by omega, by rw [hq, hz hg]; exact hd, rfl⟩
  ·have c1 : x = 0 := Decidable.not_not.1 (of_decide_eq_false c1)
   subst c1
   refine zs0 ?_
   refine W.cond rfl (fun c3 => ?_) (fun c3 => ?_)
   ·have c3 : t = [] := of_decide_eq_true c3
    have hg : ¬ ((0 : Int).natAbs = 0 ∧ t ≠ []) := fun h => h.2 c3
    have ht20 := hf hg
    refine zs0 ?_
    rw [show (48 : Int) + (0 : Int).tmod 10 = ((48 + (0 : Int).natAbs % 10 : Nat) : Int) by omega]
    rw [wrap_i64 (x := ((48 + (0 : Int).natAbs % 10 : Nat) : Int)) (by omega) (by omega), wrap_u8 (x := ((48 + (0 : Int).natAbs % 10 : Nat) : Int)) (by omega) (by omega), ofNat48 (show (0 : Int).natAbs % 10 < 10 by omega)]
    refine zs0 ?_
    refine WX.convS tab_eq rfl rfl rfl rfl rfl (bytesOf_PV [UInt8.ofNat (48 + (0 : Int).natAbs % 10)]) ?_
    refine zs0 ?_
    refine wS te rfl rfl (by simp; omega) ?_
    refine zs0 ?_
    rw [wrap_i64 (x := (0 : Int).tdiv 10) (by omega) (by omega)]
    show ∃ m', _
    exact ⟨mz ((0 : Int).tdiv 10) (UInt8.ofNat (48 + (0 : Int).natAbs % 10) :: t), hs hg, (0 : Int).tdiv 10, UInt8.ofNat (48 + (0 : Int).natAbs % 10) :: t, rfl, by omega, by omega, by rw [hq, hz hg]; exact hd, rfl⟩
   ·have c3 : t ≠ [] := of_decide_eq_false c3
    have hd : t = dec n.natAbs := by rw [← hd]; unfold decZ; rw [if_pos ⟨rfl, c3⟩]
    subst hd
    refine zs0 ?_
    refine W.cond rfl (fun c4 => ?_) (fun c4 => ?_)
    ·have c4 := of_decide_eq_true c4
     rw [if_pos c4]
     refine zs0 ?_
     refine wS te rfl rfl (by simp; omega) ?_
     refine zs0 ?_
     rfl
    ·have c4 := of_decide_eq_false c4
     rw [if_neg c4]
     refine zs0 ?_
     rfl
end Go.PE
