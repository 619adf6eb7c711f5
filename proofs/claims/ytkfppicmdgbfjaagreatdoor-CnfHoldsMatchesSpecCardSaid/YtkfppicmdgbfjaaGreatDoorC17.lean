/-
  A part of the proof that the law's function returns true and leaves its arguments as they were, for every input (no condition): own lemmas of the proof, in the order of their use.
-/
import Derived.Test.YtkfppicmdgbfjaaGreatDoorC16
import Derived.Deep.RegionHeld3
import Derived.OneCell
import Derived.Laws.EntriesVeiled
import Derived.Laws.MakeOwn
import Derived.KernelRfl
set_option linter.all false
namespace Go.PE
open Go.RowKit Go.Shelf Go.Proofs Go.Proofs.Tryz
/-! ### extend -/
theorem olds {w W : World} (hb : Below w.heap.size w W) {ad : Addr} {v : Value} (h : w.cell? ad = some v) : W.cell? ad = some v := (hb.cell (cell_lt h)).trans h
theorem mk3 (W : World) : (Instr.makeSlice 23 (.int .i64 3) (.int .i64 3)).run prog W = .ok (.slice (some ⟨W.heap.size, 0, none⟩) 3 3) (W.alloc (.cells #[.bool false, .bool false, .bool false] 4)) := by
  have h : (prog.info? 4).map (fun i => (i.zero, i.size, i.bytes)) = some (some (.bool false), 1, 1) := by kernel_rfl
  obtain ⟨i, hi, h2⟩ := Option.map_eq_some_iff.1 h
  simp only [Prod.mk.injEq] at h2
  obtain ⟨hz, hs, hb⟩ := h2
  have hr := run_makeSlice (P := prog) W 23 4 i (.bool false) underlying23 hi hz .i64 .i64 3 3 (by omega) (by omega) (by rw [hs]; decide) (by rw [hb]; decide) (by decide)
  rw [hs] at hr
  have hm : madeCells (Value.bool false).cells (Int.toNat 3 * 1) = #[.bool false, .bool false, .bool false] := by kernel_rfl
  rw [hm] at hr
  exact hr
theorem set_block {W : World} {r : Nat} {cs : Array Value} {e : TypeId} (h : W.heap[r]? = some (.cells cs e (0, 0))) (j : Nat) (v : Value) : (W.setCell ⟨r, j, none⟩ v).heap[r]? = some (.cells (cs.setIfInBounds j v) e (0, 0)) := by
  have hlt := lt_of_block h
  have h' : W.heap[r] = .cells cs e (0, 0) := by simpa [Array.getElem?_eq_getElem hlt] using h
  show (W.heap.modify r _)[r]? = _
  rw [Array.getElem?_eq_getElem (by simpa using hlt), Array.getElem_modify_self, h']
  rfl
theorem new_at {W : World} {o : Obj} {n : Nat} (h : n = W.heap.size) : (W.alloc o).heap[n]? = some o := by rw [h]; exact World.alloc_heap_new W o
theorem isSome_set {W : World} (a b : Addr) (v : Value) (h : (W.cell? b).isSome = true) : ((W.setCell a v).cell? b).isSome = true := by
  by_cases hab : a = b
  · subst hab
    rw [World.cell?_setCell_same' _ _ _ h]; rfl
  · rw [World.cell?_setCell_other _ _ _ _ hab]; exact h
/-- What extend's own variables hold. -/
structure Xs (w W : World) (pb po : Nat) (o d : Array Value) : Prop where
  bel : Below w.heap.size w W
  h2 : W.heap[w.heap.size]? = some (.cells #[.pointer (some ⟨pb, po, none⟩)] 81 (0, 0))
  ho : W.heap[w.heap.size + 1]? = some (.cells o 4 (0, 0))
  h5 : W.heap[w.heap.size + 1 + 1]? = some (.cells #[.slice (some ⟨w.heap.size + 1, 0, none⟩) 3 3] 23 (0, 0))
  hd : W.heap[w.heap.size + 1 + 1 + 1]? = some (.cells d 4 (0, 0))
  h6 : W.heap[w.heap.size + 1 + 1 + 1 + 1]? = some (.cells #[.slice (some ⟨w.heap.size + 1 + 1 + 1, 0, none⟩) 3 3] 23 (0, 0))
section
variable {w W : World} {pb po : Nat} {o d : Array Value}
theorem Xs.drewN (h : Xs w W pb po o d) (n : Nat) : Xs w (W.drewN n) pb po o d := ⟨⟨h.bel.os, h.bel.tape, h.bel.output, h.bel.size, h.bel.block⟩, h.h2, h.ho, h.h5, h.hd, h.h6⟩
theorem Xs.setO (h : Xs w W pb po o d) (j : Nat) (v : Value) : Xs w (W.setCell ⟨w.heap.size + 1, j, none⟩ v) pb po (o.setIfInBounds j v) d :=
  ⟨h.bel.setCell (by simp) v, (Below.heap_setCell _ _ _ _ (by simp)).trans h.h2, set_block h.ho j v, (Below.heap_setCell _ _ _ _ (by simp)).trans h.h5, (Below.heap_setCell _ _ _ _ (by simp; omega)).trans h.hd, (Below.heap_setCell _ _ _ _ (by simp; omega)).trans h.h6⟩
theorem Xs.setD (h : Xs w W pb po o d) (j : Nat) (v : Value) : Xs w (W.setCell ⟨w.heap.size + 1 + 1 + 1, j, none⟩ v) pb po o (d.setIfInBounds j v) :=
  ⟨h.bel.setCell (by simp; omega) v, (Below.heap_setCell _ _ _ _ (by simp; omega)).trans h.h2, (Below.heap_setCell _ _ _ _ (by simp)).trans h.ho, (Below.heap_setCell _ _ _ _ (by simp)).trans h.h5, set_block h.hd j v, (Below.heap_setCell _ _ _ _ (by simp)).trans h.h6⟩
theorem Xs.size (h : Xs w W pb po o d) : w.heap.size + 5 ≤ W.heap.size := by have := lt_of_block h.h6; omega
theorem Xs.alloc (h : Xs w W pb po o d) (x : Obj) : Xs w (W.alloc x) pb po o d := by
  have hs := h.size
  exact ⟨h.bel.alloc (by omega) x, (Below.heap_alloc _ _ _ (by omega)).trans h.h2, (Below.heap_alloc _ _ _ (by omega)).trans h.ho, (Below.heap_alloc _ _ _ (by omega)).trans h.h5, (Below.heap_alloc _ _ _ (by omega)).trans h.hd, (Below.heap_alloc _ _ _ (by omega)).trans h.h6⟩
theorem Xs.first (w : World) (pb po : Nat) : Xs w (((((w.alloc (.cells #[.pointer (some ⟨pb, po, none⟩)] 81)).alloc (.cells #[.bool false, .bool false, .bool false] 4)).alloc (.cells #[.slice (some ⟨w.heap.size + 1, 0, none⟩) 3 3] 23)).alloc (.cells #[.bool false, .bool false, .bool false] 4)).alloc (.cells #[.slice (some ⟨w.heap.size + 1 + 1 + 1, 0, none⟩) 3 3] 23)) pb po #[.bool false, .bool false, .bool false] #[.bool false, .bool false, .bool false] := by
  refine ⟨((((Below.refl _ w).alloc (by simp) _ |>.alloc (by simp) _).alloc (by simp; omega) _).alloc (by simp; omega) _).alloc (by simp; omega) _, ?_, ?_, ?_, ?_, ?_⟩
  · exact (Below.heap_alloc _ _ _ (by simp <;> omega)).trans <| (Below.heap_alloc _ _ _ (by simp <;> omega)).trans <| (Below.heap_alloc _ _ _ (by simp <;> omega)).trans <| (Below.heap_alloc _ _ _ (by simp <;> omega)).trans <| new_at (by simp)
  · exact (Below.heap_alloc _ _ _ (by simp <;> omega)).trans <| (Below.heap_alloc _ _ _ (by simp <;> omega)).trans <| (Below.heap_alloc _ _ _ (by simp <;> omega)).trans <| new_at (by simp)
  · exact (Below.heap_alloc _ _ _ (by simp <;> omega)).trans <| (Below.heap_alloc _ _ _ (by simp <;> omega)).trans <| new_at (by simp)
  · exact (Below.heap_alloc _ _ _ (by simp <;> omega)).trans <| new_at (by simp)
  · exact new_at (by simp)
theorem Xs.c2 (h : Xs w W pb po o d) : W.cell? ⟨w.heap.size, 0, none⟩ = some (.pointer (some ⟨pb, po, none⟩)) := cell_of_one h.h2
theorem Xs.c5 (h : Xs w W pb po o d) : W.cell? ⟨w.heap.size + 1 + 1, 0, none⟩ = some (.slice (some ⟨w.heap.size + 1, 0, none⟩) 3 3) := cell_of_one h.h5
theorem Xs.c6 (h : Xs w W pb po o d) : W.cell? ⟨w.heap.size + 1 + 1 + 1 + 1, 0, none⟩ = some (.slice (some ⟨w.heap.size + 1 + 1 + 1, 0, none⟩) 3 3) := cell_of_one h.h6
theorem Xs.co (h : Xs w W pb po o d) (j : Nat) : W.cell? ⟨w.heap.size + 1, j, none⟩ = o[j]? := by simp [World.cell?, h.ho]
theorem Xs.cd (h : Xs w W pb po o d) (j : Nat) : W.cell? ⟨w.heap.size + 1 + 1 + 1, j, none⟩ = d[j]? := by simp [World.cell?, h.hd]
theorem Xs.fo (h : Xs w W pb po o d) (j : Nat) : W.frozen? ⟨w.heap.size + 1, j, none⟩ = false := by simp [World.frozen?, h.ho]
theorem Xs.fd (h : Xs w W pb po o d) (j : Nat) : W.frozen? ⟨w.heap.size + 1 + 1 + 1, j, none⟩ = false := by simp [World.frozen?, h.hd]
end
set_option maxRecDepth 100000 in
set_option maxHeartbeats 4000000 in
theorem extend_calls (w : World) (a b : Bool) (pb po tb to nb no nc fb fo fc kb ko kc lb lo lc ab ao ac : Nat)
    (e0 : w.cell? ⟨pb, po, none⟩ = some (.pointer (some ⟨tb, to, none⟩))) (e2 : w.cell? ⟨pb, po + 2, none⟩ = some (.slice (some ⟨fb, fo, none⟩) 3 fc)) (e3 : w.cell? ⟨pb, po + 3, none⟩ = some (.slice (some ⟨kb, ko, none⟩) 3 kc))
    (t0 : w.cell? ⟨tb, to, none⟩ = some (.slice (some ⟨nb, no, none⟩) 4 nc)) (f0 : w.cell? ⟨fb, fo, none⟩ = some (.int .i64 0)) (f1 : w.cell? ⟨fb, fo + 1, none⟩ = some (.int .i64 1)) (f2 : w.cell? ⟨fb, fo + 2, none⟩ = some (.int .i64 3))
    (k0 : w.cell? ⟨kb, ko, none⟩ = some (.slice (some ⟨lb, lo, none⟩) 2 lc))
    (l0 : w.cell? ⟨lb, lo, none⟩ = some (.int .i64 2)) (l1 : w.cell? ⟨lb, lo + 1, none⟩ = some (.int .i64 (-3)))
    (n0 : w.cell? ⟨nb, no, none⟩ = some (.int .i64 8)) (n1 : w.cell? ⟨nb, no + 5, none⟩ = some (.int .i64 4)) (n3 : w.cell? ⟨nb, no + 15, none⟩ = some (.int .i64 4))
    (a0 : w.cell? ⟨ab, ao, none⟩ = some (.bool a)) (a1 : w.cell? ⟨ab, ao + 1, none⟩ = some (.bool b)) :
    Calls prog 37 #[.pointer (some ⟨pb, po, none⟩), .slice (some ⟨ab, ao, none⟩) 2 ac] w
      fun e w' => ∃ g, e = .returned (.slice (some ⟨g, 0, none⟩) 3 3) ∧ w.heap.size ≤ g ∧ w'.heap[g]? = some (.cells #[.bool (a || !b), .bool a, .bool b] 4 (0, 0)) ∧ Below w.heap.size w w' := by
  have hpb := cell_lt e0
  have htb := cell_lt t0
  have hfb := cell_lt f0
  have hkb := cell_lt k0
  have hlb := cell_lt l0
  have hnb := cell_lt n0
  have hab := cell_lt a0
  simp only at hpb htb hfb hkb hlb hnb hab
  have hpb1 : pb < w.heap.size + 1 := by omega
  have hpb2 : pb < w.heap.size + 1 + 1 := by omega
  have hpb3 : pb < w.heap.size + 1 + 1 + 1 := by omega
  have hpb4 : pb < w.heap.size + 1 + 1 + 1 + 1 := by omega
  have hpb5 : pb < w.heap.size + 1 + 1 + 1 + 1 + 1 := by omega
  have htb1 : tb < w.heap.size + 1 := by omega
  have htb2 : tb < w.heap.size + 1 + 1 := by omega
  have htb3 : tb < w.heap.size + 1 + 1 + 1 := by omega
  have htb4 : tb < w.heap.size + 1 + 1 + 1 + 1 := by omega
  have htb5 : tb < w.heap.size + 1 + 1 + 1 + 1 + 1 := by omega
  have hfb1 : fb < w.heap.size + 1 := by omega
  have hfb2 : fb < w.heap.size + 1 + 1 := by omega
  have hfb3 : fb < w.heap.size + 1 + 1 + 1 := by omega
  have hfb4 : fb < w.heap.size + 1 + 1 + 1 + 1 := by omega
  have hfb5 : fb < w.heap.size + 1 + 1 + 1 + 1 + 1 := by omega
  have hkb1 : kb < w.heap.size + 1 := by omega
  have hkb2 : kb < w.heap.size + 1 + 1 := by omega
  have hkb3 : kb < w.heap.size + 1 + 1 + 1 := by omega
  have hkb4 : kb < w.heap.size + 1 + 1 + 1 + 1 := by omega
  have hkb5 : kb < w.heap.size + 1 + 1 + 1 + 1 + 1 := by omega
  have hlb1 : lb < w.heap.size + 1 := by omega
  have hlb2 : lb < w.heap.size + 1 + 1 := by omega
  have hlb3 : lb < w.heap.size + 1 + 1 + 1 := by omega
  have hlb4 : lb < w.heap.size + 1 + 1 + 1 + 1 := by omega
  have hlb5 : lb < w.heap.size + 1 + 1 + 1 + 1 + 1 := by omega
  have hnb1 : nb < w.heap.size + 1 := by omega
  have hnb2 : nb < w.heap.size + 1 + 1 := by omega
  have hnb3 : nb < w.heap.size + 1 + 1 + 1 := by omega
  have hnb4 : nb < w.heap.size + 1 + 1 + 1 + 1 := by omega
  have hnb5 : nb < w.heap.size + 1 + 1 + 1 + 1 + 1 := by omega
  have hab1 : ab < w.heap.size + 1 := by omega
  have hab2 : ab < w.heap.size + 1 + 1 := by omega
  have hab3 : ab < w.heap.size + 1 + 1 + 1 := by omega
  have hab4 : ab < w.heap.size + 1 + 1 + 1 + 1 := by omega
  have hab5 : ab < w.heap.size + 1 + 1 + 1 + 1 + 1 := by omega
  have hms := mk3
  go_enter func37, ntmps37
  go_wp2_with fail
  obtain ⟨W, hW, st⟩ : ∃ W, W = ((((w.alloc (.cells #[.pointer (some ⟨pb, po, none⟩)] 81)).alloc (.cells #[.bool false, .bool false, .bool false] 4)).alloc (.cells #[.slice (some ⟨w.heap.size + 1, 0, none⟩) 3 3] 23)).alloc (.cells #[.bool false, .bool false, .bool false] 4)).alloc (.cells #[.slice (some ⟨w.heap.size + 1 + 1 + 1, 0, none⟩) 3 3] 23) ∧ Xs w W pb po #[.bool false, .bool false, .bool false] #[.bool false, .bool false, .bool false] := ⟨_, rfl, Xs.first w pb po⟩
  rw [← hW]
  clear hW
  have E0 := olds st.bel e0
  have E2 := olds st.bel e2
  have E3 := olds st.bel e3
  have T0 := olds st.bel t0
  have F0 := olds st.bel f0
  have F1 := olds st.bel f1
  have F2 := olds st.bel f2
  have K0 := olds st.bel k0
  have L0 := olds st.bel l0
  have L1 := olds st.bel l1
  have N0 := olds st.bel n0
  have N1 := olds st.bel n1
  have N3 := olds st.bel n3
  have A0 := olds st.bel a0
  have A1 := olds st.bel a1
  have C2 := st.c2
  have C5 := st.c5
  have C6 := st.c6
  have O0 := st.co 0
  have D0 := st.cd 0
  have FO0 := st.fo 0
  have FD0 := st.fd 0
  have O1 := st.co 1
  have D1 := st.cd 1
  have FO1 := st.fo 1
  have FD1 := st.fd 1
  have O2 := st.co 2
  have D2 := st.cd 2
  have FO2 := st.fo 2
  have FD2 := st.fd 2
  simp only [List.getElem?_toArray, List.getElem?_cons_zero, List.getElem?_cons_succ] at O0 O1 O2 D0 D1 D2
  refine wp_loop_rounds 4 ?_
  rw [rounds_succ]
  go_wp2_with (go_at_call 34; refine (conn_calls W tb to nb no nc 0 0 8 rfl T0 N0 (by omega) (.inl rfl)).mono ?_; rintro e w' ⟨rfl, hw⟩; have hw := hw.symm; subst hw)
  rw [rounds_succ]
  go_wp2_with (go_at_call 34; refine (conn_calls W tb to nb no nc 1 1 4 rfl T0 N1 (by omega) (.inr rfl)).mono ?_; rintro e w' ⟨rfl, hw⟩; have hw := hw.symm; subst hw)
  have i1 : (W.cell? ⟨w.heap.size + 1, 1, none⟩).isSome = true := by rw [O1]; rfl
  have i2 : (W.cell? ⟨w.heap.size + 1 + 1 + 1, 1, none⟩).isSome = true := by rw [D1]; rfl
  go_region_held3 (fun w' => w'.cell? ⟨w.heap.size + 1 + 1, 0, none⟩ = some (.slice (some ⟨w.heap.size + 1, 0, none⟩) 3 3) ∧ w'.cell? ⟨w.heap.size + 1 + 1 + 1 + 1, 0, none⟩ = some (.slice (some ⟨w.heap.size + 1 + 1 + 1, 0, none⟩) 3 3) ∧ w'.cell? ⟨ab, ao, none⟩ = some (.bool a) ∧ w'.frozen? ⟨w.heap.size + 1, 1, none⟩ = false ∧ (w'.cell? ⟨w.heap.size + 1, 1, none⟩).isSome = true ∧ w'.frozen? ⟨w.heap.size + 1 + 1 + 1, 1, none⟩ = false ∧ (w'.cell? ⟨w.heap.size + 1 + 1 + 1, 1, none⟩).isSome = true)
    (first | exact ⟨C5, C6, A0, FO1, i1, FD1, i2⟩ | exact ⟨((World.cell?_setCell_other _ _ _ _ (by simp)).trans C5), ((World.cell?_setCell_other _ _ _ _ (by simp)).trans C6), ((World.cell?_setCell_other _ _ _ _ (by simp <;> omega)).trans A0), ((World.frozen?_setCell _ _ _ _).trans FO1), (isSome_set _ _ _ i1), ((World.frozen?_setCell _ _ _ _).trans FD1), (isSome_set _ _ _ i2)⟩ | exact ⟨((World.cell?_setCell_other _ _ _ _ (by simp)).trans ((World.cell?_setCell_other _ _ _ _ (by simp)).trans C5)), ((World.cell?_setCell_other _ _ _ _ (by simp)).trans ((World.cell?_setCell_other _ _ _ _ (by simp)).trans C6)), ((World.cell?_setCell_other _ _ _ _ (by simp <;> omega)).trans ((World.cell?_setCell_other _ _ _ _ (by simp <;> omega)).trans A0)), ((World.frozen?_setCell _ _ _ _).trans ((World.frozen?_setCell _ _ _ _).trans FO1)), (isSome_set _ _ _ (isSome_set _ _ _ i1)), ((World.frozen?_setCell _ _ _ _).trans ((World.frozen?_setCell _ _ _ _).trans FD1)), (isSome_set _ _ _ (isSome_set _ _ _ i2))⟩)
    (fail)
  obtain ⟨W1, hW1, st1⟩ : ∃ V, V = ((W.setCell ⟨w.heap.size + 1, 1, none⟩ (.bool a)).setCell ⟨w.heap.size + 1 + 1 + 1, 1, none⟩ (.bool true)).drew ∧ Xs w V pb po #[.bool false, .bool a, .bool false] #[.bool false, .bool true, .bool false] := ⟨_, rfl, ((st.setO 1 _).setD 1 _).drewN 1⟩
  rw [← hW1]
  clear hW1 i1 i2
  clear E0 E2 E3 T0 F0 F1 F2 K0 L0 L1 N0 N1 N3 A0 A1 C2 C5 C6 O0 D0 FO0 FD0 O1 D1 FO1 FD1 O2 D2 FO2 FD2
  have E0 := olds st1.bel e0
  have E2 := olds st1.bel e2
  have E3 := olds st1.bel e3
  have T0 := olds st1.bel t0
  have F0 := olds st1.bel f0
  have F1 := olds st1.bel f1
  have F2 := olds st1.bel f2
  have K0 := olds st1.bel k0
  have L0 := olds st1.bel l0
  have L1 := olds st1.bel l1
  have N0 := olds st1.bel n0
  have N1 := olds st1.bel n1
  have N3 := olds st1.bel n3
  have A0 := olds st1.bel a0
  have A1 := olds st1.bel a1
  have C2 := st1.c2
  have C5 := st1.c5
  have C6 := st1.c6
  have O0 := st1.co 0
  have D0 := st1.cd 0
  have FO0 := st1.fo 0
  have FD0 := st1.fd 0
  have O1 := st1.co 1
  have D1 := st1.cd 1
  have FO1 := st1.fo 1
  have FD1 := st1.fd 1
  have O2 := st1.co 2
  have D2 := st1.cd 2
  have FO2 := st1.fo 2
  have FD2 := st1.fd 2
  simp only [List.getElem?_toArray, List.getElem?_cons_zero, List.getElem?_cons_succ] at O0 O1 O2 D0 D1 D2
  go_wp2_with fail
  rw [rounds_succ]
  go_wp2_with (go_at_call 34; refine (conn_calls W1 tb to nb no nc 3 3 4 rfl T0 N3 (by omega) (.inr rfl)).mono ?_; rintro e w' ⟨rfl, hw⟩; have hw := hw.symm; subst hw)
  have i1 : (W1.cell? ⟨w.heap.size + 1, 2, none⟩).isSome = true := by rw [O2]; rfl
  have i2 : (W1.cell? ⟨w.heap.size + 1 + 1 + 1, 2, none⟩).isSome = true := by rw [D2]; rfl
  go_region_held3 (fun w' => w'.cell? ⟨w.heap.size + 1 + 1, 0, none⟩ = some (.slice (some ⟨w.heap.size + 1, 0, none⟩) 3 3) ∧ w'.cell? ⟨w.heap.size + 1 + 1 + 1 + 1, 0, none⟩ = some (.slice (some ⟨w.heap.size + 1 + 1 + 1, 0, none⟩) 3 3) ∧ w'.cell? ⟨ab, ao + 1, none⟩ = some (.bool b) ∧ w'.frozen? ⟨w.heap.size + 1, 2, none⟩ = false ∧ (w'.cell? ⟨w.heap.size + 1, 2, none⟩).isSome = true ∧ w'.frozen? ⟨w.heap.size + 1 + 1 + 1, 2, none⟩ = false ∧ (w'.cell? ⟨w.heap.size + 1 + 1 + 1, 2, none⟩).isSome = true)
    (first | exact ⟨C5, C6, A1, FO2, i1, FD2, i2⟩ | exact ⟨((World.cell?_setCell_other _ _ _ _ (by simp)).trans C5), ((World.cell?_setCell_other _ _ _ _ (by simp)).trans C6), ((World.cell?_setCell_other _ _ _ _ (by simp <;> omega)).trans A1), ((World.frozen?_setCell _ _ _ _).trans FO2), (isSome_set _ _ _ i1), ((World.frozen?_setCell _ _ _ _).trans FD2), (isSome_set _ _ _ i2)⟩ | exact ⟨((World.cell?_setCell_other _ _ _ _ (by simp)).trans ((World.cell?_setCell_other _ _ _ _ (by simp)).trans C5)), ((World.cell?_setCell_other _ _ _ _ (by simp)).trans ((World.cell?_setCell_other _ _ _ _ (by simp)).trans C6)), ((World.cell?_setCell_other _ _ _ _ (by simp <;> omega)).trans ((World.cell?_setCell_other _ _ _ _ (by simp <;> omega)).trans A1)), ((World.frozen?_setCell _ _ _ _).trans ((World.frozen?_setCell _ _ _ _).trans FO2)), (isSome_set _ _ _ (isSome_set _ _ _ i1)), ((World.frozen?_setCell _ _ _ _).trans ((World.frozen?_setCell _ _ _ _).trans FD2)), (isSome_set _ _ _ (isSome_set _ _ _ i2))⟩)
    (fail)
  obtain ⟨W2, hW2, st2⟩ : ∃ V, V = ((W1.setCell ⟨w.heap.size + 1, 2, none⟩ (.bool b)).setCell ⟨w.heap.size + 1 + 1 + 1, 2, none⟩ (.bool true)).drew ∧ Xs w V pb po #[.bool false, .bool a, .bool b] #[.bool false, .bool true, .bool true] := ⟨_, rfl, ((st1.setO 2 _).setD 2 _).drewN 1⟩
  rw [← hW2]
  clear hW2 i1 i2
  clear E0 E2 E3 T0 F0 F1 F2 K0 L0 L1 N0 N1 N3 A0 A1 C2 C5 C6 O0 D0 FO0 FD0 O1 D1 FO1 FD1 O2 D2 FO2 FD2
  have E0 := olds st2.bel e0
  have E2 := olds st2.bel e2
  have E3 := olds st2.bel e3
  have T0 := olds st2.bel t0
  have F0 := olds st2.bel f0
  have F1 := olds st2.bel f1
  have F2 := olds st2.bel f2
  have K0 := olds st2.bel k0
  have L0 := olds st2.bel l0
  have L1 := olds st2.bel l1
  have N0 := olds st2.bel n0
  have N1 := olds st2.bel n1
  have N3 := olds st2.bel n3
  have A0 := olds st2.bel a0
  have A1 := olds st2.bel a1
  have C2 := st2.c2
  have C5 := st2.c5
  have C6 := st2.c6
  have O0 := st2.co 0
  have D0 := st2.cd 0
  have FO0 := st2.fo 0
  have FD0 := st2.fd 0
  have O1 := st2.co 1
  have D1 := st2.cd 1
  have FO1 := st2.fo 1
  have FD1 := st2.fd 1
  have O2 := st2.co 2
  have D2 := st2.cd 2
  have FO2 := st2.fo 2
  have FD2 := st2.fd 2
  simp only [List.getElem?_toArray, List.getElem?_cons_zero, List.getElem?_cons_succ] at O0 O1 O2 D0 D1 D2
  go_wp2_with fail
  rw [rounds_succ]
  have hsz := st2.size
  have z5 : w.heap.size + 1 + 1 < W2.heap.size := by omega
  have hmf : ∀ (fn : Fn) (first cap : Array Value) (w : World), (Instr.makeFunc fn first cap).run prog w = .ok (.func fn first cap) w := fun _ _ _ _ => rfl
  go_wp2_with fail
  obtain ⟨W3, hW3, C10, st3⟩ : ∃ V, V = W2.alloc (.cells #[.func (.func 60) #[] #[.pointer (some ⟨W2.heap.size, 0, none⟩), .pointer (some ⟨w.heap.size + 1 + 1 + 1 + 1, 0, none⟩), .pointer (some ⟨w.heap.size, 0, none⟩), .pointer (some ⟨w.heap.size + 1 + 1, 0, none⟩)]] 89) ∧ V.cell? ⟨W2.heap.size, 0, none⟩ = some (.func (.func 60) #[] #[.pointer (some ⟨W2.heap.size, 0, none⟩), .pointer (some ⟨w.heap.size + 1 + 1 + 1 + 1, 0, none⟩), .pointer (some ⟨w.heap.size, 0, none⟩), .pointer (some ⟨w.heap.size + 1 + 1, 0, none⟩)]) ∧ Xs w V pb po #[.bool false, .bool a, .bool b] #[.bool false, .bool true, .bool true] := ⟨_, rfl, cell_of_one (new_at rfl), st2.alloc _⟩
  rw [← hW3]
  clear hW3
  clear E0 E2 E3 T0 F0 F1 F2 K0 L0 L1 N0 N1 N3 A0 A1 C2 C5 C6 O0 D0 FO0 FD0 O1 D1 FO1 FD1 O2 D2 FO2 FD2
  have E0 := olds st3.bel e0
  have E2 := olds st3.bel e2
  have E3 := olds st3.bel e3
  have T0 := olds st3.bel t0
  have F0 := olds st3.bel f0
  have F1 := olds st3.bel f1
  have F2 := olds st3.bel f2
  have K0 := olds st3.bel k0
  have L0 := olds st3.bel l0
  have L1 := olds st3.bel l1
  have N0 := olds st3.bel n0
  have N1 := olds st3.bel n1
  have N3 := olds st3.bel n3
  have A0 := olds st3.bel a0
  have A1 := olds st3.bel a1
  have C2 := st3.c2
  have C5 := st3.c5
  have C6 := st3.c6
  have O0 := st3.co 0
  have D0 := st3.cd 0
  have FO0 := st3.fo 0
  have FD0 := st3.fd 0
  have O1 := st3.co 1
  have D1 := st3.cd 1
  have FO1 := st3.fo 1
  have FD1 := st3.fd 1
  have O2 := st3.co 2
  have D2 := st3.cd 2
  have FO2 := st3.fo 2
  have FD2 := st3.fd 2
  simp only [List.getElem?_toArray, List.getElem?_cons_zero, List.getElem?_cons_succ] at O0 O1 O2 D0 D1 D2
  let p : Pl := ⟨W2.heap.size, w.heap.size + 1 + 1 + 1 + 1, w.heap.size, w.heap.size + 1 + 1, w.heap.size + 1 + 1 + 1, w.heap.size + 1, pb, po, tb, to, nb, no, nc, fb, fo, fc, kb, ko, kc, lb, lo, lc⟩
  have q := truth_first p W3 a b false C10 C6 C5 C2 D0 O0 FD0 FO0 (by simp [p]) (by simp [p]) (by simp [p]) (by simp [p]) (by simp [p]) (by simp only [p]; omega) D1 O1 D2 O2 E0 E2 E3 T0 F0 K0 L0 L1 N0
  simp only [p] at q
  refine wp_loop_rounds 4 ?_
  rw [rounds_succ]
  go_wp2_with (go_at_call 60; refine q.mono ?_; rintro e w' ⟨rfl, n, rfl⟩)
  have z1 : w.heap.size + 1 ≠ W2.heap.size := by omega
  have z3 : w.heap.size + 1 + 1 + 1 ≠ W2.heap.size := by omega
  obtain ⟨W4, hW4, C11, st4⟩ : ∃ V, V = ((W3.setCell ⟨w.heap.size + 1, 0, none⟩ (.bool (a || !b))).setCell ⟨w.heap.size + 1 + 1 + 1, 0, none⟩ (.bool true)).drewN n ∧ V.cell? ⟨W2.heap.size, 0, none⟩ = some (.func (.func 60) #[] #[.pointer (some ⟨W2.heap.size, 0, none⟩), .pointer (some ⟨w.heap.size + 1 + 1 + 1 + 1, 0, none⟩), .pointer (some ⟨w.heap.size, 0, none⟩), .pointer (some ⟨w.heap.size + 1 + 1, 0, none⟩)]) ∧ Xs w V pb po #[.bool (a || !b), .bool a, .bool b] #[.bool true, .bool true, .bool true] :=
    ⟨_, rfl, (World.cell?_setCell_other _ _ _ _ (by simp [z3])).trans ((World.cell?_setCell_other _ _ _ _ (by simp [z1])).trans C10), ((st3.setO 0 _).setD 0 _).drewN n⟩
  rw [← hW4]
  clear hW4 q C10
  clear E0 E2 E3 T0 F0 F1 F2 K0 L0 L1 N0 N1 N3 A0 A1 C2 C5 C6 O0 D0 FO0 FD0 O1 D1 FO1 FD1 O2 D2 FO2 FD2
  have E0 := olds st4.bel e0
  have E2 := olds st4.bel e2
  have E3 := olds st4.bel e3
  have T0 := olds st4.bel t0
  have F0 := olds st4.bel f0
  have F1 := olds st4.bel f1
  have F2 := olds st4.bel f2
  have K0 := olds st4.bel k0
  have L0 := olds st4.bel l0
  have L1 := olds st4.bel l1
  have N0 := olds st4.bel n0
  have N1 := olds st4.bel n1
  have N3 := olds st4.bel n3
  have A0 := olds st4.bel a0
  have A1 := olds st4.bel a1
  have C2 := st4.c2
  have C5 := st4.c5
  have C6 := st4.c6
  have O0 := st4.co 0
  have D0 := st4.cd 0
  have FO0 := st4.fo 0
  have FD0 := st4.fd 0
  have O1 := st4.co 1
  have D1 := st4.cd 1
  have FO1 := st4.fo 1
  have FD1 := st4.fd 1
  have O2 := st4.co 2
  have D2 := st4.cd 2
  have FO2 := st4.fo 2
  have FD2 := st4.fd 2
  simp only [List.getElem?_toArray, List.getElem?_cons_zero, List.getElem?_cons_succ] at O0 O1 O2 D0 D1 D2
  have q1 := truth_done p W4 1 2 a (.inl rfl) rfl C6 C5 D1 O1
  have q2 := truth_done p W4 2 3 b (.inr rfl) rfl C6 C5 D2 O2
  simp only [p] at q1 q2
  rw [rounds_succ]
  go_wp2_with (go_at_call 60; refine q1.mono ?_; rintro e w' ⟨rfl, hw⟩; have hw := hw.symm; subst hw)
  rw [rounds_succ]
  go_wp2_with (go_at_call 60; refine q2.mono ?_; rintro e w' ⟨rfl, hw⟩; have hw := hw.symm; subst hw)
  rw [rounds_succ]
  go_wp2_with fail
  go_ret
  exact ⟨_, rfl, by omega, st4.ho, st4.bel⟩
end Go.PE
