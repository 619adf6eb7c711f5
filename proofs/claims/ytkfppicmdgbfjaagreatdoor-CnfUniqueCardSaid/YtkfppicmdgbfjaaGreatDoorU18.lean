/-
  A part of the proof that the law's function returns true and leaves its arguments as they were, for every input (no condition): own lemmas of the proof, in the order of their use.
-/
import Derived.Test.YtkfppicmdgbfjaaGreatDoorU17
import Derived.OneCell
import Derived.Laws.EntriesVeiled
import Derived.Laws.MakeOwn
import Derived.Laws.OwnMore
import Derived.KernelRfl
import Derived.Test.YtkfppicmdgbfjaaGreatDoorU15
import Derived.Shelf.Strings.BuilderK
import Derived.Shelf.Strconv.Itoa3
import Derived.BigFrameIn
import Derived.CallsIn
import Derived.ControlIn
import Derived.LoopTactic
set_option linter.all false
namespace Go.PE
open Go.RowKit Go.Shelf Go.Proofs Go.Proofs.Tryz
set_option maxRecDepth 100000
/-! ### extend -/
theorem mkN (n : Nat) (hn : n ≤ 1000000) (W : World) : (Instr.makeSlice 23 (.int .i64 (n : Int)) (.int .i64 (n : Int))).run prog W = .ok (.slice (some ⟨W.heap.size, 0, none⟩) n n) (W.alloc (.cells (brw (List.replicate n false)) 4)) := by
  have h : (prog.info? 4).map (fun i => (i.zero, i.size, i.bytes)) = some (some (.bool false), 1, 1) := by kernel_rfl
  obtain ⟨i, hi, h2⟩ := Option.map_eq_some_iff.1 h
  simp only [Prod.mk.injEq] at h2
  obtain ⟨hz, hs, hb⟩ := h2
  have hr := run_makeSlice (P := prog) W 23 4 i (.bool false) underlying23 hi hz .i64 .i64 n n (by omega) (by omega) (by rw [hs]; omega) (by rw [hb]; omega) (by omega)
  rw [hs, Int.toNat_natCast, Nat.mul_one] at hr
  have hm : madeCells (Value.bool false).cells n = brw (List.replicate n false) := by
    apply Array.toList_inj.1
    rw [show (Value.bool false).cells = #[.bool false] from rfl, toList_madeCells_one]
    simp [brw]
  rw [hm] at hr
  exact hr
theorem new_at {W : World} {o : Obj} {n : Nat} (h : n = W.heap.size) : (W.alloc o).heap[n]? = some o := by rw [h]; exact World.alloc_heap_new W o
theorem isSome_set {W : World} (a b : Addr) (v : Value) (h : (W.cell? b).isSome = true) : ((W.setCell a v).cell? b).isSome = true := by
  by_cases hab : a = b
  · subst hab
    rw [World.cell?_setCell_same' _ _ _ h]; rfl
  · rw [World.cell?_setCell_other _ _ _ _ hab]; exact h
/-- What extend's own variables hold. -/
structure Xs (w W : World) (pb po n : Nat) (o d : List Bool) : Prop where
  bel : RowKit.Below w.heap.size w W
  h2 : W.heap[w.heap.size]? = some (.cells #[.pointer (some ⟨pb, po, none⟩)] 81 (0, 0))
  ho : W.heap[w.heap.size + 1]? = some (.cells (brw o) 4 (0, 0))
  h5 : W.heap[w.heap.size + 1 + 1]? = some (.cells #[.slice (some ⟨w.heap.size + 1, 0, none⟩) n n] 23 (0, 0))
  hd : W.heap[w.heap.size + 1 + 1 + 1]? = some (.cells (brw d) 4 (0, 0))
  h6 : W.heap[w.heap.size + 1 + 1 + 1 + 1]? = some (.cells #[.slice (some ⟨w.heap.size + 1 + 1 + 1, 0, none⟩) n n] 23 (0, 0))
  lo : o.length = n
  ld : d.length = n
section
variable {w W : World} {pb po n : Nat} {o d : List Bool}
theorem Xs.drewN (h : Xs w W pb po n o d) (k : Nat) : Xs w (W.drewN k) pb po n o d := ⟨⟨h.bel.os, h.bel.tape, h.bel.output, h.bel.size, h.bel.block⟩, h.h2, h.ho, h.h5, h.hd, h.h6, h.lo, h.ld⟩
theorem Xs.setO (h : Xs w W pb po n o d) (j : Nat) (b : Bool) : Xs w (W.setCell ⟨w.heap.size + 1, j, none⟩ (.bool b)) pb po n (o.set j b) d :=
  ⟨h.bel.setCell (by simp) _, (Below.heap_setCell _ _ _ _ (by simp)).trans h.h2, by rw [← brw_set]; exact set_block h.ho j _, (Below.heap_setCell _ _ _ _ (by simp)).trans h.h5, (Below.heap_setCell _ _ _ _ (by simp; omega)).trans h.hd, (Below.heap_setCell _ _ _ _ (by simp; omega)).trans h.h6, by rw [List.length_set]; exact h.lo, h.ld⟩
theorem Xs.setD (h : Xs w W pb po n o d) (j : Nat) (b : Bool) : Xs w (W.setCell ⟨w.heap.size + 1 + 1 + 1, j, none⟩ (.bool b)) pb po n o (d.set j b) :=
  ⟨h.bel.setCell (by simp; omega) _, (Below.heap_setCell _ _ _ _ (by simp; omega)).trans h.h2, (Below.heap_setCell _ _ _ _ (by simp)).trans h.ho, (Below.heap_setCell _ _ _ _ (by simp)).trans h.h5, by rw [← brw_set]; exact set_block h.hd j _, (Below.heap_setCell _ _ _ _ (by simp)).trans h.h6, h.lo, by rw [List.length_set]; exact h.ld⟩
theorem Xs.size (h : Xs w W pb po n o d) : w.heap.size + 5 ≤ W.heap.size := by have := lt_of_block h.h6; omega
theorem Xs.alloc (h : Xs w W pb po n o d) (x : Obj) : Xs w (W.alloc x) pb po n o d := by
  have hs := h.size
  exact ⟨h.bel.alloc (by omega) x, (Below.heap_alloc _ _ _ (by omega)).trans h.h2, (Below.heap_alloc _ _ _ (by omega)).trans h.ho, (Below.heap_alloc _ _ _ (by omega)).trans h.h5, (Below.heap_alloc _ _ _ (by omega)).trans h.hd, (Below.heap_alloc _ _ _ (by omega)).trans h.h6, h.lo, h.ld⟩
theorem Xs.first (w : World) (pb po n : Nat) : Xs w (((((w.alloc (.cells #[.pointer (some ⟨pb, po, none⟩)] 81)).alloc (.cells (brw (List.replicate n false)) 4)).alloc (.cells #[.slice (some ⟨w.heap.size + 1, 0, none⟩) n n] 23)).alloc (.cells (brw (List.replicate n false)) 4)).alloc (.cells #[.slice (some ⟨w.heap.size + 1 + 1 + 1, 0, none⟩) n n] 23)) pb po n (List.replicate n false) (List.replicate n false) := by
  refine ⟨((((Below.refl _ w).alloc (by simp) _ |>.alloc (by simp) _).alloc (by simp; omega) _).alloc (by simp; omega) _).alloc (by simp; omega) _, ?_, ?_, ?_, ?_, ?_, by simp, by simp⟩
  · exact (Below.heap_alloc _ _ _ (by simp <;> omega)).trans <| (Below.heap_alloc _ _ _ (by simp <;> omega)).trans <| (Below.heap_alloc _ _ _ (by simp <;> omega)).trans <| (Below.heap_alloc _ _ _ (by simp <;> omega)).trans <| new_at (by simp)
  · exact (Below.heap_alloc _ _ _ (by simp <;> omega)).trans <| (Below.heap_alloc _ _ _ (by simp <;> omega)).trans <| (Below.heap_alloc _ _ _ (by simp <;> omega)).trans <| new_at (by simp)
  · exact (Below.heap_alloc _ _ _ (by simp <;> omega)).trans <| (Below.heap_alloc _ _ _ (by simp <;> omega)).trans <| new_at (by simp)
  · exact (Below.heap_alloc _ _ _ (by simp <;> omega)).trans <| new_at (by simp)
  · exact new_at (by simp)
theorem Xs.c2 (h : Xs w W pb po n o d) : W.cell? ⟨w.heap.size, 0, none⟩ = some (.pointer (some ⟨pb, po, none⟩)) := cell_of_one h.h2
theorem Xs.c5 (h : Xs w W pb po n o d) : W.cell? ⟨w.heap.size + 1 + 1, 0, none⟩ = some (.slice (some ⟨w.heap.size + 1, 0, none⟩) n n) := cell_of_one h.h5
theorem Xs.c6 (h : Xs w W pb po n o d) : W.cell? ⟨w.heap.size + 1 + 1 + 1 + 1, 0, none⟩ = some (.slice (some ⟨w.heap.size + 1 + 1 + 1, 0, none⟩) n n) := cell_of_one h.h6
end
/-- The variables behind the first loop. -/
structure Ph (nd so fr kr ar : List (List PV)) (v : Nat) (o d : List Bool) : Prop where
  val : ∀ x, x < fr.length → d.getD x false = true → vv nd so fr kr ar 1000000 x = some (o.getD x false)
  atm : ∀ x, x < v → connOf nd so fr x = some false → d.getD x false = true
theorem Ph.next {nd so fr kr ar : List (List PV)} {v : Nat} {o d : List Bool} (h : Ph nd so fr kr ar v o d) (hc : connOf nd so fr v = some true) : Ph nd so fr kr ar (v + 1) o d :=
  ⟨h.val, fun x hx hcx => by
    by_cases e : x = v
    · subst e; rw [hc] at hcx; cases hcx
    · exact h.atm x (by omega) hcx⟩
theorem Ph.put {nd so fr kr ar : List (List PV)} {v : Nat} {o d : List Bool} {b : Bool} (h : Ph nd so fr kr ar v o d) (lo : o.length = fr.length) (ld : d.length = fr.length) (hv : v < fr.length) (hb : vv nd so fr kr ar 1000000 v = some b) : Ph nd so fr kr ar (v + 1) (o.set v b) (d.set v true) := by
  refine ⟨fun x hx hd => ?_, fun x hx hc => ?_⟩
  · by_cases e : x = v
    · subst e
      rw [show (o.set x b).getD x false = b by simp [List.getD, List.getElem?_set, lo, hx]]
      exact hb
    · have h1 : (d.set v true).getD x false = d.getD x false := by simp [List.getD, List.getElem?_set, Ne.symm e]
      have h2 : (o.set v b).getD x false = o.getD x false := by simp [List.getD, List.getElem?_set, Ne.symm e]
      rw [h2]
      exact h.val x hx (h1 ▸ hd)
  · by_cases e : x = v
    · subst e
      simp [List.getD, List.getElem?_set, ld, hv]
    · have h1 : (d.set v true).getD x false = d.getD x false := by simp [List.getD, List.getElem?_set, Ne.symm e]
      rw [h1]
      exact h.atm x (by omega) hc
theorem opAt_lt {nd : List (List PV)} {n : Nat} {o : Int} (h : opAt nd n = some o) : n < nd.length := by
  unfold opAt at h
  rw [if_pos (by omega), Int.toNat_natCast] at h
  split at h
  · rename_i e
    exact (List.getElem?_eq_some_iff.1 e).1
  · cases h
theorem rep_get (n x : Nat) : (List.replicate n false).getD x false = false := by
  simp only [List.getD, List.getElem?_replicate]
  split <;> rfl
theorem cnt_le (nd so fr : List (List PV)) : ∀ v, cntA nd so fr v ≤ v
  | 0 => Nat.le_refl _
  | v + 1 => by
    have := cnt_le nd so fr v
    rw [cntA]
    split <;> omega
theorem truth_all {p : Pl} {w : World} {tb to : Nat} (S : p.Sep w.heap.size) (M : EncM w p.pb p.po tb to p.nd p.so p.fr p.kr) : ∀ f, f ≤ 1000000 → TruthAt p w f
  | 0, _ => fun v b _ h => by cases h
  | f + 1, h => truth_of S (by omega) (conn_of' S M (lit_of S (truth_all S M f (by omega))))
theorem allN_get {f : Nat → Option Bool} : ∀ {n : Nat} {bs : List Bool}, allN f n = some bs → bs.length = n ∧ ∀ v, v < n → f v = some (bs.getD v false)
  | 0, bs, h => by cases h; exact ⟨rfl, fun v hv => by omega⟩
  | n + 1, bs, h => by
    unfold allN at h
    split at h
    · rename_i l b h1 h2
      cases h
      obtain ⟨h3, h4⟩ := allN_get h1
      refine ⟨by rw [List.length_append, h3]; rfl, fun v hv => ?_⟩
      by_cases e : v = n
      · subst e
        rw [h2]
        simp [List.getD, List.getElem?_append_right, h3]
      · rw [h4 v (by omega)]
        simp [List.getD, List.getElem?_append_left (show v < l.length by omega)]
    · cases h
set_option maxHeartbeats 8000000 in
theorem extend_calls (w : World) {pb po tb to : Nat} {nd so fr kr ar : List (List PV)} (M : EncM w pb po tb to nd so fr kr) {A : Option Addr} {m ac : Nat} (hA : ∀ j b, boolAt ar j = some b → ∃ ab ao, A = some ⟨ab, ao, none⟩ ∧ w.cell? ⟨ab, ao + j, none⟩ = some (.bool b) ∧ j < m)
    {bs : List Bool} (hn0 : 0 < fr.length) (hn : fr.length ≤ 1000000) (hnl : nd.length ≤ 1000000) (hb : allN (vv nd so fr kr ar 1000000) fr.length = some bs) :
    Calls prog 37 #[.pointer (some ⟨pb, po, none⟩), .slice A m ac] w
      fun e w' => ∃ g, e = .returned (.slice (some ⟨g, 0, none⟩) fr.length fr.length) ∧ w.heap.size ≤ g ∧ w'.heap[g]? = some (.cells (brw bs) 4 (0, 0)) ∧ RowKit.Below w.heap.size w w' := by
  obtain ⟨hbl, hbv⟩ := allN_get hb
  obtain ⟨fb, fo, fc, e2, hf⟩ := M.e2
  have e0 := M.e0
  have hpb := cell_lt e0
  have hpb2 := cell_lt e2
  simp only at hpb hpb2
  have hpb1 : pb < w.heap.size + 1 := by omega
  have hpb2 : pb < w.heap.size + 1 + 1 := by omega
  have hpb3 : pb < w.heap.size + 1 + 1 + 1 := by omega
  have hpb4 : pb < w.heap.size + 1 + 1 + 1 + 1 := by omega
  have hms := mkN fr.length hn
  go_enter func37, ntmps37
  go_wp2_with fail
  obtain ⟨W, hW, st⟩ : ∃ W, W = ((((w.alloc (.cells #[.pointer (some ⟨pb, po, none⟩)] 81)).alloc (.cells (brw (List.replicate fr.length false)) 4)).alloc (.cells #[.slice (some ⟨w.heap.size + 1, 0, none⟩) fr.length fr.length] 23)).alloc (.cells (brw (List.replicate fr.length false)) 4)).alloc (.cells #[.slice (some ⟨w.heap.size + 1 + 1 + 1, 0, none⟩) fr.length fr.length] 23) ∧ Xs w W pb po fr.length (List.replicate fr.length false) (List.replicate fr.length false) := ⟨_, rfl, Xs.first w pb po fr.length⟩
  rw [← hW]
  clear hW hms hpb1 hpb2 hpb3 hpb4 hpb
  go_loopw [7, 29] (fun a i wr => ∃ v : Nat, v ≤ fr.length ∧ i = .int .i64 v ∧ a = .int .i64 (cntA nd so fr v) ∧ ∃ o d, Xs w wr pb po fr.length o d ∧ Ph nd so fr kr ar v o d) (fun _ i _ => fr.length - (intOf i).toNat)
  case atStart => exact ⟨0, Nat.zero_le _, rfl, rfl, _, _, st, ⟨fun x _ h => (by rw [rep_get] at h; cases h), fun x hx => by omega⟩⟩
  case round =>
    clear st
    obtain ⟨v, hv, rfl, rfl, o, d, st, hP⟩ := hrel
    by_cases hvn : v < fr.length
    · obtain ⟨i, hi, hcs⟩ := vv_some nd so fr kr ar (f := 999999) (hbv v hvn)
      have hci : ∃ c, connAt nd so i = some c := by
        rcases hcs with ⟨h, _⟩ | ⟨h, _⟩
        · exact ⟨_, h⟩
        · exact ⟨_, h⟩
      obtain ⟨c, hc⟩ := hci
      have hco : connOf nd so fr v = some c := by unfold connOf; rw [hi]; exact hc
      obtain ⟨ni, rfl, op, hop, _⟩ := conn_nat hc
      have hil := opAt_lt hop
      have E0 := olds st.bel e0
      have E2 := olds st.bel e2
      have F := olds st.bel (hf v _ hi).1
      have C2 := st.c2
      have q := conn_calls (M.grown st.bel) hc (by omega)
      cases c with
      | true =>
        go_wp2_with (go_at_call 34; refine q.mono ?_; rintro e w' ⟨rfl, hw⟩; have hw := hw.symm; subst hw)
        have hcnt : cntA nd so fr (v + 1) = cntA nd so fr v := by rw [cntA, hco]; simp
        exact ⟨⟨v + 1, by omega, by simp, by rw [hcnt], o, d, st, hP.next hco⟩, by simp [intOf]; omega⟩
      | false =>
        have hba : boolAt ar (cntA nd so fr v) = some (bs.getD v false) := by
          rcases hcs with ⟨_, h⟩ | ⟨h, _⟩
          · exact h
          · rw [hc] at h; cases h
        obtain ⟨ab, ao, rfl, A0w, hjm⟩ := hA _ _ hba
        have hcnt : cntA nd so fr (v + 1) = cntA nd so fr v + 1 := by rw [cntA, hco]; simp
        have hcl := cnt_le nd so fr v
        have hvv := hbv v hvn
        have habl := cell_lt A0w
        simp only at habl
        have A0 := olds st.bel A0w
        have hc0 := brw_cell st.ho (v := v) (by rw [st.lo]; exact hvn)
        have hd0 := brw_cell st.hd (v := v) (by rw [st.ld]; exact hvn)
        have FO1 := brw_frz st.ho v
        have FD1 := brw_frz st.hd v
        have i1 : (wr.cell? ⟨w.heap.size + 1, v, none⟩).isSome = true := by rw [hc0]; rfl
        have i2 : (wr.cell? ⟨w.heap.size + 1 + 1 + 1, v, none⟩).isSome = true := by rw [hd0]; rfl
        have C5 := st.c5
        have C6 := st.c6
        generalize cntA nd so fr v = na at *
        generalize bs.getD v false = bv at *
        go_wp2_with (go_at_call 34; refine q.mono ?_; rintro e w' ⟨rfl, hw⟩; have hw := hw.symm; subst hw)
        go_region_held3 (fun w' => w'.cell? ⟨w.heap.size + 1 + 1, 0, none⟩ = some (.slice (some ⟨w.heap.size + 1, 0, none⟩) fr.length fr.length) ∧ w'.cell? ⟨w.heap.size + 1 + 1 + 1 + 1, 0, none⟩ = some (.slice (some ⟨w.heap.size + 1 + 1 + 1, 0, none⟩) fr.length fr.length) ∧ w'.cell? ⟨ab, ao + na, none⟩ = some (.bool bv) ∧ w'.frozen? ⟨w.heap.size + 1, v, none⟩ = false ∧ (w'.cell? ⟨w.heap.size + 1, v, none⟩).isSome = true ∧ w'.frozen? ⟨w.heap.size + 1 + 1 + 1, v, none⟩ = false ∧ (w'.cell? ⟨w.heap.size + 1 + 1 + 1, v, none⟩).isSome = true)
          (first | exact ⟨C5, C6, A0, FO1, i1, FD1, i2⟩ | exact ⟨(World.cell?_setCell_other _ _ _ _ (by simp)).trans C5, (World.cell?_setCell_other _ _ _ _ (by simp)).trans C6, (World.cell?_setCell_other _ _ _ _ (by simp <;> omega)).trans A0, (World.frozen?_setCell _ _ _ _).trans FO1, isSome_set _ _ _ i1, (World.frozen?_setCell _ _ _ _).trans FD1, isSome_set _ _ _ i2⟩ | exact ⟨(World.cell?_setCell_other _ _ _ _ (by simp)).trans ((World.cell?_setCell_other _ _ _ _ (by simp)).trans C5), (World.cell?_setCell_other _ _ _ _ (by simp)).trans ((World.cell?_setCell_other _ _ _ _ (by simp)).trans C6), (World.cell?_setCell_other _ _ _ _ (by simp <;> omega)).trans ((World.cell?_setCell_other _ _ _ _ (by simp <;> omega)).trans A0), (World.frozen?_setCell _ _ _ _).trans ((World.frozen?_setCell _ _ _ _).trans FO1), isSome_set _ _ _ (isSome_set _ _ _ i1), (World.frozen?_setCell _ _ _ _).trans ((World.frozen?_setCell _ _ _ _).trans FD1), isSome_set _ _ _ (isSome_set _ _ _ i2)⟩)
          (fail)
        go_wp2_with fail
        exact ⟨⟨v + 1, by omega, by simp, by rw [hcnt]; simp, _, _, ((st.setO v bv).setD v true).drewN 1, hP.put st.lo st.ld hvn hvv⟩, by simp [intOf]; omega⟩
    · have hvn : v = fr.length := by omega
      subst hvn
      have C2 := st.c2
      have C5 := st.c5
      have C6 := st.c6
      have hsz := st.size
      have hb5 : w.heap.size + 1 + 1 < wr.heap.size := by omega
      go_wp2_with fail
      obtain ⟨W3, hW3, C10, st3⟩ : ∃ V, V = wr.alloc (.cells #[.func (.func 60) #[] #[.pointer (some ⟨wr.heap.size, 0, none⟩), .pointer (some ⟨w.heap.size + 1 + 1 + 1 + 1, 0, none⟩), .pointer (some ⟨w.heap.size, 0, none⟩), .pointer (some ⟨w.heap.size + 1 + 1, 0, none⟩)]] 89) ∧ V.cell? ⟨wr.heap.size, 0, none⟩ = some (.func (.func 60) #[] #[.pointer (some ⟨wr.heap.size, 0, none⟩), .pointer (some ⟨w.heap.size + 1 + 1 + 1 + 1, 0, none⟩), .pointer (some ⟨w.heap.size, 0, none⟩), .pointer (some ⟨w.heap.size + 1 + 1, 0, none⟩)]) ∧ Xs w V pb po fr.length o d := ⟨_, rfl, cell_of_one (new_at rfl), st.alloc _⟩
      rw [← hW3]
      clear hW3 C2 C5 C6 hb5
      obtain ⟨p, hp⟩ : ∃ p : Pl, p = ⟨wr.heap.size, w.heap.size + 1 + 1 + 1 + 1, w.heap.size, w.heap.size + 1 + 1, w.heap.size + 1 + 1 + 1, w.heap.size + 1, pb, po, tb, to, fr.length, nd, so, fr, kr, ar⟩ := ⟨_, rfl⟩
      have hS : p.Sep w.heap.size := by
        subst hp
        exact ⟨⟨by simp only; omega, by simp only; omega⟩, ⟨by simp only; omega, by simp only; omega, by simp only; omega, by simp only; omega, by simp only; omega, by simp only; omega, by simp only; omega, by simp only; omega, by simp only; omega⟩, rfl, hn⟩
      have hT0 : TS p w W3 o d := by
        subst hp
        exact ⟨st3.bel, st3.c2, st3.c5, st3.c6, C10, st3.ho, st3.hd, st3.lo, st3.ld, hP.val, hP.atm⟩
      have hTr := truth_all hS (by subst hp; exact M) 1000000 (Nat.le_refl _)
      unfold TruthAt Pl.V at hTr
      go_loopw [57] (fun i wx => ∃ v : Nat, v ≤ fr.length ∧ i = .int .i64 v ∧ ∃ o d, TS p w wx o d ∧ ∀ x, x < v → d.getD x false = true) (fun i _ => fr.length - (intOf i).toNat)
      case atStart => exact ⟨0, Nat.zero_le _, rfl, o, d, hT0, fun x hx => by omega⟩
      case round =>
        clear hT0 C10 st3 st hP
        subst hp
        obtain ⟨v, hv, rfl, o2, d2, t2, hd2⟩ := hrel
        have C10 := t2.c10
        have C5 := t2.c5
        simp only at C10 C5
        by_cases hvn : v < fr.length
        · have q := hTr v (bs.getD v false) hvn (hbv v hvn) wr o2 d2 t2
          simp only at q
          have hw : IntKind.i64.wrap ((v : Int) + 1) = (v : Int) + 1 := wrap_i64 (by omega) (by omega)
          clear hTr
          go_wp2_with (go_at_call 60; refine q.mono ?_; rintro e w4 ⟨rfl, o3, d3, t3, m3, hd3⟩)
          refine ⟨⟨v + 1, by omega, by simp, o3, d3, t3, fun x hx => ?_⟩, by simp [intOf]; omega⟩
          by_cases e : x = v
          · rw [e]; exact hd3
          · exact m3 x (by show x < fr.length; omega) (hd2 x (by omega))
        · have hvn : v = fr.length := by omega
          subst hvn
          clear hTr
          go_wp2_with fail
          go_ret
          have ho : o2 = bs := by
            apply List.ext_getElem?
            intro x
            by_cases hx : x < fr.length
            · have h1 := t2.val x hx (hd2 x hx)
              have h2 := hbv x hx
              have h3 : vv nd so fr kr ar 1000000 x = some (o2.getD x false) := h1
              rw [h2] at h3
              have h4 : bs.getD x false = o2.getD x false := by simpa using h3
              have l1 : x < o2.length := by rw [t2.lo]; exact hx
              have l2 : x < bs.length := by rw [hbl]; exact hx
              rw [List.getElem?_eq_getElem l1, List.getElem?_eq_getElem l2]
              simp only [List.getD, List.getElem?_eq_getElem l1, List.getElem?_eq_getElem l2, Option.getD_some] at h4
              rw [h4]
            · rw [List.getElem?_eq_none (by have h5 : o2.length = fr.length := t2.lo; omega), List.getElem?_eq_none (by omega)]
          subst ho
          exact ⟨_, rfl, by omega, t2.ho, t2.bel⟩
end Go.PE
namespace Go.PE
open Go.Shelf Go.Proofs Go.Proofs.Tryz
set_option maxRecDepth 100000
/-! ### strings.Builder: the library's numbers at this program -/
def renB : Shelf.Ren := ⟨fun | 166 => 159 | 167 => 161 | 240 => 193 | 276 => 216 | 169 => 162 | n => n, fun | 70 => 202 | 72 => 204 | 37 => 175 | 75 => 206 | 164 => 244 | 127 => 229 | 80 => 156 | n => n, fun n => n⟩
theorem lays166 : Proofs.Lays.n166 prog renB where
  mixed := by kernel_rfl
  f166 := func159.trans (congrArg some (by kernel_rfl))
  f240 := func193.trans (congrArg some (by kernel_rfl))
  f276 := func216.trans (congrArg some (by kernel_rfl))
  t0 := underlying0
  a0 := isAgg0
  z0 := sizeOf0
  v0 := zeroValue0
  t3 := underlying3
  a3 := isAgg3
  z3 := sizeOf3
  v3 := zeroValue3
  t4 := underlying4
  a4 := isAgg4
  z4 := sizeOf4
  v4 := zeroValue4
  t9 := underlying9
  a9 := isAgg9
  z9 := sizeOf9
  v9 := zeroValue9
  t20 := underlying20
  a20 := isAgg20
  z20 := sizeOf20
  v20 := zeroValue20
  t37 := underlying175
  a37 := isAgg175
  z37 := sizeOf175
  v37 := zeroValue175
  t70 := underlying202
  a70 := isAgg202
  z70 := sizeOf202
  v70 := zeroValue202
  t72 := underlying204
  a72 := isAgg204
  z72 := sizeOf204
  v72 := zeroValue204
  t75 := underlying206
  a75 := isAgg206
  z75 := sizeOf206
  v75 := zeroValue206
  t164 := underlying244
  a164 := isAgg244
  z164 := sizeOf244
  v164 := zeroValue244
theorem lays167 : Proofs.Lays.n167 prog renB where
  mixed := by kernel_rfl
  f167 := func161.trans (congrArg some (by kernel_rfl))
  f240 := func193.trans (congrArg some (by kernel_rfl))
  f276 := func216.trans (congrArg some (by kernel_rfl))
  t0 := underlying0
  a0 := isAgg0
  z0 := sizeOf0
  v0 := zeroValue0
  t4 := underlying4
  a4 := isAgg4
  z4 := sizeOf4
  v4 := zeroValue4
  t5 := underlying5
  a5 := isAgg5
  z5 := sizeOf5
  v5 := zeroValue5
  t9 := underlying9
  a9 := isAgg9
  z9 := sizeOf9
  v9 := zeroValue9
  t20 := underlying20
  a20 := isAgg20
  z20 := sizeOf20
  v20 := zeroValue20
  t37 := underlying175
  a37 := isAgg175
  z37 := sizeOf175
  v37 := zeroValue175
  t70 := underlying202
  a70 := isAgg202
  z70 := sizeOf202
  v70 := zeroValue202
  t72 := underlying204
  a72 := isAgg204
  z72 := sizeOf204
  v72 := zeroValue204
  t75 := underlying206
  a75 := isAgg206
  z75 := sizeOf206
  v75 := zeroValue206
  t164 := underlying244
  a164 := isAgg244
  z164 := sizeOf244
  v164 := zeroValue244
theorem lays169 : Proofs.Lays.n169 prog renB where
  mixed := by kernel_rfl
  f169 := func162.trans (congrArg some (by kernel_rfl))
  t0 := underlying0
  a0 := isAgg0
  z0 := sizeOf0
  v0 := zeroValue0
  t3 := underlying3
  a3 := isAgg3
  z3 := sizeOf3
  v3 := zeroValue3
  t9 := underlying9
  a9 := isAgg9
  z9 := sizeOf9
  v9 := zeroValue9
  t37 := underlying175
  a37 := isAgg175
  z37 := sizeOf175
  v37 := zeroValue175
  t70 := underlying202
  a70 := isAgg202
  z70 := sizeOf202
  v70 := zeroValue202
  t72 := underlying204
  a72 := isAgg204
  z72 := sizeOf204
  v72 := zeroValue204
  t127 := underlying229
  a127 := isAgg229
  z127 := sizeOf229
  v127 := zeroValue229
theorem extraB : Proofs.Builder.Extra prog renB where
  sizeBuilder := by kernel_rfl
  liesBuilder := by kernel_rfl
  t5 := underlying5
  a5 := isAgg5
  z5 := sizeOf5
  v5 := zeroValue5
  infoByte := by kernel_rfl
  cellsByte := by kernel_rfl
  sizeByte := by kernel_rfl
  neB5 := by decide
end Go.PE
namespace Go.PE
open Go.RowKit Go.Proofs Go.Proofs.Tryz
set_option maxRecDepth 100000
theorem mixed_ok : prog.follows .mixedOrders = true := by kernel_rfl
theorem bk_meets (f : FuncId) (g' : FuncId) (h : bkG f = some g') : MeetsB prog f g' ∧ IterB prog g' := by
  unfold bkG at h
  split at h
  · rename_i hf
    cases h
    subst hf
    exact ⟨back145, iter173⟩
  · cases h
end Go.PE
namespace Go.PE
open Go.Shelf Go.Proofs Go.Proofs.Tryz
set_option maxRecDepth 100000
/-! ### strconv.Itoa: the library's numbers at this program -/
def renI : Shelf.Ren := ⟨fun | 171 => 160 | 243 => 194 | 246 => 217 | 283 => 231 | 284 => 232 | 285 => 233 | 286 => 234 | 129 => 249 | 317 => 248 | 318 => 250 | 319 => 251 | 320 => 252 | 337 => 255 | 338 => 256 | n => n, fun | 171 => 262 | 53 => 247 | 37 => 175 | 173 => 265 | 212 => 277 | 51 => 216 | 213 => 278 | 46 => 250 | 232 => 286 | 233 => 287 | n => n, fun | 17 => 3 | 18 => 4 | 19 => 5 | n => n⟩
theorem layI : Proofs.LaysM.n171 prog renI where
  mixed := by kernel_rfl
  f129 := func249.trans (congrArg some (by kernel_rfl))
  f171 := func160.trans (congrArg some (by kernel_rfl))
  f243 := func194.trans (congrArg some (by kernel_rfl))
  f246 := func217.trans (congrArg some (by kernel_rfl))
  f283 := func231.trans (congrArg some (by kernel_rfl))
  f284 := func232.trans (congrArg some (by kernel_rfl))
  f285 := func233.trans (congrArg some (by kernel_rfl))
  f286 := func234.trans (congrArg some (by kernel_rfl))
  f317 := func248.trans (congrArg some (by kernel_rfl))
  f318 := func250.trans (congrArg some (by kernel_rfl))
  f319 := func251.trans (congrArg some (by kernel_rfl))
  f320 := func252.trans (congrArg some (by kernel_rfl))
  f337 := func255.trans (congrArg some (by kernel_rfl))
  f338 := func256.trans (congrArg some (by kernel_rfl))
  t0 := underlying0
  a0 := isAgg0
  z0 := sizeOf0
  v0 := zeroValue0
  t2 := underlying2
  a2 := isAgg2
  z2 := sizeOf2
  v2 := zeroValue2
  t3 := underlying3
  a3 := isAgg3
  z3 := sizeOf3
  v3 := zeroValue3
  t4 := underlying4
  a4 := isAgg4
  z4 := sizeOf4
  v4 := zeroValue4
  t5 := underlying5
  a5 := isAgg5
  z5 := sizeOf5
  v5 := zeroValue5
  t9 := underlying9
  a9 := isAgg9
  z9 := sizeOf9
  v9 := zeroValue9
  t20 := underlying20
  a20 := isAgg20
  z20 := sizeOf20
  v20 := zeroValue20
  t37 := underlying175
  a37 := isAgg175
  z37 := sizeOf175
  v37 := zeroValue175
  t46 := underlying250
  a46 := isAgg250
  z46 := sizeOf250
  v46 := zeroValue250
  t51 := underlying216
  a51 := isAgg216
  z51 := sizeOf216
  v51 := zeroValue216
  t53 := underlying247
  a53 := isAgg247
  z53 := sizeOf247
  v53 := zeroValue247
  t171 := underlying262
  a171 := isAgg262
  z171 := sizeOf262
  v171 := zeroValue262
  t173 := underlying265
  a173 := isAgg265
  z173 := sizeOf265
  v173 := zeroValue265
  t212 := underlying277
  a212 := isAgg277
  z212 := sizeOf277
  v212 := zeroValue277
  t213 := underlying278
  a213 := isAgg278
  z213 := sizeOf278
  t232 := underlying286
  a232 := isAgg286
  z232 := sizeOf286
  v232 := zeroValue286
  t233 := underlying287
  a233 := isAgg287
  z233 := sizeOf287
  v233 := zeroValue287
  g17 := by kernel_rfl
  g18 := by kernel_rfl
  g19 := by kernel_rfl
  i0 := by kernel_rfl
  i2 := by kernel_rfl
  i3 := by kernel_rfl
  i4 := by kernel_rfl
  i5 := by kernel_rfl
  i9 := by kernel_rfl
  i20 := by kernel_rfl
  i37 := by kernel_rfl
  i46 := by kernel_rfl
  i51 := by kernel_rfl
  i53 := by kernel_rfl
  i171 := by kernel_rfl
  i173 := by kernel_rfl
  i212 := by kernel_rfl
  i232 := by kernel_rfl
  i233 := by kernel_rfl
  m17 := by kernel_rfl
  m18 := by kernel_rfl
  m19 := by kernel_rfl
end Go.PE
namespace Go.PE
open Go.RowKit Go.Shelf Go.Proofs Go.Proofs.Tryz
set_option maxRecDepth 100000
/-! ### spans.Key -/
theorem pow10_tab {w : World} {Fz : Nat → Prop} (hg : Glob w Fz) : Lib.TabIs prog w "internal/strconv.uint64pow10" .u64 Lib.pow10Tab := by
  have hn : prog.globalNamed "internal/strconv.uint64pow10" = some 3 := by kernel_rfl
  obtain ⟨h1, _, cs, e, r, h2, h3⟩ := hg
  obtain ⟨ad, vs, hv, hl, hc, hL⟩ := (h1 3 rfl).ptr
  cases hv
  have hl : vs.length = 20 := by rw [hl]; rfl
  unfold Lib.TabIs World.var?
  rw [hn, Option.bind_some, h2]
  simp only [Option.some.injEq]
  apply Array.ext_getElem?
  intro j
  by_cases hj : j < 20
  · have hu : vs[j]? = some vs[j] := List.getElem?_eq_getElem (by omega)
    have hcell := hc j _ hu
    rw [add_lit, Nat.zero_add] at hcell
    have hcs : cs[j]? = some vs[j] := by
      rw [← hcell]
      simp [World.cell?, h2]
    have hp : ((List.range 20).map fun k => PV.int .u64 (10 ^ k : Nat))[j]? = some (.int .u64 (10 ^ j : Nat)) := by
      simp [hj]
    have hi := hL.2 j _ _ hu hp
    rw [hcs]
    generalize vs[j] = u at hi ⊢
    cases hi
    simp [Lib.pow10Tab, hj]
  · rw [Array.getElem?_eq_none (by omega), Array.getElem?_eq_none (by simp [Lib.pow10Tab]; omega)]
theorem tab_below {w W : World} {nm : String} {kd : IntKind} {t : List Int} (h : Lib.TabIs prog w nm kd t) (hb : RowKit.Below w.heap.size w W) : Lib.TabIs prog W nm kd t := by
  unfold Lib.TabIs World.var? at *
  cases hn : prog.globalNamed nm with
  | none => rw [hn] at h; cases h
  | some g =>
    rw [hn, Option.bind_some] at h
    rw [Option.bind_some]
    by_cases hg : g < w.heap.size
    · rw [hb.block g hg]; exact h
    · rw [Array.getElem?_eq_none (by omega)] at h
      cases h
theorem itoa_calls (W : World) (n : Nat) (h : n < 1000) (ht : Lib.TabIs prog W "internal/strconv.uint64pow10" .u64 Lib.pow10Tab) : Calls prog 160 #[.int .i64 n] W fun e W' => e = .returned (.string ⟨(decN n).toArray⟩) ∧ RowKit.Below W.heap.size W W' := by
  have hc := Any.strconv_Itoa layI (n : Int) (by omega) (by omega) W ht
  refine hc.mono ?_
  rintro e w' ⟨rfl, k, os, rfl⟩
  refine ⟨?_, rfl, rfl, rfl, by simp [Sort.grow, World.drewN], fun b hb => ?_⟩
  · rw [decN_eq]
    have : Lib.itoa (n : Int) = dec n := by
      show (if (n : Int) < 0 then _ else dec (n : Int).toNat) = _
      rw [if_neg (by omega), Int.toNat_natCast]
    rw [this]
  · simp only [Sort.grow, World.drewN]
    rw [Array.getElem?_append_left hb]
theorem decN_lt {n : Nat} (h : n < 1000) : (decN n).length ≤ 3 := by
  rw [decN_eq]
  by_cases h1 : n < 10
  · rw [dec_small h1]; simp
  · by_cases h2 : n < 100
    · rw [dec_big (by omega), dec_small (by omega)]; simp
    · rw [dec_big (by omega), dec_big (n := n / 10) (by omega), dec_small (by omega)]; simp
/-- A node. -/
structure Nd where
  (a b e : Nat) (c d : ByteArray)
def Nd.cells (x : Nd) : Array Value := #[.int .i64 x.a, .int .i64 x.b, .string x.c, .string x.d, .int .i64 x.e]
def Nd.ok (x : Nd) : Prop := x.a < 1000 ∧ x.b < 1000 ∧ x.e < 1000
def Nd.key (x : Nd) : List UInt8 := decN x.a ++ 32 :: (decN x.b ++ 32 :: (decN x.e ++ 32 :: (x.c.data.toList ++ 32 :: (x.d.data.toList ++ [10]))))
structure KB (w W : World) (bs : List UInt8) : Prop where
  bel : RowKit.Below w.heap.size w W
  bld : Lib.IsBuilderF 204 5 w.heap.size w.heap.size (Lib.byteCells bs) W
theorem bAtF_grown {T e : TypeId} {B b : Nat} {p : Value} {bs : List Value} {w w' : World} (h : Lib.BuilderAtF T e B b p bs w) (hg : RowKit.Below w.heap.size w w') : Lib.BuilderAtF T e B b p bs w' := by
  obtain ⟨hB, v, hb, hown, hne⟩ := h
  have hgr : w.grownBy w' none := ⟨hg.os, hg.tape, hg.output, hg.size, fun k hk _ => hg.block k hk⟩
  refine ⟨hB, v, (hg.block b (lt_of_block hb)).trans hb, hown.kept hgr ?_, hne⟩
  cases hv : v.ownBlock with
  | none => exact .inl rfl
  | some g => exact .inr (fun h => by cases h)
theorem KB.grown {w W W' : World} {bs : List UInt8} (h : KB w W bs) (hg : RowKit.Below W.heap.size W W') : KB w W' bs := by
  refine ⟨h.bel.trans (hg.mono h.bel.size), ?_⟩
  rcases h.bld with h | h
  · exact .inl (bAtF_grown h hg)
  · exact .inr (bAtF_grown h hg)
theorem KB.lt {w W : World} {bs : List UInt8} (h : KB w W bs) : w.heap.size < W.heap.size := by
  rcases h.bld with h | h <;> exact h.lt
/-- .. with the round's own variable. -/
structure KT (w W : World) (bs : List UInt8) (t : Nat) (x : Nd) : Prop where
  kb : KB w W bs
  ne : w.heap.size ≠ t
  tv : W.heap[t]? = some (.cells x.cells 61 (0, 0))
section
variable {w W : World} {bs : List UInt8} {t : Nat} {x : Nd}
theorem KT.itoa (h : KT w W bs t x) (ht : Lib.TabIs prog w "internal/strconv.uint64pow10" .u64 Lib.pow10Tab) (n : Nat) (hn : n < 1000) : Calls prog 160 #[.int .i64 n] W fun e w' => e = .returned (.string ⟨(decN n).toArray⟩) ∧ KT w w' bs t x :=
  (itoa_calls W n hn (tab_below ht h.kb.bel)).mono fun e w' ⟨he, hb⟩ => ⟨he, h.kb.grown hb, h.ne, (hb.block t (lt_of_block h.tv)).trans h.tv⟩
theorem KT.kept {W' : World} {bs' : List UInt8} (h : KT w W bs t x) (hb : KB w W' bs') (ho : Lib.OthersKept 5 (some w.heap.size) W W') : KT w W' bs' t x :=
  ⟨hb, h.ne, ho t _ h.tv (fun he => h.ne (by simpa using he.symm)) (fun c fz he => by cases he)⟩
theorem KT.wstr (h : KT w W bs t x) (s : ByteArray) (hl : bs.length + s.size ≤ 140737488355328) :
    Calls prog 159 #[.pointer (some ⟨w.heap.size, 0, none⟩), .string s] W fun e w' => e = .returned (.tuple #[.int .i64 s.size, .nilIface]) ∧ KT w w' (bs ++ s.data.toList) t x :=
  (Any.Builder_WriteString_k (ρ := renB) lays166 extraB w.heap.size w.heap.size (Lib.byteCells bs) s W h.kb.bld (by rw [Lib.byteCells_length]; exact hl) h.kb.bel.size).mono fun e w' ⟨he, h1, h2, h3⟩ =>
    ⟨he, h.kept ⟨h.kb.bel.trans h2, .inr (by rw [Lib.byteCells_append]; exact h1)⟩ h3⟩
theorem KT.wbyte (h : KT w W bs t x) (c : UInt8) (z : Int) (hz : z = c.toNat) (hl : bs.length + 1 ≤ 140737488355328) :
    Calls prog 161 #[.pointer (some ⟨w.heap.size, 0, none⟩), .int .u8 z] W fun e w' => e = .returned .nilIface ∧ KT w w' (bs ++ [c]) t x := by
  subst hz
  exact (Any.Builder_WriteByte_k (ρ := renB) lays167 extraB w.heap.size w.heap.size (Lib.byteCells bs) c.toNat W h.kb.bld (by rw [Lib.byteCells_length]; exact hl) h.kb.bel.size).mono fun e w' ⟨he, h1, h2, h3⟩ =>
    ⟨he, h.kept ⟨h.kb.bel.trans h2, .inr (by rw [Lib.byteCells_append]; exact h1)⟩ h3⟩
theorem KT.cell (h : KT w W bs t x) (j : Nat) : W.cell? ⟨t, j, none⟩ = x.cells[j]? := by simp [World.cell?, h.tv]
theorem KT.c0 (h : KT w W bs t x) : W.cell? ⟨t, 0, none⟩ = some (.int .i64 x.a) := h.cell 0
theorem KT.c1 (h : KT w W bs t x) : W.cell? ⟨t, 1, none⟩ = some (.int .i64 x.b) := h.cell 1
theorem KT.c2 (h : KT w W bs t x) : W.cell? ⟨t, 2, none⟩ = some (.string x.c) := h.cell 2
theorem KT.c3 (h : KT w W bs t x) : W.cell? ⟨t, 3, none⟩ = some (.string x.d) := h.cell 3
theorem KT.c4 (h : KT w W bs t x) : W.cell? ⟨t, 4, none⟩ = some (.int .i64 x.e) := h.cell 4
end
theorem KB.str {w W : World} {bs : List UInt8} (h : KB w W bs) : Calls prog 162 #[.pointer (some ⟨w.heap.size, 0, none⟩)] W fun e w' => e = .returned (.string ⟨bs.toArray⟩) ∧ RowKit.Below w.heap.size w w' :=
  (Any.Builder_String_any_k (ρ := renB) lays169 extraB w.heap.size w.heap.size bs W h.bld h.bel.size).mono fun e w' ⟨he, _, h2, _⟩ => ⟨he, h.bel.trans h2⟩
end Go.PE
namespace Go.PE
open Go.RowKit Go.Shelf Go.Proofs Go.Proofs.Tryz
set_option maxRecDepth 100000
def pre (q : Nat → Nd) (i : Nat) : List UInt8 := (List.range i).flatMap fun j => (q j).key
theorem pre_succ (q : Nat → Nd) (i : Nat) : pre q (i + 1) = pre q i ++ (q i).key := by
  unfold pre
  rw [List.range_succ, List.flatMap_append]
  simp
set_option maxHeartbeats 4000000 in
theorem key_calls (w : World) (nb no n cap : Nat) (q : Nat → Nd) (hn : n ≤ 1000000) (hc : n ≤ cap) (hq : ∀ i, i < n → (q i).ok) (hlen : ∀ i, i ≤ n → (pre q i).length ≤ 1000000)
    (hcells : ∀ i, i < n → w.cell? ⟨nb, no + i * 5, none⟩ = some (.int .i64 (q i).a) ∧ w.cell? ⟨nb, no + i * 5 + 1, none⟩ = some (.int .i64 (q i).b) ∧ w.cell? ⟨nb, no + i * 5 + 2, none⟩ = some (.string (q i).c) ∧ w.cell? ⟨nb, no + i * 5 + 3, none⟩ = some (.string (q i).d) ∧ w.cell? ⟨nb, no + i * 5 + 4, none⟩ = some (.int .i64 (q i).e))
    (hnb : nb < w.heap.size) (ht : Lib.TabIs prog w "internal/strconv.uint64pow10" .u64 Lib.pow10Tab) :
    Calls prog 137 #[.slice (some ⟨nb, no, none⟩) n cap] w fun e w' => e = .returned (.string ⟨(pre q n).toArray⟩) ∧ RowKit.Below w.heap.size w w' := by
  go_enter func137, ntmps137
  go_wp2_with fail
  go_loopw [8] (fun i wr => ∃ k : Nat, k ≤ n ∧ i = .int .i64 k ∧ KB w wr (pre q k)) (fun i _ => n - (intOf i).toNat)
  case atStart =>
    exact ⟨0, Nat.zero_le _, rfl, (RowKit.Below.refl _ w).alloc (Nat.le_refl _) _, .inl ⟨Nat.le_refl _, .slice none 0 0, World.alloc_heap_new w _, World.ownsRowF_nil _ _ _ _, by simp [Value.ownBlock]⟩⟩
  case round =>
    obtain ⟨k, hk, rfl, hS⟩ := hrel
    have hcs : k < n → wr.cell? ⟨nb, no + k * 5, none⟩ = some (.int .i64 (q k).a) ∧ wr.cell? ⟨nb, no + k * 5 + 1, none⟩ = some (.int .i64 (q k).b) ∧ wr.cell? ⟨nb, no + k * 5 + 2, none⟩ = some (.string (q k).c) ∧ wr.cell? ⟨nb, no + k * 5 + 3, none⟩ = some (.string (q k).d) ∧ wr.cell? ⟨nb, no + k * 5 + 4, none⟩ = some (.int .i64 (q k).e) := fun h => by
      obtain ⟨h1, h2, h3, h4, h5⟩ := hcells k h
      exact ⟨(hS.bel.cell hnb).trans h1, (hS.bel.cell hnb).trans h2, (hS.bel.cell hnb).trans h3, (hS.bel.cell hnb).trans h4, (hS.bel.cell hnb).trans h5⟩
    by_cases hkn : k < n
    · obtain ⟨h1, h2, h3, h4, h5⟩ := hcs hkn
      obtain ⟨ha, hb, he⟩ := hq k hkn
      have hl0 := hlen k hk
      have hl1 := hlen (k + 1) (by omega)
      rw [pre_succ, List.length_append] at hl1
      have hsc : (q k).c.size = (q k).c.data.size := rfl
      have hsd : (q k).d.size = (q k).d.data.size := rfl
      have hz1 : ∀ x : UInt8, (⟨#[x]⟩ : ByteArray).size = 1 := fun _ => rfl
      have hzd : ∀ l : List UInt8, (⟨l.toArray⟩ : ByteArray).size = l.length := fun l => by simp [ByteArray.size]
      have da := decN_lt ha
      have db := decN_lt hb
      have de := decN_lt he
      have hkl : (q k).key.length = (decN (q k).a).length + (decN (q k).b).length + (decN (q k).e).length + 5 + (q k).c.data.size + (q k).d.data.size := by
        simp only [Nd.key, List.length_cons, List.length_append, List.length_nil, Array.length_toList]
        omega
      have hK0 : KT w (wr.alloc (.cells (q k).cells 61)) (pre q k) wr.heap.size (q k) := ⟨hS.grown ((RowKit.Below.refl _ wr).alloc (Nat.le_refl _) _), by have := hS.lt; omega, World.alloc_heap_new wr _⟩
      have hK1 : KT w (wr.alloc (.cells #[.int .i64 (q k).a, .int .i64 (q k).b, .string (q k).c, .string (q k).d, .int .i64 (q k).e] 61)) (pre q k) wr.heap.size (q k) := hK0
      clear hK0
      go_wp2_with fail
      refine (hK1.itoa ht _ ha).mono ?_
      rintro e v0 ⟨rfl, k0⟩
      have g0 := k0.c0
      have g1 := k0.c1
      have g2 := k0.c2
      have g3 := k0.c3
      have g4 := k0.c4
      go_wp2_with fail
      refine (k0.wstr _ (by simp only [List.length_append, List.length_cons, List.length_nil, Array.length_toList, List.size_toArray, hsc, hsd, hz1, hzd]; omega)).mono ?_
      rintro e v1 ⟨rfl, k1⟩
      have g0 := k1.c0
      have g1 := k1.c1
      have g2 := k1.c2
      have g3 := k1.c3
      have g4 := k1.c4
      clear k0
      go_wp2_with fail
      refine (k1.wbyte 32 32 rfl (by simp only [List.length_append, List.length_cons, List.length_nil, Array.length_toList, List.size_toArray, hsc, hsd, hz1, hzd]; omega)).mono ?_
      rintro e v2 ⟨rfl, k2⟩
      have g0 := k2.c0
      have g1 := k2.c1
      have g2 := k2.c2
      have g3 := k2.c3
      have g4 := k2.c4
      clear k1
      go_wp2_with fail
      refine (k2.itoa ht _ hb).mono ?_
      rintro e v3 ⟨rfl, k3⟩
      have g0 := k3.c0
      have g1 := k3.c1
      have g2 := k3.c2
      have g3 := k3.c3
      have g4 := k3.c4
      clear k2
      go_wp2_with fail
      refine (k3.wstr _ (by simp only [List.length_append, List.length_cons, List.length_nil, Array.length_toList, List.size_toArray, hsc, hsd, hz1, hzd]; omega)).mono ?_
      rintro e v4 ⟨rfl, k4⟩
      have g0 := k4.c0
      have g1 := k4.c1
      have g2 := k4.c2
      have g3 := k4.c3
      have g4 := k4.c4
      clear k3
      go_wp2_with fail
      refine (k4.wbyte 32 32 rfl (by simp only [List.length_append, List.length_cons, List.length_nil, Array.length_toList, List.size_toArray, hsc, hsd, hz1, hzd]; omega)).mono ?_
      rintro e v5 ⟨rfl, k5⟩
      have g0 := k5.c0
      have g1 := k5.c1
      have g2 := k5.c2
      have g3 := k5.c3
      have g4 := k5.c4
      clear k4
      go_wp2_with fail
      refine (k5.itoa ht _ he).mono ?_
      rintro e v6 ⟨rfl, k6⟩
      have g0 := k6.c0
      have g1 := k6.c1
      have g2 := k6.c2
      have g3 := k6.c3
      have g4 := k6.c4
      clear k5
      go_wp2_with fail
      refine (k6.wstr _ (by simp only [List.length_append, List.length_cons, List.length_nil, Array.length_toList, List.size_toArray, hsc, hsd, hz1, hzd]; omega)).mono ?_
      rintro e v7 ⟨rfl, k7⟩
      have g0 := k7.c0
      have g1 := k7.c1
      have g2 := k7.c2
      have g3 := k7.c3
      have g4 := k7.c4
      clear k6
      go_wp2_with fail
      refine (k7.wbyte 32 32 rfl (by simp only [List.length_append, List.length_cons, List.length_nil, Array.length_toList, List.size_toArray, hsc, hsd, hz1, hzd]; omega)).mono ?_
      rintro e v8 ⟨rfl, k8⟩
      have g0 := k8.c0
      have g1 := k8.c1
      have g2 := k8.c2
      have g3 := k8.c3
      have g4 := k8.c4
      clear k7
      go_wp2_with fail
      refine (k8.wstr _ (by simp only [List.length_append, List.length_cons, List.length_nil, Array.length_toList, List.size_toArray, hsc, hsd, hz1, hzd]; omega)).mono ?_
      rintro e v9 ⟨rfl, k9⟩
      have g0 := k9.c0
      have g1 := k9.c1
      have g2 := k9.c2
      have g3 := k9.c3
      have g4 := k9.c4
      clear k8
      go_wp2_with fail
      refine (k9.wbyte 32 32 rfl (by simp only [List.length_append, List.length_cons, List.length_nil, Array.length_toList, List.size_toArray, hsc, hsd, hz1, hzd]; omega)).mono ?_
      rintro e v10 ⟨rfl, k10⟩
      have g0 := k10.c0
      have g1 := k10.c1
      have g2 := k10.c2
      have g3 := k10.c3
      have g4 := k10.c4
      clear k9
      go_wp2_with fail
      refine (k10.wstr _ (by simp only [List.length_append, List.length_cons, List.length_nil, Array.length_toList, List.size_toArray, hsc, hsd, hz1, hzd]; omega)).mono ?_
      rintro e v11 ⟨rfl, k11⟩
      have g0 := k11.c0
      have g1 := k11.c1
      have g2 := k11.c2
      have g3 := k11.c3
      have g4 := k11.c4
      clear k10
      go_wp2_with fail
      refine (k11.wbyte 10 10 rfl (by simp only [List.length_append, List.length_cons, List.length_nil, Array.length_toList, List.size_toArray, hsc, hsd, hz1, hzd]; omega)).mono ?_
      rintro e v12 ⟨rfl, k12⟩
      have g0 := k12.c0
      have g1 := k12.c1
      have g2 := k12.c2
      have g3 := k12.c3
      have g4 := k12.c4
      clear k11
      go_wp2_with fail
      refine ⟨⟨k + 1, by omega, by simp, (congrArg (KB w v12) ?_).mp k12.kb⟩, by simp [intOf]; omega⟩
      rw [pre_succ]
      simp [Nd.key]
    · have hkn : k = n := by omega
      subst hkn
      go_wp2_with (go_at_call 162; refine hS.str.mono ?_; rintro e w1 ⟨rfl, hb⟩)
      go_ret
      exact ⟨rfl, hb⟩
end Go.PE
namespace Go.PE
open Go.RowKit Go.Shelf Go.Proofs Go.Proofs.Tryz
set_option maxRecDepth 100000
/-! ### Key's contract; all contracts -/
def ndOf (x : List PV) : Nd :=
  match x with
  | [.int .i64 a, .int .i64 b, .str c, .str d, .int .i64 e] => ⟨a.toNat, b.toNat, e.toNat, ⟨c.toArray⟩, ⟨d.toArray⟩⟩
  | _ => ⟨0, 0, 0, ⟨#[]⟩, ⟨#[]⟩⟩
theorem dig_some {n : Int} {c : Bs} (h : itoaC n = some c) : ((n.toNat : Nat) : Int) = n ∧ n.toNat < 1000 ∧ c = decN n.toNat := by
  unfold itoaC at h
  split at h
  · cases h
    exact ⟨by omega, by omega, rfl⟩
  · cases h
theorem node_some {x : List PV} {l : List UInt8} (h : nodeKey x = some l) : (ndOf x).ok ∧ (ndOf x).key = l ∧ x = [.int .i64 (ndOf x).a, .int .i64 (ndOf x).b, .str (ndOf x).c.data.toList, .str (ndOf x).d.data.toList, .int .i64 (ndOf x).e] := by
  unfold nodeKey at h
  split at h
  · split at h
    · rename_i a b e h1 h2 h3
      cases h
      obtain ⟨a1, a2, rfl⟩ := dig_some h1
      obtain ⟨b1, b2, rfl⟩ := dig_some h2
      obtain ⟨e1, e2, rfl⟩ := dig_some h3
      refine ⟨⟨a2, b2, e2⟩, rfl, ?_⟩
      simp only [ndOf, a1, b1, e1]
    · cases h
  · cases h
theorem keyL_spec : ∀ {xs : List (List PV)} {l : List UInt8}, keyL xs = some l → l = xs.flatMap (fun x => (ndOf x).key) ∧ ∀ x ∈ xs, ∃ k, nodeKey x = some k
  | [], l, h => by cases h; exact ⟨rfl, fun x hx => by cases hx⟩
  | x :: xs, l, h => by
    unfold keyL at h
    split at h
    · rename_i a b h1 h2
      cases h
      obtain ⟨e1, e2⟩ := keyL_spec h2
      refine ⟨by rw [List.flatMap_cons, (node_some h1).2.1, ← e1], fun y hy => ?_⟩
      rcases List.mem_cons.1 hy with rfl | hy
      · exact ⟨_, h1⟩
      · exact e2 y hy
    · cases h
theorem pre_take (xs : List (List PV)) : ∀ i, i ≤ xs.length → pre (fun i => ndOf (xs.getD i [])) i = (xs.take i).flatMap (fun x => (ndOf x).key)
  | 0, _ => rfl
  | i + 1, h => by
    rw [pre_succ, pre_take xs i (by omega), List.take_add_one, List.flatMap_append, List.getElem?_eq_getElem (by omega)]
    simp [List.getD, List.getElem?_eq_getElem (show i < xs.length by omega)]
theorem pre_len (xs : List (List PV)) (i : Nat) (h : i ≤ xs.length) : (pre (fun i => ndOf (xs.getD i [])) i).length ≤ (xs.flatMap (fun x => (ndOf x).key)).length := by
  rw [pre_take xs i h]
  have e : xs.flatMap (fun x => (ndOf x).key) = (xs.take i).flatMap (fun x => (ndOf x).key) ++ (xs.drop i).flatMap (fun x => (ndOf x).key) := by
    rw [← List.flatMap_append, List.take_append_drop]
  rw [e, List.length_append]
  omega
theorem key_pos (x : Nd) : 0 < x.key.length := by simp [Nd.key]; omega
theorem flat_len : ∀ xs : List (List PV), xs.length ≤ (xs.flatMap (fun x => (ndOf x).key)).length
  | [] => Nat.zero_le _
  | x :: xs => by
    rw [List.flatMap_cons, List.length_append, List.length_cons]
    have := flat_len xs
    have := key_pos (ndOf x)
    omega
theorem key_meets : Meets prog 137 keyF := by
  refine ⟨fun _ _ => ?_, fun h => (by cases h), fun _ h => (by cases h), fun g' h => (by cases h)⟩
  intro w Fz args avs bs r outs hgl hfz hnd hbs hreps hF o a next Q hnext
  obtain ⟨al, hal⟩ : ∃ al, args.toList = al := ⟨_, rfl⟩
  have harr : args = al.toArray := by rw [← hal, Array.toArray_toList]
  rw [hal] at hreps
  unfold keyF at hF
  split at hF
  · rename_i xs
    split at hF
    · rename_i l hl
      split at hF
      · rename_i hlen
        cases hF
        obtain ⟨rfl, hall⟩ := keyL_spec hl
        have hx0 : 0 < xs.length := by
          cases xs with
          | nil => simp at hlen
          | cons x xs => simp
        have hnode : ∀ i, i < xs.length → ∃ k, nodeKey (xs.getD i []) = some k := fun i hi => hall _ (by simp [List.getD, List.getElem?_eq_getElem hi])
        have hcell : ∀ i j, i < xs.length → cell2 xs i j = (xs.getD i [])[j]? := fun i j hi => by
          simp [cell2, List.getD, List.getElem?_eq_getElem hi]
        cases hreps with
        | cons h1 h2 =>
          cases h2
          have h1 := h1.imm rfl
          obtain ⟨k0, hk0⟩ := hnode 0 hx0
          have hq0 : cell2 xs 0 0 = some (.int .i64 (ndOf (xs.getD 0 [])).a) := by
            rw [hcell 0 0 hx0, (node_some hk0).2.2]; rfl
          obtain ⟨nb, no, cap, rfl, hcap, hn⟩ := imm_elems h1 hq0
          have hcs : ∀ i, i < xs.length → w.cell? ⟨nb, no + i * 5, none⟩ = some (.int .i64 (ndOf (xs.getD i [])).a) ∧ w.cell? ⟨nb, no + i * 5 + 1, none⟩ = some (.int .i64 (ndOf (xs.getD i [])).b) ∧ w.cell? ⟨nb, no + i * 5 + 2, none⟩ = some (.string (ndOf (xs.getD i [])).c) ∧ w.cell? ⟨nb, no + i * 5 + 3, none⟩ = some (.string (ndOf (xs.getD i [])).d) ∧ w.cell? ⟨nb, no + i * 5 + 4, none⟩ = some (.int .i64 (ndOf (xs.getD i [])).e) := by
            intro i hi
            obtain ⟨k, hk⟩ := hnode i hi
            obtain ⟨_, _, hx⟩ := node_some hk
            have hc : ∀ j p, (xs.getD i [])[j]? = some p → ∃ u, w.cell? ⟨nb, no + i * 5 + j, none⟩ = some u ∧ Imm w Fz u p := fun j p hp => by
              obtain ⟨u, h3, h4⟩ := hn i j p ((hcell i j hi).trans hp)
              exact ⟨u, by rw [Nat.add_assoc]; exact h3, h4⟩
            have hd : ∀ j p, ([.int .i64 (ndOf (xs.getD i [])).a, .int .i64 (ndOf (xs.getD i [])).b, .str (ndOf (xs.getD i [])).c.data.toList, .str (ndOf (xs.getD i [])).d.data.toList, .int .i64 (ndOf (xs.getD i [])).e] : List PV)[j]? = some p → ∃ u, w.cell? ⟨nb, no + i * 5 + j, none⟩ = some u ∧ Imm w Fz u p := fun j p hp => hc j p (by rw [hx]; exact hp)
            clear hc hx hk
            generalize ndOf (xs.getD i []) = y at *
            obtain ⟨u0, a0, b0⟩ := hd 0 _ rfl
            obtain ⟨u1, a1, b1⟩ := hd 1 _ rfl
            obtain ⟨u2, a2, b2⟩ := hd 2 _ rfl
            obtain ⟨u3, a3, b3⟩ := hd 3 _ rfl
            obtain ⟨u4, a4, b4⟩ := hd 4 _ rfl
            have hs : ∀ (u : Value) (s : ByteArray), Imm w Fz u (.str s.data.toList) → u = .string s := by
              intro u s h
              generalize hq : PV.str s.data.toList = q at h
              cases h <;> first | (cases hq; done) | skip
              rename_i s'
              simp only [PV.str.injEq] at hq
              have h9 : s = s' := by
                apply ByteArray.ext
                exact Array.toList_inj.1 hq
              rw [h9]
            obtain rfl := hs _ _ b2
            obtain rfl := hs _ _ b3
            cases b0; cases b1; cases b4
            exact ⟨a0, a1, a2, a3, a4⟩
          have hnb : nb < w.heap.size := cell_lt (hcs 0 hx0).1
          have hfl := flat_len xs
          have hx := key_calls w nb no xs.length cap (fun i => ndOf (xs.getD i [])) (by omega) hcap (fun i hi => by
            obtain ⟨k, hk⟩ := hnode i hi
            exact (node_some hk).1) (fun i hi => Nat.le_trans (pre_len xs i hi) hlen.2) hcs hnb (pow10_tab hgl)
          subst harr
          have henter : ∀ args : Array Value, (callFunc 137 args).run prog w = .ok (.enter 137 args) w := fun args => enters_of func137 (by kernel_rfl) rfl _ _
          rw [henter, Oper.upon_enter]
          refine hx.mono ?_
          rintro e w' ⟨rfl, hb⟩
          rw [pre_take xs _ (Nat.le_refl _), List.take_length]
          exact hnext _ _ (below_plain hb (by rw [hal]; rfl) rfl (.str _))
      · cases hF
    · cases hF
  · cases hF
end Go.PE
