/-
  A part of the proof that the law's function returns true and leaves its arguments as they were, for every input (no condition): own lemmas of the proof, in the order of their use.
-/
import Derived.Test.YtkfppicmdgbfjaaGreatDoorU25
set_option linter.all false
namespace Go.PE
open Go.RowKit Go.Proofs.Tryz
set_option maxRecDepth 100000
variable {k : Nat}
/-! ### spans: the tree's sorts -/
def treeP (t : List Node) (en so : List Int) : PV := .iptr [.imm 5 (nrow t), .imm 1 (zrow en), .imm 1 (zrow so)] 0
def spV (n : Node) (so : List Int) (i : Nat) (z : Int) : Int :=
  if n.op = 3 ∨ n.op = 4 ∨ n.op = 5 then n.sort else if n.op = 14 ∨ n.op = 15 then so.getD (i + 1) 0 else if n.op = 10 then so.getD z.toNat 0 else if n.op = 16 ∨ n.op = 17 ∨ n.op = 18 then 2 else if n.op = 19 ∨ n.op = 20 then 4 else 1
theorem spS1 (t : List Node) (en so : List Int) (i : Nat) (srt kids : Int) (nm num : Bs) (hi : i < t.length) (hl : t.length ≤ 20000) (hn : t.getD i noNode = ⟨1, srt, kids, nm, num⟩) : T (k + 1) 110 [treeP t en so, .int .i64 i] = some (.int .i64 (spV ⟨1, srt, kids, nm, num⟩ so i (en.getD (i + 1) 0)), []) := by
  have hg := nrow_get (t := t) (i := i) hi
  rw [hn] at hg
  have hg : (nrow t)[i]? = some [.int .i64 1, .int .i64 srt, .str nm, .str num, .int .i64 kids] := hg
  unfold treeP
  refine enter rfl func110 rfl (by decide) (by kernel_rfl) rfl rfl ?_
  refine zs0 ?_
  refine WX.idxImm tab_eq rfl rfl rfl rfl rfl rfl (by omega) (hg) ?_
  refine zs0 ?_
  rfl
theorem spS2 (t : List Node) (en so : List Int) (i : Nat) (srt kids : Int) (nm num : Bs) (hi : i < t.length) (hl : t.length ≤ 20000) (hn : t.getD i noNode = ⟨2, srt, kids, nm, num⟩) : T (k + 1) 110 [treeP t en so, .int .i64 i] = some (.int .i64 (spV ⟨2, srt, kids, nm, num⟩ so i (en.getD (i + 1) 0)), []) := by
  have hg := nrow_get (t := t) (i := i) hi
  rw [hn] at hg
  have hg : (nrow t)[i]? = some [.int .i64 2, .int .i64 srt, .str nm, .str num, .int .i64 kids] := hg
  unfold treeP
  refine enter rfl func110 rfl (by decide) (by kernel_rfl) rfl rfl ?_
  refine zs0 ?_
  refine WX.idxImm tab_eq rfl rfl rfl rfl rfl rfl (by omega) (hg) ?_
  refine zs0 ?_
  rfl
theorem spS3 (t : List Node) (en so : List Int) (i : Nat) (srt kids : Int) (nm num : Bs) (hi : i < t.length) (hl : t.length ≤ 20000) (hn : t.getD i noNode = ⟨3, srt, kids, nm, num⟩) : T (k + 1) 110 [treeP t en so, .int .i64 i] = some (.int .i64 (spV ⟨3, srt, kids, nm, num⟩ so i (en.getD (i + 1) 0)), []) := by
  have hg := nrow_get (t := t) (i := i) hi
  rw [hn] at hg
  have hg : (nrow t)[i]? = some [.int .i64 3, .int .i64 srt, .str nm, .str num, .int .i64 kids] := hg
  unfold treeP
  refine enter rfl func110 rfl (by decide) (by kernel_rfl) rfl rfl ?_
  refine zs0 ?_
  refine WX.idxImm tab_eq rfl rfl rfl rfl rfl rfl (by omega) (hg) ?_
  refine zs0 ?_
  rfl
theorem spS4 (t : List Node) (en so : List Int) (i : Nat) (srt kids : Int) (nm num : Bs) (hi : i < t.length) (hl : t.length ≤ 20000) (hn : t.getD i noNode = ⟨4, srt, kids, nm, num⟩) : T (k + 1) 110 [treeP t en so, .int .i64 i] = some (.int .i64 (spV ⟨4, srt, kids, nm, num⟩ so i (en.getD (i + 1) 0)), []) := by
  have hg := nrow_get (t := t) (i := i) hi
  rw [hn] at hg
  have hg : (nrow t)[i]? = some [.int .i64 4, .int .i64 srt, .str nm, .str num, .int .i64 kids] := hg
  unfold treeP
  refine enter rfl func110 rfl (by decide) (by kernel_rfl) rfl rfl ?_
  refine zs0 ?_
  refine WX.idxImm tab_eq rfl rfl rfl rfl rfl rfl (by omega) (hg) ?_
  refine zs0 ?_
  rfl
theorem spS5 (t : List Node) (en so : List Int) (i : Nat) (srt kids : Int) (nm num : Bs) (hi : i < t.length) (hl : t.length ≤ 20000) (hn : t.getD i noNode = ⟨5, srt, kids, nm, num⟩) : T (k + 1) 110 [treeP t en so, .int .i64 i] = some (.int .i64 (spV ⟨5, srt, kids, nm, num⟩ so i (en.getD (i + 1) 0)), []) := by
  have hg := nrow_get (t := t) (i := i) hi
  rw [hn] at hg
  have hg : (nrow t)[i]? = some [.int .i64 5, .int .i64 srt, .str nm, .str num, .int .i64 kids] := hg
  unfold treeP
  refine enter rfl func110 rfl (by decide) (by kernel_rfl) rfl rfl ?_
  refine zs0 ?_
  refine WX.idxImm tab_eq rfl rfl rfl rfl rfl rfl (by omega) (hg) ?_
  refine zs0 ?_
  rfl
theorem spS6 (t : List Node) (en so : List Int) (i : Nat) (srt kids : Int) (nm num : Bs) (hi : i < t.length) (hl : t.length ≤ 20000) (hn : t.getD i noNode = ⟨6, srt, kids, nm, num⟩) : T (k + 1) 110 [treeP t en so, .int .i64 i] = some (.int .i64 (spV ⟨6, srt, kids, nm, num⟩ so i (en.getD (i + 1) 0)), []) := by
  have hg := nrow_get (t := t) (i := i) hi
  rw [hn] at hg
  have hg : (nrow t)[i]? = some [.int .i64 6, .int .i64 srt, .str nm, .str num, .int .i64 kids] := hg
  unfold treeP
  refine enter rfl func110 rfl (by decide) (by kernel_rfl) rfl rfl ?_
  refine zs0 ?_
  refine WX.idxImm tab_eq rfl rfl rfl rfl rfl rfl (by omega) (hg) ?_
  refine zs0 ?_
  rfl
theorem spS7 (t : List Node) (en so : List Int) (i : Nat) (srt kids : Int) (nm num : Bs) (hi : i < t.length) (hl : t.length ≤ 20000) (hn : t.getD i noNode = ⟨7, srt, kids, nm, num⟩) : T (k + 1) 110 [treeP t en so, .int .i64 i] = some (.int .i64 (spV ⟨7, srt, kids, nm, num⟩ so i (en.getD (i + 1) 0)), []) := by
  have hg := nrow_get (t := t) (i := i) hi
  rw [hn] at hg
  have hg : (nrow t)[i]? = some [.int .i64 7, .int .i64 srt, .str nm, .str num, .int .i64 kids] := hg
  unfold treeP
  refine enter rfl func110 rfl (by decide) (by kernel_rfl) rfl rfl ?_
  refine zs0 ?_
  refine WX.idxImm tab_eq rfl rfl rfl rfl rfl rfl (by omega) (hg) ?_
  refine zs0 ?_
  rfl
theorem spS8 (t : List Node) (en so : List Int) (i : Nat) (srt kids : Int) (nm num : Bs) (hi : i < t.length) (hl : t.length ≤ 20000) (hn : t.getD i noNode = ⟨8, srt, kids, nm, num⟩) : T (k + 1) 110 [treeP t en so, .int .i64 i] = some (.int .i64 (spV ⟨8, srt, kids, nm, num⟩ so i (en.getD (i + 1) 0)), []) := by
  have hg := nrow_get (t := t) (i := i) hi
  rw [hn] at hg
  have hg : (nrow t)[i]? = some [.int .i64 8, .int .i64 srt, .str nm, .str num, .int .i64 kids] := hg
  unfold treeP
  refine enter rfl func110 rfl (by decide) (by kernel_rfl) rfl rfl ?_
  refine zs0 ?_
  refine WX.idxImm tab_eq rfl rfl rfl rfl rfl rfl (by omega) (hg) ?_
  refine zs0 ?_
  rfl
theorem spS9 (t : List Node) (en so : List Int) (i : Nat) (srt kids : Int) (nm num : Bs) (hi : i < t.length) (hl : t.length ≤ 20000) (hn : t.getD i noNode = ⟨9, srt, kids, nm, num⟩) : T (k + 1) 110 [treeP t en so, .int .i64 i] = some (.int .i64 (spV ⟨9, srt, kids, nm, num⟩ so i (en.getD (i + 1) 0)), []) := by
  have hg := nrow_get (t := t) (i := i) hi
  rw [hn] at hg
  have hg : (nrow t)[i]? = some [.int .i64 9, .int .i64 srt, .str nm, .str num, .int .i64 kids] := hg
  unfold treeP
  refine enter rfl func110 rfl (by decide) (by kernel_rfl) rfl rfl ?_
  refine zs0 ?_
  refine WX.idxImm tab_eq rfl rfl rfl rfl rfl rfl (by omega) (hg) ?_
  refine zs0 ?_
  rfl
theorem spS10 (t : List Node) (en so : List Int) (i : Nat) (srt kids : Int) (nm num : Bs) (hi : i < t.length) (hl : t.length ≤ 20000) (hn : t.getD i noNode = ⟨10, srt, kids, nm, num⟩) (h1 : i + 1 < en.length) (h2 : 0 ≤ en.getD (i + 1) 0) (h3 : en.getD (i + 1) 0 < so.length) : T (k + 1) 110 [treeP t en so, .int .i64 i] = some (.int .i64 (spV ⟨10, srt, kids, nm, num⟩ so i (en.getD (i + 1) 0)), []) := by
  have hg := nrow_get (t := t) (i := i) hi
  rw [hn] at hg
  have hg : (nrow t)[i]? = some [.int .i64 10, .int .i64 srt, .str nm, .str num, .int .i64 kids] := hg
  unfold treeP
  have e : spV ⟨10, srt, kids, nm, num⟩ so i (en.getD (i + 1) 0) = so.getD (en.getD (i + 1) 0).toNat 0 := rfl
  have hz := zrow_get (l := en) (i := i + 1) h1
  rw [e]
  generalize en.getD (i + 1) 0 = y at *
  have hy := zrow_get (l := so) (i := y.toNat) (by omega)
  generalize so.getD y.toNat 0 = x at *
  refine enter rfl func110 rfl (by decide) (by kernel_rfl) rfl rfl ?_
  refine zs0 ?_
  refine WX.idxImm tab_eq rfl rfl rfl rfl rfl rfl (by omega) (hg) ?_
  refine zd8 ?_
  rw [wrap_i64 (x := (i : Int) + 1) (by omega) (by omega)]
  refine WX.idxImmD tab_eq rfl rfl rfl rfl rfl rfl (by omega) (by rw [show ((i : Int) + 1).toNat = i + 1 by omega]; exact hz) ?_
  refine zd0 ?_
  refine WX.idxImmD tab_eq rfl rfl rfl rfl rfl rfl (by omega) (hy) ?_
  refine zd7 ?_
  rfl
theorem spS11 (t : List Node) (en so : List Int) (i : Nat) (srt kids : Int) (nm num : Bs) (hi : i < t.length) (hl : t.length ≤ 20000) (hn : t.getD i noNode = ⟨11, srt, kids, nm, num⟩) : T (k + 1) 110 [treeP t en so, .int .i64 i] = some (.int .i64 (spV ⟨11, srt, kids, nm, num⟩ so i (en.getD (i + 1) 0)), []) := by
  have hg := nrow_get (t := t) (i := i) hi
  rw [hn] at hg
  have hg : (nrow t)[i]? = some [.int .i64 11, .int .i64 srt, .str nm, .str num, .int .i64 kids] := hg
  unfold treeP
  refine enter rfl func110 rfl (by decide) (by kernel_rfl) rfl rfl ?_
  refine zs0 ?_
  refine WX.idxImm tab_eq rfl rfl rfl rfl rfl rfl (by omega) (hg) ?_
  refine zs0 ?_
  rfl
theorem spS12 (t : List Node) (en so : List Int) (i : Nat) (srt kids : Int) (nm num : Bs) (hi : i < t.length) (hl : t.length ≤ 20000) (hn : t.getD i noNode = ⟨12, srt, kids, nm, num⟩) : T (k + 1) 110 [treeP t en so, .int .i64 i] = some (.int .i64 (spV ⟨12, srt, kids, nm, num⟩ so i (en.getD (i + 1) 0)), []) := by
  have hg := nrow_get (t := t) (i := i) hi
  rw [hn] at hg
  have hg : (nrow t)[i]? = some [.int .i64 12, .int .i64 srt, .str nm, .str num, .int .i64 kids] := hg
  unfold treeP
  refine enter rfl func110 rfl (by decide) (by kernel_rfl) rfl rfl ?_
  refine zs0 ?_
  refine WX.idxImm tab_eq rfl rfl rfl rfl rfl rfl (by omega) (hg) ?_
  refine zs0 ?_
  rfl
theorem spS13 (t : List Node) (en so : List Int) (i : Nat) (srt kids : Int) (nm num : Bs) (hi : i < t.length) (hl : t.length ≤ 20000) (hn : t.getD i noNode = ⟨13, srt, kids, nm, num⟩) : T (k + 1) 110 [treeP t en so, .int .i64 i] = some (.int .i64 (spV ⟨13, srt, kids, nm, num⟩ so i (en.getD (i + 1) 0)), []) := by
  have hg := nrow_get (t := t) (i := i) hi
  rw [hn] at hg
  have hg : (nrow t)[i]? = some [.int .i64 13, .int .i64 srt, .str nm, .str num, .int .i64 kids] := hg
  unfold treeP
  refine enter rfl func110 rfl (by decide) (by kernel_rfl) rfl rfl ?_
  refine zs0 ?_
  refine WX.idxImm tab_eq rfl rfl rfl rfl rfl rfl (by omega) (hg) ?_
  refine zs0 ?_
  rfl
theorem spS14 (t : List Node) (en so : List Int) (i : Nat) (srt kids : Int) (nm num : Bs) (hi : i < t.length) (hl : t.length ≤ 20000) (hn : t.getD i noNode = ⟨14, srt, kids, nm, num⟩) (h1 : i + 1 < so.length) : T (k + 1) 110 [treeP t en so, .int .i64 i] = some (.int .i64 (spV ⟨14, srt, kids, nm, num⟩ so i (en.getD (i + 1) 0)), []) := by
  have hg := nrow_get (t := t) (i := i) hi
  rw [hn] at hg
  have hg : (nrow t)[i]? = some [.int .i64 14, .int .i64 srt, .str nm, .str num, .int .i64 kids] := hg
  unfold treeP
  have e : spV ⟨14, srt, kids, nm, num⟩ so i (en.getD (i + 1) 0) = so.getD (i + 1) 0 := rfl
  have hz := zrow_get (l := so) (i := i + 1) h1
  rw [e]
  generalize so.getD (i + 1) 0 = x at *
  refine enter rfl func110 rfl (by decide) (by kernel_rfl) rfl rfl ?_
  refine zs0 ?_
  refine WX.idxImm tab_eq rfl rfl rfl rfl rfl rfl (by omega) (hg) ?_
  refine zs0 ?_
  rw [wrap_i64 (x := (i : Int) + 1) (by omega) (by omega)]
  refine WX.idxImm tab_eq rfl rfl rfl rfl rfl rfl (by omega) (by rw [show ((i : Int) + 1).toNat = i + 1 by omega]; exact hz) ?_
  refine zs0 ?_
  rfl
theorem spS15 (t : List Node) (en so : List Int) (i : Nat) (srt kids : Int) (nm num : Bs) (hi : i < t.length) (hl : t.length ≤ 20000) (hn : t.getD i noNode = ⟨15, srt, kids, nm, num⟩) (h1 : i + 1 < so.length) : T (k + 1) 110 [treeP t en so, .int .i64 i] = some (.int .i64 (spV ⟨15, srt, kids, nm, num⟩ so i (en.getD (i + 1) 0)), []) := by
  have hg := nrow_get (t := t) (i := i) hi
  rw [hn] at hg
  have hg : (nrow t)[i]? = some [.int .i64 15, .int .i64 srt, .str nm, .str num, .int .i64 kids] := hg
  unfold treeP
  have e : spV ⟨15, srt, kids, nm, num⟩ so i (en.getD (i + 1) 0) = so.getD (i + 1) 0 := rfl
  have hz := zrow_get (l := so) (i := i + 1) h1
  rw [e]
  generalize so.getD (i + 1) 0 = x at *
  refine enter rfl func110 rfl (by decide) (by kernel_rfl) rfl rfl ?_
  refine zs0 ?_
  refine WX.idxImm tab_eq rfl rfl rfl rfl rfl rfl (by omega) (hg) ?_
  refine zs0 ?_
  rw [wrap_i64 (x := (i : Int) + 1) (by omega) (by omega)]
  refine WX.idxImm tab_eq rfl rfl rfl rfl rfl rfl (by omega) (by rw [show ((i : Int) + 1).toNat = i + 1 by omega]; exact hz) ?_
  refine zs0 ?_
  rfl
theorem spS16 (t : List Node) (en so : List Int) (i : Nat) (srt kids : Int) (nm num : Bs) (hi : i < t.length) (hl : t.length ≤ 20000) (hn : t.getD i noNode = ⟨16, srt, kids, nm, num⟩) : T (k + 1) 110 [treeP t en so, .int .i64 i] = some (.int .i64 (spV ⟨16, srt, kids, nm, num⟩ so i (en.getD (i + 1) 0)), []) := by
  have hg := nrow_get (t := t) (i := i) hi
  rw [hn] at hg
  have hg : (nrow t)[i]? = some [.int .i64 16, .int .i64 srt, .str nm, .str num, .int .i64 kids] := hg
  unfold treeP
  refine enter rfl func110 rfl (by decide) (by kernel_rfl) rfl rfl ?_
  refine zs0 ?_
  refine WX.idxImm tab_eq rfl rfl rfl rfl rfl rfl (by omega) (hg) ?_
  refine zs0 ?_
  rfl
theorem spS17 (t : List Node) (en so : List Int) (i : Nat) (srt kids : Int) (nm num : Bs) (hi : i < t.length) (hl : t.length ≤ 20000) (hn : t.getD i noNode = ⟨17, srt, kids, nm, num⟩) : T (k + 1) 110 [treeP t en so, .int .i64 i] = some (.int .i64 (spV ⟨17, srt, kids, nm, num⟩ so i (en.getD (i + 1) 0)), []) := by
  have hg := nrow_get (t := t) (i := i) hi
  rw [hn] at hg
  have hg : (nrow t)[i]? = some [.int .i64 17, .int .i64 srt, .str nm, .str num, .int .i64 kids] := hg
  unfold treeP
  refine enter rfl func110 rfl (by decide) (by kernel_rfl) rfl rfl ?_
  refine zs0 ?_
  refine WX.idxImm tab_eq rfl rfl rfl rfl rfl rfl (by omega) (hg) ?_
  refine zs0 ?_
  rfl
theorem spS18 (t : List Node) (en so : List Int) (i : Nat) (srt kids : Int) (nm num : Bs) (hi : i < t.length) (hl : t.length ≤ 20000) (hn : t.getD i noNode = ⟨18, srt, kids, nm, num⟩) : T (k + 1) 110 [treeP t en so, .int .i64 i] = some (.int .i64 (spV ⟨18, srt, kids, nm, num⟩ so i (en.getD (i + 1) 0)), []) := by
  have hg := nrow_get (t := t) (i := i) hi
  rw [hn] at hg
  have hg : (nrow t)[i]? = some [.int .i64 18, .int .i64 srt, .str nm, .str num, .int .i64 kids] := hg
  unfold treeP
  refine enter rfl func110 rfl (by decide) (by kernel_rfl) rfl rfl ?_
  refine zs0 ?_
  refine WX.idxImm tab_eq rfl rfl rfl rfl rfl rfl (by omega) (hg) ?_
  refine zs0 ?_
  rfl
theorem spS19 (t : List Node) (en so : List Int) (i : Nat) (srt kids : Int) (nm num : Bs) (hi : i < t.length) (hl : t.length ≤ 20000) (hn : t.getD i noNode = ⟨19, srt, kids, nm, num⟩) : T (k + 1) 110 [treeP t en so, .int .i64 i] = some (.int .i64 (spV ⟨19, srt, kids, nm, num⟩ so i (en.getD (i + 1) 0)), []) := by
  have hg := nrow_get (t := t) (i := i) hi
  rw [hn] at hg
  have hg : (nrow t)[i]? = some [.int .i64 19, .int .i64 srt, .str nm, .str num, .int .i64 kids] := hg
  unfold treeP
  refine enter rfl func110 rfl (by decide) (by kernel_rfl) rfl rfl ?_
  refine zs0 ?_
  refine WX.idxImm tab_eq rfl rfl rfl rfl rfl rfl (by omega) (hg) ?_
  refine zs0 ?_
  rfl
theorem spS20 (t : List Node) (en so : List Int) (i : Nat) (srt kids : Int) (nm num : Bs) (hi : i < t.length) (hl : t.length ≤ 20000) (hn : t.getD i noNode = ⟨20, srt, kids, nm, num⟩) : T (k + 1) 110 [treeP t en so, .int .i64 i] = some (.int .i64 (spV ⟨20, srt, kids, nm, num⟩ so i (en.getD (i + 1) 0)), []) := by
  have hg := nrow_get (t := t) (i := i) hi
  rw [hn] at hg
  have hg : (nrow t)[i]? = some [.int .i64 20, .int .i64 srt, .str nm, .str num, .int .i64 kids] := hg
  unfold treeP
  refine enter rfl func110 rfl (by decide) (by kernel_rfl) rfl rfl ?_
  refine zs0 ?_
  refine WX.idxImm tab_eq rfl rfl rfl rfl rfl rfl (by omega) (hg) ?_
  refine zs0 ?_
  rfl
end Go.PE
namespace Go.PE
open Go.RowKit Go.Proofs.Tryz
set_option maxRecDepth 100000
variable {k : Nat}
theorem whenI_nz {b : Bool} {s : Int} (h : whenI b s ≠ 0) : b = true ∧ whenI b s = s := by
  cases b with
  | true => exact ⟨rfl, rfl⟩
  | false => exact absurd rfl h
theorem sp_val {t : List Node} {ps : List Part} {i m : Nat} (hN : NodeAt t ps i m) (en so : List Int) (hen : ∀ j : Nat, i < j → j < t.length → en.getD j 0 = (ps.getD j noPart).fin) (hso : ∀ j : Nat, i < j → j < t.length → so.getD j 0 = (ps.getD j noPart).sort) :
    spV (t.getD i noNode) so i (en.getD (i + 1) 0) = (ps.getD i noPart).sort := by
  have hs := hN.srt
  have hz := hN.nz
  have hc := hN.cnt
  have hm := hN.mem
  have ho := fields_op hN.flds
  have h1 : 1 ≤ m → so.getD (i + 1) 0 = ((kidsV ps m ((i : Int) + 1)).map fun z => (ps.getD z.toNat noPart).sort).getD 0 0 := fun h => by
    obtain ⟨m', rfl⟩ : ∃ m', m = m' + 1 := ⟨m - 1, by omega⟩
    have hq := hm ((i : Int) + 1) (by simp [kidsV])
    rw [hso (i + 1) (by omega) (by omega)]
    simp only [kidsV, List.map_cons, List.getD_cons_zero]
    rw [show ((i : Int) + 1).toNat = i + 1 by omega]
  have h2 : 2 ≤ m → so.getD (en.getD (i + 1) 0).toNat 0 = ((kidsV ps m ((i : Int) + 1)).map fun z => (ps.getD z.toNat noPart).sort).getD 1 0 := fun h => by
    obtain ⟨m', rfl⟩ : ∃ m', m = m' + 2 := ⟨m - 2, by omega⟩
    have hq := hm ((i : Int) + 1) (by simp [kidsV])
    have e : en.getD (i + 1) 0 = (ps.getD ((i : Int) + 1).toNat noPart).fin := by
      rw [hen (i + 1) (by omega) (by omega), show ((i : Int) + 1).toNat = i + 1 by omega]
    have hq2 := hm (ps.getD ((i : Int) + 1).toNat noPart).fin (by simp [kidsV])
    rw [e, hso _ (by omega) (by omega)]
    simp only [kidsV, List.map_cons, List.getD_cons_succ, List.getD_cons_zero]
  generalize ((kidsV ps m ((i : Int) + 1)).map fun z => (ps.getD z.toNat noPart).sort) = ss at *
  generalize t.getD i noNode = n at *
  obtain ⟨op, srt, kids, nm, num⟩ := n
  simp only at hs hc ho ⊢
  rw [hs] at hz ⊢
  have h3 : op = 1 ∨ op = 2 ∨ op = 3 ∨ op = 4 ∨ op = 5 ∨ op = 6 ∨ op = 7 ∨ op = 8 ∨ op = 9 ∨ op = 10 ∨ op = 11 ∨ op = 12 ∨ op = 13 ∨ op = 14 ∨ op = 15 ∨ op = 16 ∨ op = 17 ∨ op = 18 ∨ op = 19 ∨ op = 20 := by omega
  rcases h3 with rfl | rfl | rfl | rfl | rfl | rfl | rfl | rfl | rfl | rfl | rfl | rfl | rfl | rfl | rfl | rfl | rfl | rfl | rfl | rfl
  · exact (whenI_nz hz).2.symm
  · exact (whenI_nz hz).2.symm
  · rfl
  · rfl
  · rfl
  · exact (whenI_nz hz).2.symm
  · exact (whenI_nz hz).2.symm
  · exact (whenI_nz hz).2.symm
  · exact (whenI_nz hz).2.symm
  · exact (h2 (by simp [countB] at hc; omega)).trans (whenI_nz hz).2.symm
  · exact (whenI_nz hz).2.symm
  · exact (whenI_nz hz).2.symm
  · exact (whenI_nz hz).2.symm
  · exact (h1 (by simp [countB] at hc; omega)).trans (whenI_nz hz).2.symm
  · exact (h1 (by simp [countB] at hc; omega)).trans (whenI_nz hz).2.symm
  · exact (whenI_nz hz).2.symm
  · exact (whenI_nz hz).2.symm
  · exact (whenI_nz hz).2.symm
  · exact (whenI_nz hz).2.symm
  · exact (whenI_nz hz).2.symm
theorem sp_T {t : List Node} {ps : List Part} {i m : Nat} (hN : NodeAt t ps i m) (hi : i < t.length) (hl : t.length ≤ 20000) (en so : List Int) (le : en.length = t.length) (ls : so.length = t.length) (hen : ∀ j : Nat, i < j → j < t.length → en.getD j 0 = (ps.getD j noPart).fin)
    (hso : ∀ j : Nat, i < j → j < t.length → so.getD j 0 = (ps.getD j noPart).sort) : T (k + 1) 110 [treeP t en so, .int .i64 i] = some (.int .i64 (ps.getD i noPart).sort, []) := by
  have hv := sp_val hN en so hen hso
  have ho := fields_op hN.flds
  have hc := hN.cnt
  have hm := hN.mem
  have k1 : 1 ≤ m → i + 1 < t.length := fun h => by
    obtain ⟨m', rfl⟩ : ∃ m', m = m' + 1 := ⟨m - 1, by omega⟩
    have hq := hm ((i : Int) + 1) (by simp [kidsV])
    omega
  have k2 : 2 ≤ m → 0 ≤ en.getD (i + 1) 0 ∧ en.getD (i + 1) 0 < t.length := fun h => by
    have hlt := k1 (by omega)
    obtain ⟨m', rfl⟩ : ∃ m', m = m' + 2 := ⟨m - 2, by omega⟩
    have hq2 := hm (ps.getD ((i : Int) + 1).toNat noPart).fin (by simp [kidsV])
    rw [show ((i : Int) + 1).toNat = i + 1 by omega] at hq2
    rw [hen (i + 1) (by omega) hlt]
    omega
  rw [← hv]
  cases hn : t.getD i noNode with
  | mk op srt kids nm num =>
    rw [hn] at ho hc
    simp only at ho hc
    have h3 : op = 1 ∨ op = 2 ∨ op = 3 ∨ op = 4 ∨ op = 5 ∨ op = 6 ∨ op = 7 ∨ op = 8 ∨ op = 9 ∨ op = 10 ∨ op = 11 ∨ op = 12 ∨ op = 13 ∨ op = 14 ∨ op = 15 ∨ op = 16 ∨ op = 17 ∨ op = 18 ∨ op = 19 ∨ op = 20 := by omega
    rcases h3 with rfl | rfl | rfl | rfl | rfl | rfl | rfl | rfl | rfl | rfl | rfl | rfl | rfl | rfl | rfl | rfl | rfl | rfl | rfl | rfl
    · exact spS1 t en so i srt kids nm num hi hl hn
    · exact spS2 t en so i srt kids nm num hi hl hn
    · exact spS3 t en so i srt kids nm num hi hl hn
    · exact spS4 t en so i srt kids nm num hi hl hn
    · exact spS5 t en so i srt kids nm num hi hl hn
    · exact spS6 t en so i srt kids nm num hi hl hn
    · exact spS7 t en so i srt kids nm num hi hl hn
    · exact spS8 t en so i srt kids nm num hi hl hn
    · exact spS9 t en so i srt kids nm num hi hl hn
    · exact spS10 t en so i srt kids nm num hi hl hn (by rw [le]; exact k1 (by simp [countB] at hc; omega)) (k2 (by simp [countB] at hc; omega)).1 (by rw [ls]; exact (k2 (by simp [countB] at hc; omega)).2)
    · exact spS11 t en so i srt kids nm num hi hl hn
    · exact spS12 t en so i srt kids nm num hi hl hn
    · exact spS13 t en so i srt kids nm num hi hl hn
    · exact spS14 t en so i srt kids nm num hi hl hn (by rw [ls]; exact k1 (by simp [countB] at hc; omega))
    · exact spS15 t en so i srt kids nm num hi hl hn (by rw [ls]; exact k1 (by simp [countB] at hc; omega))
    · exact spS16 t en so i srt kids nm num hi hl hn
    · exact spS17 t en so i srt kids nm num hi hl hn
    · exact spS18 t en so i srt kids nm num hi hl hn
    · exact spS19 t en so i srt kids nm num hi hl hn
    · exact spS20 t en so i srt kids nm num hi hl hn
end Go.PE
namespace Go.PE
open Go.RowKit Go.Proofs.Tryz
set_option maxRecDepth 100000
variable {k : Nat}
def finL (ps : List Part) : List Int := ps.map (·.fin)
def srtL (ps : List Part) : List Int := ps.map (·.sort)
def opnL (ps : List Part) (rs : List Int) : List Int := rs.map fun z => (ps.getD z.toNat noPart).fin
theorem zrep (n : Nat) : List.replicate n [PV.int .i64 0] = zrow (List.replicate n 0) := by simp [zrow]
theorem lk_some {t : List Node} {i : Nat} {qs qs' : List Part} {us us' : List Int} (h : lkStep t i qs us = some (qs', us')) : ∃ (m : Nat) (p : Part), (t.getD i noNode).kids = m ∧ m ≤ us.length ∧ qs' = qs.set i p ∧ us' = us.take (us.length - m) ++ [(i : Int)] := by
  unfold lkStep at h
  simp only at h
  split at h
  · cases h
  · rename_i hb
    split at h
    · cases h
    · cases h
      have hb : badNode (t.getD i noNode) us.length = false := by simpa using hb
      unfold badNode at hb
      simp only [Bool.or_eq_false_iff, decide_eq_false_iff_not] at hb
      refine ⟨(t.getD i noNode).kids.toNat, _, by omega, by omega, rfl, rfl⟩
theorem kids_top {t : List Node} {i m : Nat} {qs : List Part} {us : List Int} (h : LkTree t (i + 1) qs us) (hm : m ≤ us.length) : kidsOf us m = kidsV qs m ((i : Int) + 1) := by
  obtain ⟨c, hc1, _⟩ := chain_append (by rw [← kidsOf_rev us m hm]; exact h.ch)
  have := (chain_kids hc1).1
  rw [kidsOf_len us m hm] at this
  simpa using this
theorem kidsV_get (ps : List Part) {m j : Nat} {a : Int} (h : j < m) : (kidsV ps m a).getD j 0 = endKd ps j a := by
  induction m with
  | zero => omega
  | succ m ih =>
    rw [kidsV_succ]
    by_cases hj : j = m
    · subst hj
      simp [List.getD, List.getElem?_append_right, kidsV_len]
    · have := ih (by omega)
      rw [← this]
      simp [List.getD, List.getElem?_append_left (show j < (kidsV ps m a).length by rw [kidsV_len]; omega)]
theorem pop_get {t : List Node} {i m j : Nat} {qs : List Part} {us : List Int} (h : LkTree t (i + 1) qs us) (hm : m ≤ us.length) (hj : j < m) : (opnL qs us).getD (us.length - j - 1) 0 = endKd qs (j + 1) ((i : Int) + 1) := by
  have h1 := kidsV_get qs (a := (i : Int) + 1) hj
  rw [← kids_top h hm] at h1
  have h2 : (kidsOf us m).getD j 0 = us.getD (us.length - j - 1) 0 := by
    unfold kidsOf
    simp only [List.getD]
    rw [List.getElem?_reverse (by simp; omega), List.getElem?_drop]
    congr 2
    simp
    omega
  rw [h2] at h1
  rw [endKd_succ, ← h1]
  unfold opnL
  simp [List.getD, List.getElem?_eq_getElem (show us.length - j - 1 < us.length by omega)]
theorem finL_set (l : List Part) (i : Nat) (p : Part) : finL (l.set i p) = (finL l).set i p.fin := by simp [finL, List.map_set]
theorem srtL_set (l : List Part) (i : Nat) (p : Part) : srtL (l.set i p) = (srtL l).set i p.sort := by simp [srtL, List.map_set]
theorem finL_get (l : List Part) (i : Nat) : (finL l).getD i 0 = (l.getD i noPart).fin := by
  unfold finL
  simp only [List.getD, List.getElem?_map]
  cases l[i]? <;> rfl
theorem srtL_get (l : List Part) (i : Nat) : (srtL l).getD i 0 = (l.getD i noPart).sort := by
  unfold srtL
  simp only [List.getD, List.getElem?_map]
  cases l[i]? <;> rfl
theorem zset (l : List Int) (i : Nat) (x : Int) : (zrow l).set i [.int .i64 x] = zrow (l.set i x) := by simp [zrow, List.map_set]
section
variable {P : Program} {td : TypeId → TD} {Φ : FuncId → List PV → Option (PV × List (List PV))} {keep : List Nat} {ops : Array Oper} {rid i : Nat} {ty : TypeId} {pos : String} {after : Array Edge} {guard : Option (Nat × Bool)} {r : List Oper} {e : List (Nat × PV)} {acc : Option Lg} {K : List (Nat × PV) → Prop}
theorem WX.callRD (htd : td = tdOf P) {dst : Option Nat} {c : Call} {f : Operand} {g : FuncId} {caps avs : List PV} {rv : PV}
    (hg : guardOf ops { dst := dst, op := .call c, type := ty, pos := pos, after := after, guard := guard } (lookup e) = some true)
    (hcal : c.callee = .value f) (hf : (res (lookup e) f).1 = .func g caps) (hw : (rdB keep dst && !(wrB g || prB g)) = true)
    (ha : viewsR ((c.args.toList.zipIdx).map fun (x, i) => (x, hintT td (c.argTypes.getD i 0) x (res (lookup e) x))) = some avs)
    (hΦ : Φ g (avs ++ caps) = some (rv, [])) (hs : scalar rv = true)
    (k : onUps (dstUps (rid, i) dst rv) e fun e' => WX P Φ keep ops rid (i + 1) r e'
      (nxt acc (foot ops { dst := dst, op := .call c, type := ty, pos := pos, after := after, guard := guard } (lookup e)) (dstUps (rid, i) dst rv)) K) :
    WX P Φ keep ops rid i ({ dst := dst, op := .call c, type := ty, pos := pos, after := after, guard := guard } :: r) e acc K := by
  subst htd
  refine WX.raw hg ?_ k
  rw [Bool.and_eq_true, Bool.not_eq_true'] at hw
  have ha : viewsR ((c.args.toList.zipIdx).map fun (x, i) => (x, hint P (c.argTypes.getD i 0) x (res (lookup e) x))) = some avs := ha
  simp only [sem, hw.1, callR, hcal, hf, hw.2, Bool.false_eq_true, if_false, if_true, ha, hΦ, hs]
end
set_option maxHeartbeats 4000000 in
theorem new_T {t : List Node} {ps : List Part} {rs : List Int} (ht : t.length ≤ 20000) (h : lookV t = some (ps, rs)) : T (k + 2) 81 [.imm 5 (nrow t)] = some (treeP t (finL ps) (srtL ps), []) := by
  unfold treeP
  refine enter rfl func81 rfl (by decide) (by kernel_rfl) rfl rfl ?_
  refine zd8 ?_
  rw [nrow_len]
  refine WX.stepD tab_eq rfl rfl (by refine ⟨?_, ?_⟩ <;> omega) ?_
  refine zd0 ?_
  rw [nrow_len]
  refine WX.stepD tab_eq rfl rfl (by refine ⟨?_, ?_⟩ <;> omega) ?_
  refine zd7 ?_
  rw [nrow_len, wrap_i64 (x := (t.length : Int) - 1) (by omega) (by omega)]
  refine W.loop (fun e m => ∃ (i : Nat) (qs : List Part) (us : List Int), e = [(3, .box (0, 0) [.imm 5 (nrow t), .own (0, 0) 1 (zrow (finL qs)), .own (0, 0) 1 (zrow (srtL qs))]), (0, .imm 5 (nrow t)), (5, .int .i64 ((i : Int) - 1)), (4, .own (0, 0) 1 (zrow (opnL qs us))), (15, .dead), (42, .dead), (54, .dead), (38, .dead)] ∧
    i ≤ t.length ∧ LkTree t i qs us ∧ lkGo t i qs us = some (ps, rs) ∧ m = i + 1) (t.length + 1) ?_ ?_ ?_
  · refine ⟨t.length, List.replicate t.length noPart, [], ?_, Nat.le_refl _, ⟨⟨by simp, by simp, by simp, fun j hj => ?_⟩, rfl, fun j h1 h2 => by omega⟩, h, rfl⟩
    · rw [show finL (List.replicate t.length noPart) = List.replicate t.length 0 by simp [finL, noPart], show srtL (List.replicate t.length noPart) = List.replicate t.length 0 by simp [srtL, noPart], ← zrep]
      rfl
    · simp [List.getD, hj, noPart]
      omega
  · show _ < 4611686018427387904; omega
  · rintro e m ⟨i, qs, us, rfl, hi, hI, hL, rfl⟩
    refine zs0 ?_
    refine W.cond rfl (fun hlt => ?_) (fun hlt => ?_)
    · have hlt := of_decide_eq_true hlt
      obtain ⟨i, rfl⟩ : ∃ i', i = i' + 1 := ⟨i - 1, by omega⟩
      rw [show ((i + 1 : Nat) : Int) - 1 = i by omega]
      obtain ⟨qs', us', hst, hgo⟩ : ∃ qs' us', lkStep t i qs us = some (qs', us') ∧ lkGo t i qs' us' = some (ps, rs) := by
        unfold lkGo at hL
        split at hL
        · rename_i q u he
          exact ⟨q, u, he, hL⟩
        · cases hL
      have hI' := tree_step hI hi hst
      obtain ⟨m, p, hkm, hmu, hq, hu⟩ := lk_some hst
      have hnr := hI.inv.nrs
      have hg := nrow_get (t := t) (i := i) (by omega)
      have hg : (nrow t)[i]? = some [.int .i64 (t.getD i noNode).op, .int .i64 (t.getD i noNode).sort, .str (t.getD i noNode).name, .str (t.getD i noNode).num, .int .i64 m] := by rw [hg, ← hkm]; rfl
      refine zs0 ?_
      rw [wrap_i64 (x := (i : Int) + 1) (by omega) (by omega)]
      refine WX.idxImm tab_eq rfl rfl rfl rfl rfl rfl (by omega) (hg) ?_
      refine zs0 ?_
      have hol : (opnL qs us).length = us.length := by simp [opnL]
      refine W.loop (fun e q => ∃ (j : Nat), e = [(3, .box (0, 0) [.imm 5 (nrow t), .own (0, 0) 1 (zrow (finL qs)), .own (0, 0) 1 (zrow (srtL qs))]), (0, .imm 5 (nrow t)), (5, .int .i64 i), (29, .int .i64 m), (30, .int .i64 j), (4, .own (0, 0) 1 (zrow ((opnL qs us).take (us.length - j)))), (6, .int .i64 (endKd qs j ((i : Int) + 1))), (15, .dead), (42, .dead), (54, .dead), (38, .dead)] ∧
        j ≤ m ∧ q = m - j) m ?_ ?_ ?_
      · refine ⟨0, ?_, by omega, by omega⟩
        rw [Nat.sub_zero, ← hol, List.take_length]
        rfl
      · show _ < 4611686018427387904; omega
      · rintro e q ⟨j, rfl, hj, rfl⟩
        refine zs0 ?_
        refine W.cond rfl (fun hjm => ?_) (fun hjm => ?_)
        · have hjm := of_decide_eq_true hjm
          have hpg := pop_get (j := j) hI hmu (by omega)
          have hzg : (zrow ((opnL qs us).take (us.length - j)))[us.length - j - 1]? = some [.int .i64 (endKd qs (j + 1) ((i : Int) + 1))] := by
            have := zrow_get (l := (opnL qs us).take (us.length - j)) (i := us.length - j - 1) (by rw [List.length_take]; omega)
            rw [this, ← hpg]
            simp only [List.getD]
            rw [List.getElem?_take_of_lt (by omega)]
          have hzl : (zrow ((opnL qs us).take (us.length - j))).length = us.length - j := by rw [zrow_len, List.length_take]; omega
          refine zs0 ?_
          rw [hzl, wrap_i64 (x := ((us.length - j : Nat) : Int) - 1) (by omega) (by omega), show ((us.length - j : Nat) : Int) - 1 = ((us.length - j - 1 : Nat) : Int) by omega]
          refine WX.step tab_eq rfl rfl (by omega) ?_
          refine zs0 ?_
          refine WX.ldElem tab_eq rfl rfl rfl (by rw [Int.toNat_natCast]; first | exact hzg | (rw [Nat.zero_add]; exact hzg)) rfl rfl rfl rfl ?_
          refine zs0 ?_
          rw [hzl, wrap_i64 (x := ((us.length - j : Nat) : Int) - 1) (by omega) (by omega), show ((us.length - j : Nat) : Int) - 1 = ((us.length - j - 1 : Nat) : Int) by omega]
          refine WX.step tab_eq rfl rfl (by omega) ?_
          refine zs0 ?_
          rw [wrap_i64 (x := (j : Int) + 1) (by omega) (by omega)]
          refine zs0 ?_
          refine ⟨m - (j + 1), by omega, j + 1, ?_, by omega, rfl⟩
          rw [show us.length - (j + 1) = us.length - j - 1 by omega]
          have e : List.take (us.length - j - 1) (List.take (us.length - j) (opnL qs us)) = List.take (us.length - j - 1) (opnL qs us) := by rw [List.take_take, Nat.min_eq_left (by omega)]
          rw [← e, ← ztake (List.take (us.length - j) (opnL qs us)) (us.length - j - 1)]
          rfl
        · have hjm := of_decide_eq_false hjm
          have : j = m := by omega
          subst this
          have hfl : (finL qs).length = t.length := by simp [finL]; exact hI.inv.len
          have hsl : (srtL qs).length = t.length := by simp [srtL]; exact hI.inv.len
          have hil : i < t.length := by omega
          obtain ⟨m', hN⟩ := hI'.nodes i (by omega) hil
          have hpq : i < qs.length := by rw [hI.inv.len]; omega
          have hkz : ∀ z ∈ kidsV qs j ((i : Int) + 1), (i : Int) < z := by
            rw [← kids_top hI hmu]
            intro z hz
            unfold kidsOf at hz
            have := hI.inv.rts z (List.mem_of_mem_drop (List.mem_reverse.1 hz))
            omega
          have hfp : endKd qs j ((i : Int) + 1) = p.fin := by
            have h1 := hN.fin
            have h2 : m' = j := by have := hN.kids; omega
            rw [h2, hq, part_set_eq hpq, (kids_set hkz).2] at h1
            exact h1.symm
          have hsp : (qs'.getD i noPart).sort = p.sort := by rw [hq, part_set_eq hpq]
          have hen : ∀ j : Nat, i < j → j < t.length → ((finL qs).set i p.fin).getD j 0 = (qs'.getD j noPart).fin := fun j h1 h2 => by
            rw [← finL_set, ← hq, finL_get]
          have hso : ∀ j : Nat, i < j → j < t.length → (srtL qs).getD j 0 = (qs'.getD j noPart).sort := fun j h1 h2 => by
            rw [srtL_get, hq, part_set_ne (by omega)]
          rw [hfp]
          refine zs0 ?_
          refine WX.step tab_eq rfl rfl (by simp [zrow_len] <;> omega) ?_
          refine zs0 ?_
          refine WX.stElem tab_eq rfl rfl rfl (by rw [Nat.zero_add, Int.toNat_natCast]; exact zrow_get (by omega)) rfl rfl rfl ?_
          refine zs0 ?_
          refine WX.step tab_eq rfl rfl (by simp [zrow_len] <;> omega) ?_
          refine zs0 ?_
          rw [Int.toNat_natCast, Nat.zero_add i, zset, List.take_length, zsnoc]
          refine zd0 ?_
          refine WX.callRD tab_eq rfl rfl rfl rfl rfl (sp_T (k := k) hN hil ht _ _ (by simp [hfl]) hsl hen hso) ?_ ?_
          · rfl
          refine zd0 ?_
          refine WX.stepD tab_eq rfl rfl (by simp [zrow_len] <;> omega) ?_
          refine zd0 ?_
          refine WX.stElemD tab_eq rfl rfl rfl (by rw [Nat.zero_add, Int.toNat_natCast]; exact zrow_get (by omega)) rfl rfl rfl ?_
          refine zd7 ?_
          rw [wrap_i64 (x := (i : Int) - 1) (by omega) (by omega), Int.toNat_natCast, Nat.zero_add i, zset, hsp]
          refine ⟨i + 1, by omega, i, qs', us', ?_, by omega, hI', hgo, rfl⟩
          have eo : opnL qs' us' = List.take (us.length - j) (opnL qs us) ++ [p.fin] := by
            unfold opnL
            rw [hu, List.map_append, List.map_take]
            congr 1
            · refine congrArg _ (List.map_congr_left fun z hz => ?_)
              rw [hq, part_set_ne (by have := hI.inv.rts z hz; omega)]
            · rw [hq, List.map_cons, List.map_nil, Int.toNat_natCast, part_set_eq hpq]
          rw [eo, hq, finL_set, srtL_set]
          rfl
    · have hlt := of_decide_eq_false hlt
      have : i = 0 := by omega
      subst this
      have hL : qs = ps := by
        have : some (qs, us) = some (ps, rs) := hL
        cases this
        rfl
      subst hL
      refine zs0 ?_
      rfl
end Go.PE
namespace Go.PE
open Go.RowKit Go.Proofs.Tryz
set_option maxRecDepth 100000
variable {k : Nat}
/-! ### spans: Connective, Kids -/
def connB (t : List Node) (ps : List Part) (i : Nat) : Bool :=
  let o := (t.getD i noNode).op
  if o = 1 ∨ o = 2 ∨ o = 6 ∨ o = 7 ∨ o = 8 ∨ o = 9 then true else if o = 10 then decide ((ps.getD i noPart).sort = 1) else if o = 11 then decide ((ps.getD (i + 1) noPart).sort = 1) else false
set_option maxHeartbeats 4000000 in
theorem conn_T {t : List Node} {ps : List Part} {i m : Nat} (hN : NodeAt t ps i m) (hi : i < t.length) (hl : t.length ≤ 20000) (hp : ps.length = t.length) : T (k + 1) 34 [treeP t (finL ps) (srtL ps), .int .i64 i] = some (.bool (connB t ps i), []) := by
  have hg := nrow_get (t := t) (i := i) hi
  have hc := hN.cnt
  have ho := fields_op hN.flds
  have hm := hN.mem
  have hk := hN.kids
  have hcb : connB t ps i = (if (t.getD i noNode).op = 1 ∨ (t.getD i noNode).op = 2 ∨ (t.getD i noNode).op = 6 ∨ (t.getD i noNode).op = 7 ∨ (t.getD i noNode).op = 8 ∨ (t.getD i noNode).op = 9 then true else if (t.getD i noNode).op = 10 then decide ((ps.getD i noPart).sort = 1) else if (t.getD i noNode).op = 11 then decide ((ps.getD (i + 1) noPart).sort = 1) else false) := rfl
  have hls : (srtL ps).length = t.length := by simp [srtL, hp]
  have hz := zrow_get (l := srtL ps) (i := i) (by omega)
  rw [srtL_get] at hz
  have h11 : (t.getD i noNode).op = 11 → i + 1 < t.length ∧ (zrow (srtL ps))[i + 1]? = some [.int .i64 (ps.getD (i + 1) noPart).sort] := fun h => by
    rw [h] at hc
    obtain ⟨m', rfl⟩ : ∃ m', m = m' + 1 := ⟨m - 1, by simp [countB] at hc; omega⟩
    have hq := hm ((i : Int) + 1) (by simp [kidsV])
    refine ⟨by omega, ?_⟩
    have hz := zrow_get (l := srtL ps) (i := i + 1) (by omega)
    rw [srtL_get] at hz
    exact hz
  rw [hcb]
  generalize t.getD i noNode = n at *
  obtain ⟨op, srt, kids, nm, num⟩ := n
  simp only at h11 ⊢
  have hg : (nrow t)[i]? = some [.int .i64 op, .int .i64 srt, .str nm, .str num, .int .i64 kids] := hg
  unfold treeP
  have h3 : op = 10 ∨ op = 11 ∨ op = 1 ∨ op = 2 ∨ op = 3 ∨ op = 4 ∨ op = 5 ∨ op = 6 ∨ op = 7 ∨ op = 8 ∨ op = 9 ∨ op = 12 ∨ op = 13 ∨ op = 14 ∨ op = 15 ∨ op = 16 ∨ op = 17 ∨ op = 18 ∨ op = 19 ∨ op = 20 := by simp only at ho; omega
  refine enter rfl func34 rfl (by decide) (by kernel_rfl) rfl rfl ?_
  rcases h3 with rfl | rfl | h3
  · refine zs0 ?_
    refine WX.idxImm tab_eq rfl rfl rfl rfl rfl rfl (by omega) (hg) ?_
    refine zs0 ?_
    refine WX.idxImm tab_eq rfl rfl rfl rfl rfl rfl (by omega) (hz) ?_
    refine zs0 ?_
    rfl
  · obtain ⟨h1, h2⟩ := h11 rfl
    refine zs0 ?_
    refine WX.idxImm tab_eq rfl rfl rfl rfl rfl rfl (by omega) (hg) ?_
    refine zs0 ?_
    rw [wrap_i64 (x := (i : Int) + 1) (by omega) (by omega)]
    refine WX.idxImm tab_eq rfl rfl rfl rfl rfl rfl (by omega) (by rw [show ((i : Int) + 1).toNat = i + 1 by omega]; exact h2) ?_
    refine zs0 ?_
    rfl
  · rcases h3 with rfl | rfl | rfl | rfl | rfl | rfl | rfl | rfl | rfl | rfl | rfl | rfl | rfl | rfl | rfl | rfl | rfl | rfl
    all_goals repeat (first | refine WX.step tab_eq rfl rfl trivial ?_ | refine WX.step tab_eq rfl rfl (by decide) ?_ | refine WX.nil ?_ | refine W.seq ?_ | refine W.region ?_ | refine W.regionD ?_ | refine W.block ?_ | refine W.skip ?_ | refine W.exit ?_ | refine W.ret ?_ | refine W.condT rfl ?_ | refine W.condF rfl ?_ | refine WX.skip rfl ?_)
    all_goals refine WX.idxImm tab_eq rfl rfl rfl rfl rfl rfl (by omega) (hg) ?_
    all_goals repeat (first | refine WX.step tab_eq rfl rfl trivial ?_ | refine WX.step tab_eq rfl rfl (by decide) ?_ | refine WX.nil ?_ | refine W.seq ?_ | refine W.region ?_ | refine W.regionD ?_ | refine W.block ?_ | refine W.skip ?_ | refine W.exit ?_ | refine W.ret ?_ | refine W.condT rfl ?_ | refine W.condF rfl ?_ | refine WX.skip rfl ?_)
    all_goals rfl
theorem endKd_ge (ps : List Part) : ∀ (m : Nat) (a : Int), (∀ z ∈ kidsV ps m a, z < (ps.getD z.toNat noPart).fin) → a + m ≤ endKd ps m a
  | 0, a, _ => by simp [endKd]
  | m + 1, a, h => by
    have h1 := h a (by simp [kidsV])
    have h2 := endKd_ge ps m (ps.getD a.toNat noPart).fin fun z hz => h z (by rw [kidsV]; exact List.mem_cons_of_mem _ hz)
    rw [endKd]
    omega
theorem LkTree.few {t : List Node} {ps : List Part} {rs : List Int} {i m : Nat} (hI : LkTree t 0 ps rs) (hN : NodeAt t ps i m) : (i : Int) + 1 + m ≤ (ps.getD i noPart).fin := by
  rw [hN.fin]
  refine endKd_ge ps m _ fun z hz => ?_
  obtain ⟨h1, h2⟩ := hN.mem z hz
  obtain ⟨m', hN'⟩ := hI.nodes z.toNat (by omega) (by omega)
  have := hN'.lt
  omega
set_option maxHeartbeats 4000000 in
theorem skids_T {t : List Node} {ps : List Part} {i m : Nat} (hN : NodeAt t ps i m) (hi : i < t.length) (hl : t.length ≤ 20000) (hp : ps.length = t.length) (hml : m ≤ 20000) : T (k + 1) 112 [treeP t (finL ps) (srtL ps), .int .i64 i] = some (.own (0, 0) 1 (zrow (kidsV ps m ((i : Int) + 1))), []) := by
  have hg := nrow_get (t := t) (i := i) hi
  have hk := hN.kids
  have hm := hN.mem
  have hg : (nrow t)[i]? = some [.int .i64 (t.getD i noNode).op, .int .i64 (t.getD i noNode).sort, .str (t.getD i noNode).name, .str (t.getD i noNode).num, .int .i64 m] := by rw [hg, ← hk]; rfl
  have h : ∀ z ∈ kidsV ps m ((i : Int) + 1), 0 ≤ z ∧ z < ps.length := fun z hz => by have := hm z hz; omega
  generalize t.getD i noNode = n at hg
  have hfl : (finL ps).length = ps.length := by simp [finL]
  unfold treeP
  refine enter rfl func112 rfl (by decide) (by kernel_rfl) rfl rfl ?_
  refine zs0 ?_
  refine WX.idxImm tab_eq rfl rfl rfl rfl rfl rfl (by omega) (hg) ?_
  refine zs0 ?_
  refine WX.step tab_eq rfl rfl (by refine ⟨?_, ?_⟩ <;> omega) ?_
  refine zs0 ?_
  rw [wrap_i64 (x := (i : Int) + 1) (by omega) (by omega)]
  rw [show (List.replicate ((m : Int)).toNat (List.map frzC [PV.int .i64 0])) = zrow (List.replicate m 0) by rw [Int.toNat_natCast]; exact zrep m, zrow_len, List.length_replicate]
  refine W.loop (fun e q => ∃ (j : Nat), e = [(0, .iptr [.imm 5 (nrow t), .imm 1 (zrow (finL ps)), .imm 1 (zrow (srtL ps))] 0), (5, .own (0, 0) 1 (zrow (kidsV ps j ((i : Int) + 1) ++ List.replicate (m - j) 0))), (20, .int .i64 m), (21, .int .i64 j), (6, .int .i64 (endKd ps j ((i : Int) + 1))), (16, .dead)] ∧ j ≤ m ∧ q = m - j) m ?_ ?_ ?_
  · exact ⟨0, rfl, by omega, by omega⟩
  · show _ < 4611686018427387904; omega
  · rintro e q ⟨j, rfl, hj, rfl⟩
    refine zs0 ?_
    refine W.cond rfl (fun hlt => ?_) (fun hlt => ?_)
    · have hlt := of_decide_eq_true hlt
      have hz := h _ (kidsV_mem ps (a := (i : Int) + 1) (show j < m by omega))
      have h1 := kidsV_succ ps j ((i : Int) + 1)
      have h2 := endKd_succ ps j ((i : Int) + 1)
      have hkl := kidsV_len ps j ((i : Int) + 1)
      generalize endKd ps j ((i : Int) + 1) = z at *
      have hzl : (kidsV ps j ((i : Int) + 1) ++ List.replicate (m - j) 0).length = m := by simp [hkl]; omega
      have hst : (kidsV ps j ((i : Int) + 1) ++ List.replicate (m - j) 0).set j z = kidsV ps (j + 1) ((i : Int) + 1) ++ List.replicate (m - (j + 1)) 0 := by
        rw [h1, List.set_append_right _ _ (by omega), hkl, Nat.sub_self, List.append_assoc]
        obtain ⟨d, hd⟩ : ∃ d, m - j = d + 1 := ⟨m - j - 1, by omega⟩
        rw [hd, show m - (j + 1) = d by omega]
        rfl
      have hpg := zrow_get (l := finL ps) (i := z.toNat) (by omega)
      rw [finL_get, ← h2] at hpg
      refine zs0 ?_
      refine WX.step tab_eq rfl rfl (by simp only [zrow_len]; omega) ?_
      refine zs0 ?_
      refine WX.stElem tab_eq rfl rfl rfl (by rw [Nat.zero_add, Int.toNat_natCast]; exact zrow_get (by omega)) rfl rfl rfl ?_
      refine zs0 ?_
      refine WX.idxImm tab_eq rfl rfl rfl rfl rfl rfl (by omega) (hpg) ?_
      refine zs0 ?_
      rw [wrap_i64 (x := (j : Int) + 1) (by omega) (by omega), Int.toNat_natCast, Nat.zero_add j, zset, hst]
      show ∃ m', _
      exact ⟨m - (j + 1), by omega, j + 1, rfl, by omega, rfl⟩
    · have hlt := of_decide_eq_false hlt
      have : j = m := by omega
      subst this
      rw [Nat.sub_self]
      refine zs0 ?_
      rw [List.replicate_zero, List.append_nil, List.take_length]
      show some _ = some _
      rfl
end Go.PE
namespace Go.PE
open Go.RowKit Go.Proofs.Tryz
set_option maxRecDepth 100000
/-! ### Keys -/
def nkey (n : Node) : Bs := decN n.op.toNat ++ 32 :: (decN n.sort.toNat ++ 32 :: (decN n.kids.toNat ++ 32 :: (n.name ++ 32 :: (n.num ++ [10]))))
def finN (ps : List Part) (i : Nat) : Nat := (ps.getD i noPart).fin.toNat
def keyS (t : List Node) (ps : List Part) (i : Nat) : Bs := ((t.take (finN ps i)).drop i).flatMap nkey
def pl (t : List Node) (j : Nat) : Nat := ((t.take j).flatMap nkey).length
theorem pl_succ {t : List Node} {j : Nat} (h : j < t.length) : pl t j < pl t (j + 1) := by
  unfold pl
  rw [List.take_add_one, List.flatMap_append, List.length_append, List.getElem?_eq_getElem h]
  simp [nkey]
  omega
theorem pl_mono {t : List Node} {a b : Nat} (h : a ≤ b) (hb : b ≤ t.length) : pl t a ≤ pl t b := by
  induction b with
  | zero => rw [show a = 0 by omega]; exact Nat.le_refl _
  | succ b ih =>
    by_cases e : a = b + 1
    · rw [e]; exact Nat.le_refl _
    · exact Nat.le_trans (ih (by omega) (by omega)) (Nat.le_of_lt (pl_succ (by omega)))
theorem keyS_len {t : List Node} {ps : List Part} {i : Nat} (h : i ≤ finN ps i) : (keyS t ps i).length + pl t i = pl t (finN ps i) := by
  have e : t.take (finN ps i) = t.take i ++ (t.take (finN ps i)).drop i := by
    have := (List.take_append_drop i (t.take (finN ps i))).symm
    rwa [List.take_take, Nat.min_eq_left h] at this
  unfold pl keyS
  conv => rhs; rw [e]
  rw [List.flatMap_append, List.length_append]
  omega
theorem kids_le (ps : List Part) : ∀ (m : Nat) (a : Int), (∀ z ∈ kidsV ps m a, z < (ps.getD z.toNat noPart).fin) → ∀ z ∈ kidsV ps m a, (ps.getD z.toNat noPart).fin ≤ endKd ps m a
  | 0, _, _, z, hz => by cases hz
  | m + 1, a, h, z, hz => by
    have h' : ∀ y ∈ kidsV ps m (ps.getD a.toNat noPart).fin, y < (ps.getD y.toNat noPart).fin := fun y hy => h y (by rw [kidsV]; exact List.mem_cons_of_mem _ hy)
    rw [kidsV] at hz
    rw [endKd]
    rcases List.mem_cons.1 hz with rfl | hz
    · have := endKd_ge ps m (ps.getD z.toNat noPart).fin h'
      omega
    · exact kids_le ps m _ h' z hz
section
variable {t : List Node} {ps : List Part} {rs : List Int}
theorem LkTree.lt {z : Int} (hI : LkTree t 0 ps rs) (h0 : 0 ≤ z) (h1 : z < t.length) : z < (ps.getD z.toNat noPart).fin ∧ (ps.getD z.toNat noPart).fin ≤ t.length := by
  obtain ⟨m, hN⟩ := hI.nodes z.toNat (by omega) (by omega)
  have h2 := hN.lt
  have h3 := hN.le
  omega
theorem LkTree.kid {i m : Nat} (hI : LkTree t 0 ps rs) (hN : NodeAt t ps i m) {z : Int} (hz : z ∈ kidsV ps m ((i : Int) + 1)) : (i : Int) < z ∧ z < t.length ∧ z.toNat < finN ps z.toNat ∧ finN ps z.toNat ≤ finN ps i ∧ finN ps i ≤ t.length := by
  obtain ⟨h1, h2⟩ := hN.mem z hz
  have h3 := kids_le ps m _ (fun y hy => by obtain ⟨a, b⟩ := hN.mem y hy; exact (hI.lt (by omega) b).1) z hz
  rw [← hN.fin] at h3
  have h4 := hI.lt (by omega) h2
  have h5 := hN.le
  unfold finN
  omega
theorem LkTree.key_kid {i m : Nat} (hI : LkTree t 0 ps rs) (hN : NodeAt t ps i m) (hi : i < t.length) {z : Int} (hz : z ∈ kidsV ps m ((i : Int) + 1)) : (keyS t ps z.toNat).length < (keyS t ps i).length := by
  obtain ⟨h1, h2, h3, h4, h5⟩ := hI.kid hN hz
  have e1 := keyS_len (t := t) (ps := ps) (i := z.toNat) (by omega)
  have e2 := keyS_len (t := t) (ps := ps) (i := i) (by omega)
  have e3 := pl_succ (t := t) (j := i) hi
  have e4 := pl_mono (t := t) (a := i + 1) (b := z.toNat) (by omega) (by omega)
  have e5 := pl_mono (t := t) (a := finN ps z.toNat) (b := finN ps i) (by omega) (by omega)
  omega
end
/-! ### The encoder -/
structure Enc where
  ky : List Bs
  fs : List Nat
  kd : List (List Int)
def findK : List Bs → Bs → Option Nat
  | [], _ => none
  | y :: l, x => if y = x then some 0 else (findK l x).map (· + 1)
theorem findK_some : ∀ {l : List Bs} {x : Bs} {v : Nat}, findK l x = some v → v < l.length ∧ l.getD v [] = x
  | [], _, _, h => by cases h
  | y :: l, x, v, h => by
    unfold findK at h
    split at h
    · rename_i e
      cases h
      exact ⟨by simp, e⟩
    · cases hf : findK l x with
      | none => rw [hf] at h; cases h
      | some w =>
        rw [hf] at h
        cases h
        obtain ⟨h1, h2⟩ := findK_some hf
        exact ⟨by simp only [List.length_cons]; omega, by simpa using h2⟩
def kidsL (f : Nat → Enc → Int × Enc) : List Int → Enc → List Int × Enc
  | [], S => ([], S)
  | z :: l, S => ((f z.toNat S).1 :: (kidsL f l (f z.toNat S).2).1, (kidsL f l (f z.toNat S).2).2)
theorem kidsL_snoc (f : Nat → Enc → Int × Enc) (z : Int) : ∀ (l : List Int) (S : Enc), kidsL f (l ++ [z]) S = ((kidsL f l S).1 ++ [(f z.toNat (kidsL f l S).2).1], (f z.toNat (kidsL f l S).2).2)
  | [], S => rfl
  | y :: l, S => by
    rw [List.cons_append, kidsL, kidsL_snoc f z l, kidsL]
    rfl
def Enc.add (S : Enc) (k : Bs) (i : Nat) : Enc := ⟨S.ky ++ [k], S.fs ++ [i], S.kd ++ [[]]⟩
def Enc.put (S : Enc) (v : Nat) (l : List Int) : Enc := ⟨S.ky, S.fs, S.kd.set v l⟩
def litV (t : List Node) (ps : List Part) : Nat → Nat → Enc → Int × Enc
  | 0, _, S => (0, S)
  | n + 1, i, S =>
    if (t.getD i noNode).op = 6 then (-(litV t ps n (i + 1) S).1, (litV t ps n (i + 1) S).2)
    else match findK S.ky (keyS t ps i) with
      | some v => ((v : Int) + 1, S)
      | none =>
        if connB t ps i then
          ((S.ky.length : Int) + 1, (kidsL (litV t ps n) (kidsV ps (t.getD i noNode).kids.toNat ((i : Int) + 1)) (S.add (keyS t ps i) i)).2.put S.ky.length (kidsL (litV t ps n) (kidsV ps (t.getD i noNode).kids.toNat ((i : Int) + 1)) (S.add (keyS t ps i) i)).1)
        else ((S.ky.length : Int) + 1, S.add (keyS t ps i) i)
structure EncI (t : List Node) (ps : List Part) (S : Enc) : Prop where
  l1 : S.fs.length = S.ky.length
  l2 : S.kd.length = S.ky.length
  at' : ∀ v, v < S.ky.length → S.fs.getD v 0 < t.length ∧ S.ky.getD v [] = keyS t ps (S.fs.getD v 0) ∧ (t.getD (S.fs.getD v 0) noNode).op ≠ 6
/-- A literal of a variable with a key of at most L bytes. -/
def okX (S : Enc) (L : Nat) (x : Int) : Prop := x ≠ 0 ∧ x.natAbs ≤ S.ky.length ∧ (S.ky.getD (x.natAbs - 1) []).length ≤ L
def Full (t : List Node) (ps : List Part) (S : Enc) (v : Nat) : Prop :=
  if connB t ps (S.fs.getD v 0) = true then (S.kd.getD v []).length = (t.getD (S.fs.getD v 0) noNode).kids.toNat ∧ ∀ x ∈ S.kd.getD v [], okX S ((keyS t ps (S.fs.getD v 0)).length - 1) x
  else S.kd.getD v [] = []
structure Ext (S S' : Enc) : Prop where
  le : S.ky.length ≤ S'.ky.length
  same : ∀ v, v < S.ky.length → S'.ky.getD v [] = S.ky.getD v [] ∧ S'.fs.getD v 0 = S.fs.getD v 0 ∧ S'.kd.getD v [] = S.kd.getD v []
theorem Ext.refl (S : Enc) : Ext S S := ⟨Nat.le_refl _, fun _ _ => ⟨rfl, rfl, rfl⟩⟩
theorem Ext.trans {S S' S'' : Enc} (h : Ext S S') (h' : Ext S' S'') : Ext S S'' := ⟨Nat.le_trans h.le h'.le, fun v hv => by
  obtain ⟨a, b, c⟩ := h.same v hv
  obtain ⟨a', b', c'⟩ := h'.same v (Nat.lt_of_lt_of_le hv h.le)
  exact ⟨a'.trans a, b'.trans b, c'.trans c⟩⟩
theorem okX.ext {S S' : Enc} {L L' : Nat} {x : Int} (h : okX S L x) (he : Ext S S') (hL : L ≤ L') : okX S' L' x := by
  obtain ⟨h1, h2, h3⟩ := h
  refine ⟨h1, Nat.le_trans h2 he.le, ?_⟩
  rw [(he.same (x.natAbs - 1) (by omega)).1]
  omega
theorem okX.neg {S : Enc} {L : Nat} {x : Int} (h : okX S L x) : okX S L (-x) := by
  obtain ⟨h1, h2, h3⟩ := h
  rw [okX, Int.natAbs_neg]
  exact ⟨by omega, h2, h3⟩
theorem Full.ext {t : List Node} {ps : List Part} {S S' : Enc} {v : Nat} (h : Full t ps S v) (he : Ext S S') (hv : v < S.ky.length) : Full t ps S' v := by
  obtain ⟨a, b, c⟩ := he.same v hv
  unfold Full at *
  rw [b, c]
  split at h
  · rename_i h0
    rw [if_pos h0]
    exact ⟨h.1, fun x hx => (h.2 x hx).ext he (Nat.le_refl _)⟩
  · rename_i h0
    rw [if_neg h0]
    exact h
theorem add_ext (S : Enc) (k : Bs) (i : Nat) (h1 : S.fs.length = S.ky.length) (h2 : S.kd.length = S.ky.length) : Ext S (S.add k i) := by
  refine ⟨by simp [Enc.add], fun v hv => ?_⟩
  simp [Enc.add, List.getD, List.getElem?_append_left, h1, h2, hv]
theorem put_len (S : Enc) (v : Nat) (l : List Int) : (S.put v l).kd.length = S.kd.length := by simp [Enc.put]
/-- What literal does. -/
structure LitOk (t : List Node) (ps : List Part) (S : Enc) (L n : Nat) (x : Int) (S' : Enc) : Prop where
  inv : EncI t ps S'
  ext : Ext S S'
  full : ∀ v, S.ky.length ≤ v → v < S'.ky.length → Full t ps S' v
  lit : okX S' L x
  len : S'.ky.length ≤ S.ky.length + n
theorem kidsL_ok {t : List Node} {ps : List Part} {f : Nat → Enc → Int × Enc} {L : Nat} : ∀ (m : Nat) (a : Int) (S : Enc), EncI t ps S →
    (∀ z ∈ kidsV ps m a, (0 ≤ z ∧ z < (ps.getD z.toNat noPart).fin) ∧ ∀ S, EncI t ps S → LitOk t ps S L ((ps.getD z.toNat noPart).fin - z).toNat (f z.toNat S).1 (f z.toNat S).2) →
    EncI t ps (kidsL f (kidsV ps m a) S).2 ∧ Ext S (kidsL f (kidsV ps m a) S).2 ∧ (∀ v, S.ky.length ≤ v → v < (kidsL f (kidsV ps m a) S).2.ky.length → Full t ps (kidsL f (kidsV ps m a) S).2 v) ∧
      (kidsL f (kidsV ps m a) S).1.length = m ∧ (∀ x ∈ (kidsL f (kidsV ps m a) S).1, okX (kidsL f (kidsV ps m a) S).2 L x) ∧ (kidsL f (kidsV ps m a) S).2.ky.length ≤ S.ky.length + (endKd ps m a - a).toNat ∧ a ≤ endKd ps m a
  | 0, a, S, hS, _ => ⟨hS, Ext.refl S, fun v h1 h2 => absurd h2 (by simp [kidsV, kidsL]; omega), rfl, fun x hx => (by cases hx), by simp [kidsV, kidsL], by simp [endKd]⟩
  | m + 1, a, S, hS, h => by
    obtain ⟨⟨p1, p2⟩, ha⟩ := h a (by simp [kidsV])
    have hb := ha S hS
    obtain ⟨q1, q2, q3, q4, q5, q6, q7⟩ := kidsL_ok (f := f) (L := L) m (ps.getD a.toNat noPart).fin (f a.toNat S).2 hb.inv fun z hz => h z (by rw [kidsV]; exact List.mem_cons_of_mem _ hz)
    rw [kidsV, kidsL, endKd]
    refine ⟨q1, hb.ext.trans q2, fun v h1 h2 => ?_, by rw [List.length_cons, q4], fun x hx => ?_, ?_, by omega⟩
    · by_cases hv : v < (f a.toNat S).2.ky.length
      · exact (hb.full v h1 hv).ext q2 hv
      · exact q3 v (by omega) h2
    · rcases List.mem_cons.1 hx with rfl | hx
      · exact hb.lit.ext q2 (Nat.le_refl _)
      · exact q5 x hx
    · have := hb.len
      simp only at *
      omega
theorem getD_last {α : Type} (l : List α) (x d : α) {n : Nat} (h : l.length = n) : (l ++ [x]).getD n d = x := by
  subst h
  simp [List.getD]
theorem add_inv {t : List Node} {ps : List Part} {S : Enc} {i : Nat} (hS : EncI t ps S) (hi : i < t.length) (h6 : ¬ (t.getD i noNode).op = 6) : EncI t ps (S.add (keyS t ps i) i) := by
  have l1 := hS.l1
  have l2 := hS.l2
  have he := add_ext S (keyS t ps i) i l1 l2
  refine ⟨by simp [Enc.add, l1], by simp [Enc.add, l2], fun v hv => ?_⟩
  have hal : (S.add (keyS t ps i) i).ky.length = S.ky.length + 1 := by simp [Enc.add]
  by_cases hvl : v < S.ky.length
  · obtain ⟨a, b, c⟩ := he.same v hvl
    rw [a, b]
    exact hS.at' v hvl
  · obtain rfl : v = S.ky.length := by omega
    simp only [Enc.add]
    rw [getD_last _ _ _ l1, getD_last _ _ _ rfl]
    exact ⟨hi, rfl, h6⟩
theorem litV_ok {t : List Node} {ps : List Part} {rs : List Int} (hI : LkTree t 0 ps rs) : ∀ (n i : Nat) (S : Enc), t.length - i < n → i < t.length → EncI t ps S → LitOk t ps S (keyS t ps i).length (finN ps i - i) (litV t ps n i S).1 (litV t ps n i S).2
  | 0, i, S, h, _, _ => by omega
  | n + 1, i, S, hn, hi, hS => by
    obtain ⟨m, hN⟩ := hI.nodes i (by omega) hi
    have hlt := hN.lt
    have hfi : i + 1 ≤ finN ps i := by unfold finN; omega
    have hkm : (t.getD i noNode).kids.toNat = m := by rw [hN.kids]; simp
    have hkid := fun z => hI.kid hN (z := z)
    have hkk := fun z => hI.key_kid hN hi (z := z)
    unfold litV
    split
    · rename_i h6
      have hc := hN.cnt
      rw [h6] at hc
      obtain rfl : m = 1 := by simp [countB] at hc; omega
      have hz : (i : Int) + 1 ∈ kidsV ps 1 ((i : Int) + 1) := by simp [kidsV]
      obtain ⟨h1, h2, h3, h4, h5⟩ := hkid _ hz
      have h7 := hkk _ hz
      rw [show ((i : Int) + 1).toNat = i + 1 by omega] at h3 h4 h7
      have ih := litV_ok hI n (i + 1) S (by omega) (by omega) hS
      exact ⟨ih.inv, ih.ext, ih.full, (ih.lit.ext (Ext.refl _) (by omega)).neg, Nat.le_trans ih.len (by omega)⟩
    · rename_i h6
      split
      · rename_i v hf
        obtain ⟨h1, h2⟩ := findK_some hf
        show LitOk t ps S _ _ ((v : Int) + 1) S
        refine ⟨hS, Ext.refl S, fun w h3 h4 => by omega, ⟨by omega, by omega, ?_⟩, by omega⟩
        rw [show ((v : Int) + 1).natAbs - 1 = v by omega, h2]
        exact Nat.le_refl _
      · have l1 := hS.l1
        have l2 := hS.l2
        have he := add_ext S (keyS t ps i) i l1 l2
        have hal : (S.add (keyS t ps i) i).ky.length = S.ky.length + 1 := by simp [Enc.add]
        have hA : EncI t ps (S.add (keyS t ps i) i) := add_inv hS hi h6
        have hfa : (S.add (keyS t ps i) i).fs.getD S.ky.length 0 = i := getD_last _ _ _ l1
        have hka : (S.add (keyS t ps i) i).ky.getD S.ky.length [] = keyS t ps i := getD_last _ _ _ rfl
        have hda : (S.add (keyS t ps i) i).kd.getD S.ky.length [] = [] := getD_last _ _ _ l2
        split
        · rename_i hc
          rw [hkm]
          obtain ⟨q1, q2, q3, q4, q5, q6, q7⟩ := kidsL_ok (t := t) (f := litV t ps n) (L := (keyS t ps i).length - 1) m ((i : Int) + 1) (S.add (keyS t ps i) i) hA fun z hz => by
            obtain ⟨h1, h2, h3, h4, h5⟩ := hkid z hz
            refine ⟨by unfold finN at h3; omega, fun S' hS' => ?_⟩
            have ih := litV_ok hI n z.toNat S' (by omega) (by omega) hS'
            have h7 := hkk z hz
            refine ⟨ih.inv, ih.ext, ih.full, ih.lit.ext (Ext.refl _) (by omega), ?_⟩
            have := ih.len
            unfold finN at this
            omega
          generalize kidsL (litV t ps n) (kidsV ps m ((i : Int) + 1)) (S.add (keyS t ps i) i) = R at *
          have hle := q2.le
          have hpe : Ext S (R.2.put S.ky.length R.1) := by
            refine ⟨by have := he.le; have : (R.2.put S.ky.length R.1).ky = R.2.ky := rfl; rw [this]; omega, fun v hv => ?_⟩
            obtain ⟨a, b, c⟩ := (he.trans q2).same v hv
            refine ⟨a, b, ?_⟩
            show (R.2.kd.set S.ky.length R.1).getD v [] = _
            rw [← c]
            simp [List.getD, List.getElem?_set, show S.ky.length ≠ v by omega]
          have hok : ∀ {L x}, okX R.2 L x → okX (R.2.put S.ky.length R.1) L x := fun h => h
          have hfr := (q2.same S.ky.length (by omega)).2.1
          have hfr : (R.2.put S.ky.length R.1).fs.getD S.ky.length 0 = i := hfr.trans hfa
          have hkr : (R.2.put S.ky.length R.1).ky.getD S.ky.length [] = keyS t ps i := (q2.same S.ky.length (by omega)).1.trans hka
          have hl2 := q1.l2
          have hdr : (R.2.put S.ky.length R.1).kd.getD S.ky.length [] = R.1 := by
            show (R.2.kd.set S.ky.length R.1).getD S.ky.length [] = _
            simp [List.getD, List.getElem?_set, show S.ky.length < R.2.kd.length by omega]
          show LitOk t ps S _ _ ((S.ky.length : Int) + 1) (R.2.put S.ky.length R.1)
          refine ⟨⟨q1.l1, by rw [put_len]; exact q1.l2, q1.at'⟩, hpe, fun v h1 h2 => ?_, ⟨by omega, by show _ ≤ R.2.ky.length; omega, ?_⟩, ?_⟩
          · by_cases hv : v = S.ky.length
            · subst hv
              unfold Full
              rw [hfr, hdr, if_pos hc, hkm]
              exact ⟨q4, fun x hx => hok (q5 x hx)⟩
            · have := q3 v (by omega) h2
              unfold Full at *
              have e : (R.2.put S.ky.length R.1).kd.getD v [] = R.2.kd.getD v [] := by
                show (R.2.kd.set S.ky.length R.1).getD v [] = _
                simp [List.getD, List.getElem?_set, show S.ky.length ≠ v by omega]
              rw [e]
              exact this
          · rw [show ((S.ky.length : Int) + 1).natAbs - 1 = S.ky.length by omega, hkr]
            exact Nat.le_refl _
          · show R.2.ky.length ≤ _
            have := hN.fin
            unfold finN at *
            omega
        · rename_i hc
          show LitOk t ps S _ _ ((S.ky.length : Int) + 1) (S.add (keyS t ps i) i)
          refine ⟨hA, he, fun v h1 h2 => ?_, ⟨by omega, by omega, ?_⟩, by omega⟩
          · obtain rfl : v = S.ky.length := by omega
            unfold Full
            rw [hfa, if_neg hc, hda]
          · rw [show ((S.ky.length : Int) + 1).natAbs - 1 = S.ky.length by omega, hka]
            exact Nat.le_refl _
end Go.PE
