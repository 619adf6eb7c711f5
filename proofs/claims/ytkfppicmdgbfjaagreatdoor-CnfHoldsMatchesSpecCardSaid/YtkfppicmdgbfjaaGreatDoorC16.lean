/-
  A part of the proof that the law's function returns true and leaves its arguments as they were, for every input (no condition): own lemmas of the proof, in the order of their use.
-/
import Derived.RangeFuncBox
import Derived.RangeFuncFrom
import Derived.RangeFuncLeaves
import Derived.RangeFuncCalls
import Derived.Shelf.Abstract
import Derived.WalkKit
import Derived.OwnWalkIn
import Derived.TacticsInMore
import Derived.LoopNIn
import Derived.LoopIn
import Derived.Test.YtkfppicmdgbfjaaGreatDoorC15
import Derived.Test.YtkfppicmdgbfjaaGreatDoorProg
import Derived.Test.YtkfppicmdgbfjaaGreatDoorC13
import Derived.KernelRfl
import Derived.Deep.QuietTactic
import Derived.Deep.RegionWith
import Derived.LoopN
import Derived.Deep.RegionHeld3
import Derived.Test.YtkfppicmdgbfjaaGreatDoorC12
import Derived.ChangeArms
import Derived.WideShapes
import Derived.ChangeShapes
import GoSem.ClaimJoined
set_option linter.all false
namespace Go.PE
open Go.RowKit Go.Shelf Go.Proofs Go.Proofs.Tryz
/-! ### slices.Backward over integers -/
set_option maxRecDepth 100000 in
set_option maxHeartbeats 2000000 in
theorem iter173 : IterB prog 173 := by
  refine ⟨fun args w => rfl, fun m l bx len cap A J W hlen hJ hY h0 => ?_⟩
  have hmx : (len : Int) ≤ 9223372036854775807 := by
    have : maxLen ≤ 9223372036854775807 := by decide
    omega
  refine callsIn_of_wp func173 rfl trivial ?_ rfl
  simp only [ntmps173, List.size_toArray, List.length_cons, List.length_nil, Nat.reduceAdd, Nat.reduceSub, Array.replicate_succ, Array.replicate_zero, List.push_toArray, List.append_toArray, List.nil_append, List.cons_append]
  have hbx := hJ len W h0
  gi_wp2
  gi_loopw [3] (fun i wr => ∃ j : Nat, j ≤ len ∧ i = .int .i64 ((j : Int) - 1) ∧ J j wr) (fun i _ => (intOf i + 1).toNat)
  case atStart => exact ⟨len, Nat.le_refl _, by first | rfl | (simp [IntKind.wrap]; omega), h0⟩
  case round =>
    obtain ⟨j, hj, rfl, hJs⟩ := hrel
    have hbx' := hJ _ _ hJs
    cases j with
    | zero =>
      gi_wp2
      go_end0
      exact ⟨⟨_, rfl⟩, hJs⟩
    | succ j =>
      rw [show ((j + 1 : Nat) : Int) - 1 = (j : Int) by omega]
      obtain ⟨b, o, z, rfl, hcx, fn, tmps, assign, body, hy, hR⟩ := hY j wr (by omega) hJs
      gi_wp2
      refine hR.mono ?_
      rintro e W3 ⟨rfl, hJ3⟩
      gi_wp2
      go_roundw
      case rel => exact ⟨j, by omega, by simp, hJ3⟩
      case measure => simp [intOf]
set_option maxRecDepth 100000 in
set_option maxHeartbeats 1000000 in
theorem backward_in (A : Option Addr) (len cap : Nat) (w : World) :
    CallsIn Fence.wide 1 prog 145 #[.slice A len cap] w fun e w' => e = .returned (.func (.func 173) #[] #[.pointer (some ⟨w.heap.size, 0, none⟩)]) ∧ w' = w.alloc (.cells #[.slice A len cap] 59) := by
  refine callsIn_of_wp func145 rfl trivial ?_ rfl
  simp only [ntmps145, List.size_toArray, List.length_cons, List.length_nil, Nat.reduceAdd, Nat.reduceSub, Array.replicate_succ, Array.replicate_zero, List.push_toArray, List.append_toArray, List.nil_append, List.cons_append]
  gi_wp2
  go_ret
  exact ⟨rfl, rfl⟩
set_option maxRecDepth 100000 in
theorem back145 : MeetsB prog 145 173 := fun A len cap w => ⟨59, fun o a next Q h => by
  have henter : (callFunc 145 #[.slice A len cap]).run prog w = .ok (.enter 145 #[.slice A len cap]) w := rfl
  rw [henter, Oper.upon_enter]
  refine Calls.mono (callsIn_wide.1 (backward_in A len cap w)) ?_
  rintro e w' ⟨rfl, rfl⟩
  exact h⟩
end Go.PE
namespace Go.PE
open Go.RowKit Go.Proofs Go.Proofs.Tryz
set_option maxRecDepth 100000
/-! ### strconv.Itoa of a digit -/
noncomputable def T0 (k : Nat) : FuncId → List PV → Option (PV × List (List PV)) := lvl prog (fun _ _ => none) keepF lvF NN k
theorem mixed_ok : prog.follows .mixedOrders = true := by kernel_rfl
theorem itoa0 : T0 6 160 [.int .i64 0] = some (.str [48], []) := by kernel_rfl
theorem itoa1 : T0 6 160 [.int .i64 1] = some (.str [49], []) := by kernel_rfl
theorem itoa2 : T0 6 160 [.int .i64 2] = some (.str [50], []) := by kernel_rfl
theorem itoa3 : T0 6 160 [.int .i64 3] = some (.str [51], []) := by kernel_rfl
theorem itoa4 : T0 6 160 [.int .i64 4] = some (.str [52], []) := by kernel_rfl
theorem itoa5 : T0 6 160 [.int .i64 5] = some (.str [53], []) := by kernel_rfl
theorem itoa6 : T0 6 160 [.int .i64 6] = some (.str [54], []) := by kernel_rfl
theorem itoa7 : T0 6 160 [.int .i64 7] = some (.str [55], []) := by kernel_rfl
theorem itoa8 : T0 6 160 [.int .i64 8] = some (.str [56], []) := by kernel_rfl
theorem itoa9 : T0 6 160 [.int .i64 9] = some (.str [57], []) := by kernel_rfl
theorem itoa_T (n : Nat) (h : n < 10) : T0 6 160 [.int .i64 n] = some (.str [UInt8.ofNat (48 + n)], []) := by
  match n, h with
  | 0, _ => exact itoa0
  | 1, _ => exact itoa1
  | 2, _ => exact itoa2
  | 3, _ => exact itoa3
  | 4, _ => exact itoa4
  | 5, _ => exact itoa5
  | 6, _ => exact itoa6
  | 7, _ => exact itoa7
  | 8, _ => exact itoa8
  | 9, _ => exact itoa9
theorem bk_meets (f : FuncId) (g' : FuncId) (h : bkG f = some g') : MeetsB prog f g' ∧ IterB prog g' := by
  unfold bkG at h
  split at h
  · rename_i hf
    cases h
    subst hf
    exact ⟨back145, iter173⟩
  · cases h
theorem T0_meets (k : Nat) (f : FuncId) : Meets prog f (T0 k f) := lvl_meets mixed_ok (fun f => none_meets f (bk_meets f)) keepF lvF NN k f
end Go.PE
namespace Go.PE
open Go.RowKit Go.Shelf Go.Proofs Go.Proofs.Tryz
/-! ### The encoder's memory -/
set_option maxRecDepth 100000 in
set_option maxHeartbeats 1000000 in
theorem conn_calls (w : World) (tb to nb no nc i : Nat) (z op : Int) (hz : z = i) (h0 : w.cell? ⟨tb, to, none⟩ = some (.slice (some ⟨nb, no, none⟩) 4 nc)) (hn : w.cell? ⟨nb, no + i * 5, none⟩ = some (.int .i64 op)) (hi : i < 4) (hop : op = 8 ∨ op = 4) :
    Calls prog 34 #[.pointer (some ⟨tb, to, none⟩), .int .i64 z] w fun e w' => e = .returned (.bool (decide (op = 8))) ∧ w' = w := by
  subst hz
  rcases hop with rfl | rfl
  · go_enter func34, ntmps34
    go_wp2
    go_ret
    exact ⟨rfl, rfl⟩
  · go_enter func34, ntmps34
    go_wp2
    go_ret
    exact ⟨rfl, rfl⟩
/-- Where the variables of extend lie. -/
structure Pl where
  (b10 b6 b2 b5 rd ro pb po tb to nb no nc fb fo fc kb ko kc lb lo lc : Nat)
variable (p : Pl)
def Pl.caps : Array Value := #[.pointer (some ⟨p.b10, 0, none⟩), .pointer (some ⟨p.b6, 0, none⟩), .pointer (some ⟨p.b2, 0, none⟩), .pointer (some ⟨p.b5, 0, none⟩)]
def Pl.clo : Value := .func (.func 60) #[] p.caps
set_option maxRecDepth 100000 in
set_option maxHeartbeats 1000000 in
theorem truth_done (W : World) (j : Nat) (l : Int) (ov : Bool) (hj : j = 1 ∨ j = 2) (hl : l = j + 1) (c6 : W.cell? ⟨p.b6, 0, none⟩ = some (.slice (some ⟨p.rd, 0, none⟩) 3 3)) (c5 : W.cell? ⟨p.b5, 0, none⟩ = some (.slice (some ⟨p.ro, 0, none⟩) 3 3))
    (hd : W.cell? ⟨p.rd, j, none⟩ = some (.bool true)) (ho : W.cell? ⟨p.ro, j, none⟩ = some (.bool ov)) :
    Calls prog 60 #[.int .i64 l, .pointer (some ⟨p.b10, 0, none⟩), .pointer (some ⟨p.b6, 0, none⟩), .pointer (some ⟨p.b2, 0, none⟩), .pointer (some ⟨p.b5, 0, none⟩)] W fun e w' => e = .returned (.bool ov) ∧ w' = W := by
  rcases hj with rfl | rfl
  · obtain rfl : l = 2 := by omega
    clear hl
    go_enter func60, ntmps60
    go_wp2
    go_ret
    exact ⟨rfl, rfl⟩
  · obtain rfl : l = 3 := by omega
    clear hl
    go_enter func60, ntmps60
    go_wp2
    go_ret
    exact ⟨rfl, rfl⟩
set_option maxRecDepth 100000 in
set_option maxHeartbeats 1000000 in
theorem truth_neg (W : World) (ov : Bool) (c10 : W.cell? ⟨p.b10, 0, none⟩ = some (.func (.func 60) #[] #[.pointer (some ⟨p.b10, 0, none⟩), .pointer (some ⟨p.b6, 0, none⟩), .pointer (some ⟨p.b2, 0, none⟩), .pointer (some ⟨p.b5, 0, none⟩)]))
    (c6 : W.cell? ⟨p.b6, 0, none⟩ = some (.slice (some ⟨p.rd, 0, none⟩) 3 3)) (c5 : W.cell? ⟨p.b5, 0, none⟩ = some (.slice (some ⟨p.ro, 0, none⟩) 3 3))
    (hd : W.cell? ⟨p.rd, 2, none⟩ = some (.bool true)) (ho : W.cell? ⟨p.ro, 2, none⟩ = some (.bool ov)) :
    Calls prog 60 #[.int .i64 (-3), .pointer (some ⟨p.b10, 0, none⟩), .pointer (some ⟨p.b6, 0, none⟩), .pointer (some ⟨p.b2, 0, none⟩), .pointer (some ⟨p.b5, 0, none⟩)] W fun e w' => e = .returned (.bool (!ov)) ∧ w' = W := by
  have hc := truth_done p W 2 3 ov (.inr rfl) rfl c6 c5 hd ho
  go_enter func60, ntmps60
  go_wp2_with (go_at_call 60; refine hc.mono ?_; rintro e w' ⟨rfl, rfl⟩)
  go_ret
  exact ⟨rfl, rfl⟩
set_option maxRecDepth 100000 in
set_option maxHeartbeats 2000000 in
theorem connect_calls (W : World) (a b : Bool) (c10 : W.cell? ⟨p.b10, 0, none⟩ = some (.func (.func 60) #[] #[.pointer (some ⟨p.b10, 0, none⟩), .pointer (some ⟨p.b6, 0, none⟩), .pointer (some ⟨p.b2, 0, none⟩), .pointer (some ⟨p.b5, 0, none⟩)]))
    (c6 : W.cell? ⟨p.b6, 0, none⟩ = some (.slice (some ⟨p.rd, 0, none⟩) 3 3)) (c5 : W.cell? ⟨p.b5, 0, none⟩ = some (.slice (some ⟨p.ro, 0, none⟩) 3 3))
    (hd1 : W.cell? ⟨p.rd, 1, none⟩ = some (.bool true)) (ho1 : W.cell? ⟨p.ro, 1, none⟩ = some (.bool a)) (hd2 : W.cell? ⟨p.rd, 2, none⟩ = some (.bool true)) (ho2 : W.cell? ⟨p.ro, 2, none⟩ = some (.bool b))
    (e0 : W.cell? ⟨p.pb, p.po, none⟩ = some (.pointer (some ⟨p.tb, p.to, none⟩))) (e2 : W.cell? ⟨p.pb, p.po + 2, none⟩ = some (.slice (some ⟨p.fb, p.fo, none⟩) 3 p.fc)) (e3 : W.cell? ⟨p.pb, p.po + 3, none⟩ = some (.slice (some ⟨p.kb, p.ko, none⟩) 3 p.kc))
    (t0 : W.cell? ⟨p.tb, p.to, none⟩ = some (.slice (some ⟨p.nb, p.no, none⟩) 4 p.nc)) (f0 : W.cell? ⟨p.fb, p.fo, none⟩ = some (.int .i64 0)) (k0 : W.cell? ⟨p.kb, p.ko, none⟩ = some (.slice (some ⟨p.lb, p.lo, none⟩) 2 p.lc))
    (l0 : W.cell? ⟨p.lb, p.lo, none⟩ = some (.int .i64 2)) (l1 : W.cell? ⟨p.lb, p.lo + 1, none⟩ = some (.int .i64 (-3))) (n0 : W.cell? ⟨p.nb, p.no, none⟩ = some (.int .i64 8)) :
    Calls prog 61 #[.pointer (some ⟨p.pb, p.po, none⟩), .int .i64 1, .func (.func 60) #[] #[.pointer (some ⟨p.b10, 0, none⟩), .pointer (some ⟨p.b6, 0, none⟩), .pointer (some ⟨p.b2, 0, none⟩), .pointer (some ⟨p.b5, 0, none⟩)]] W
      fun e w' => e = .returned (.bool (a || !b)) ∧ ∃ n, w' = W.drewN n := by
  have q1 := fun n => truth_done p (W.drewN n) 1 2 a (.inl rfl) rfl c6 c5 hd1 ho1
  have q2 := fun n => truth_neg p (W.drewN n) b c10 c6 c5 hd2 ho2
  go_enter func61, ntmps61
  have hw0 : IntKind.i64.wrap 0 = 0 := rfl
  go_wp2_with fail
  go_quiet (fail)
  go_wp2_with fail
  refine wp_loop_rounds 3 ?_
  cases a with
  | true =>
    rw [rounds_succ]
    go_wp2_with (go_at_call 60; refine (q1 _).mono ?_; rintro e w' ⟨rfl, rfl⟩)
    go_ret
    exact ⟨rfl, _, rfl⟩
  | false =>
    rw [rounds_succ]
    go_wp2_with (go_at_call 60; refine (q1 _).mono ?_; rintro e w' ⟨rfl, rfl⟩)
    cases b with
    | true =>
      rw [rounds_succ]
      go_wp2_with (go_at_call 60; refine (q2 _).mono ?_; rintro e w' ⟨rfl, rfl⟩)
      rw [rounds_succ]
      go_wp2_with fail
      go_ret
      exact ⟨rfl, _, rfl⟩
    | false =>
      rw [rounds_succ]
      go_wp2_with (go_at_call 60; refine (q2 _).mono ?_; rintro e w' ⟨rfl, rfl⟩)
      go_ret
      exact ⟨rfl, _, rfl⟩
set_option maxRecDepth 100000 in
set_option maxHeartbeats 2000000 in
theorem truth_first (W : World) (a b o : Bool) (c10 : W.cell? ⟨p.b10, 0, none⟩ = some (.func (.func 60) #[] #[.pointer (some ⟨p.b10, 0, none⟩), .pointer (some ⟨p.b6, 0, none⟩), .pointer (some ⟨p.b2, 0, none⟩), .pointer (some ⟨p.b5, 0, none⟩)]))
    (c6 : W.cell? ⟨p.b6, 0, none⟩ = some (.slice (some ⟨p.rd, 0, none⟩) 3 3)) (c5 : W.cell? ⟨p.b5, 0, none⟩ = some (.slice (some ⟨p.ro, 0, none⟩) 3 3)) (c2 : W.cell? ⟨p.b2, 0, none⟩ = some (.pointer (some ⟨p.pb, p.po, none⟩)))
    (hd0 : W.cell? ⟨p.rd, 0, none⟩ = some (.bool false)) (ho0 : W.cell? ⟨p.ro, 0, none⟩ = some (.bool o)) (fd0 : W.frozen? ⟨p.rd, 0, none⟩ = false) (fo0 : W.frozen? ⟨p.ro, 0, none⟩ = false) (hne : p.ro ≠ p.rd) (hne5 : p.ro ≠ p.b5) (hne6 : p.ro ≠ p.b6) (hnd5 : p.rd ≠ p.b5) (hne2 : p.ro ≠ p.b2) (hne10 : p.ro ≠ p.b10)
    (hd1 : W.cell? ⟨p.rd, 1, none⟩ = some (.bool true)) (ho1 : W.cell? ⟨p.ro, 1, none⟩ = some (.bool a)) (hd2 : W.cell? ⟨p.rd, 2, none⟩ = some (.bool true)) (ho2 : W.cell? ⟨p.ro, 2, none⟩ = some (.bool b))
    (e0 : W.cell? ⟨p.pb, p.po, none⟩ = some (.pointer (some ⟨p.tb, p.to, none⟩))) (e2 : W.cell? ⟨p.pb, p.po + 2, none⟩ = some (.slice (some ⟨p.fb, p.fo, none⟩) 3 p.fc)) (e3 : W.cell? ⟨p.pb, p.po + 3, none⟩ = some (.slice (some ⟨p.kb, p.ko, none⟩) 3 p.kc))
    (t0 : W.cell? ⟨p.tb, p.to, none⟩ = some (.slice (some ⟨p.nb, p.no, none⟩) 4 p.nc)) (f0 : W.cell? ⟨p.fb, p.fo, none⟩ = some (.int .i64 0)) (k0 : W.cell? ⟨p.kb, p.ko, none⟩ = some (.slice (some ⟨p.lb, p.lo, none⟩) 2 p.lc))
    (l0 : W.cell? ⟨p.lb, p.lo, none⟩ = some (.int .i64 2)) (l1 : W.cell? ⟨p.lb, p.lo + 1, none⟩ = some (.int .i64 (-3))) (n0 : W.cell? ⟨p.nb, p.no, none⟩ = some (.int .i64 8)) :
    Calls prog 60 #[.int .i64 1, .pointer (some ⟨p.b10, 0, none⟩), .pointer (some ⟨p.b6, 0, none⟩), .pointer (some ⟨p.b2, 0, none⟩), .pointer (some ⟨p.b5, 0, none⟩)] W
      fun e w' => e = .returned (.bool (a || !b)) ∧ ∃ n, w' = ((W.setCell ⟨p.ro, 0, none⟩ (.bool (a || !b))).setCell ⟨p.rd, 0, none⟩ (.bool true)).drewN n := by
  have q := connect_calls p W.drew a b c10 c6 c5 hd1 ho1 hd2 ho2 e0 e2 e3 t0 f0 k0 l0 l1 n0
  have hw0 : IntKind.i64.wrap 0 = 0 := rfl
  generalize (a || !b) = r at *
  have so0 : (W.cell? ⟨p.ro, 0, none⟩).isSome = true := by rw [ho0]; rfl
  go_enter func60, ntmps60
  go_wp2_with fail
  go_region_held3 (fun w' => w'.cell? ⟨p.b5, 0, none⟩ = some (.slice (some ⟨p.ro, 0, none⟩) 3 3) ∧ w'.cell? ⟨p.b2, 0, none⟩ = some (.pointer (some ⟨p.pb, p.po, none⟩)) ∧ w'.cell? ⟨p.b10, 0, none⟩ = some (.func (.func 60) #[] #[.pointer (some ⟨p.b10, 0, none⟩), .pointer (some ⟨p.b6, 0, none⟩), .pointer (some ⟨p.b2, 0, none⟩), .pointer (some ⟨p.b5, 0, none⟩)]) ∧ w'.frozen? ⟨p.ro, 0, none⟩ = false ∧ (w'.cell? ⟨p.ro, 0, none⟩).isSome = true)
    (first | exact ⟨c5, c2, c10, fo0, so0⟩ | exact ⟨(World.cell?_setCell_other _ _ _ _ (by simp)).trans c5, (World.cell?_setCell_other _ _ _ _ (by simp)).trans c2, (World.cell?_setCell_other _ _ _ _ (by simp)).trans c10, (World.frozen?_setCell _ _ _ _).trans fo0, (congrArg Option.isSome (World.cell?_setCell_same' (W.drewN _) _ _ so0)).trans rfl⟩)
    (first | (go_at_call 61; refine q.mono ?_; rintro e w1 ⟨rfl, n1, rfl⟩))
  have c5' : ∀ n, ((W.drewN n).setCell ⟨p.ro, 0, none⟩ (.bool r)).cell? ⟨p.b5, 0, none⟩ = some (.slice (some ⟨p.ro, 0, none⟩) 3 3) := fun n => (World.cell?_setCell_other _ _ _ _ (by simp [hne5])).trans c5
  have c6' : ∀ n, ((W.drewN n).setCell ⟨p.ro, 0, none⟩ (.bool r)).cell? ⟨p.b6, 0, none⟩ = some (.slice (some ⟨p.rd, 0, none⟩) 3 3) := fun n => (World.cell?_setCell_other _ _ _ _ (by simp [hne6])).trans c6
  have hr0 : ∀ n, ((W.drewN n).setCell ⟨p.ro, 0, none⟩ (.bool r)).cell? ⟨p.ro, 0, none⟩ = some (.bool r) := fun n => World.cell?_setCell_same' (W.drewN n) _ _ so0
  have hdd : ∀ n, ((W.drewN n).setCell ⟨p.ro, 0, none⟩ (.bool r)).cell? ⟨p.rd, 0, none⟩ = some (.bool false) := fun n => (World.cell?_setCell_other _ _ _ _ (by simp [hne])).trans hd0
  go_wp2_with fail
  go_ret
  exact ⟨rfl, 1 + n1, rfl⟩
end Go.PE
namespace Go.PE
open Go.RowKit
/-! ### The arguments of a row, read as plain values -/
/-- The make of a type's cells. -/
inductive Ty where
  | int (k : IntKind)
  | bool
  | str
  | sl (sz : Nat) (t : Ty)
  | pair (a b : Ty)
  | unit
def Ty.size : Ty → Nat
  | .pair a b => a.size + b.size
  | .unit => 0
  | _ => 1
def shape : Ty → List PV → Prop
  | .int k, ps => ∃ n, ps = [.int k n] ∧ (Lit.int k n).wf = true
  | .bool, ps => ∃ b, ps = [.bool b]
  | .str, ps => ∃ s : List UInt8, ps = [.str s] ∧ s.length ≤ reachBytes
  | .sl sz t, ps => ∃ xs : List (List PV), ps = [.imm sz xs] ∧ xs.length ≤ reachBytes ∧ ∀ x ∈ xs, shape t x
  | .pair a b, ps => ∃ p q, ps = p ++ q ∧ shape a p ∧ shape b q
  | .unit, ps => ps = []
theorem shape_len : ∀ {t : Ty} {ps : List PV}, shape t ps → ps.length = t.size
  | .int _, _, ⟨_, h, _⟩ => by rw [h]; rfl
  | .bool, _, ⟨_, h⟩ => by rw [h]; rfl
  | .str, _, ⟨_, h, _⟩ => by rw [h]; rfl
  | .sl _ _, _, ⟨_, h, _⟩ => by rw [h]; rfl
  | .pair a b, _, ⟨p, q, h, h1, h2⟩ => by rw [h, List.length_append, shape_len h1, shape_len h2]; rfl
  | .unit, _, h => by
    have h : _ = [] := h
    rw [h]; rfl
section
variable (P : Program)
def fitF (g : TypeId → Ty → Bool) : List Field → Nat → Nat → Ty → Bool
  | [], off, tot, .unit => off == tot
  | f :: l, off, tot, .pair a b => f.offset == off && P.cellsOf f.type == a.size && g f.type a && fitF g l (off + a.size) tot b
  | _, _, _, _ => false
/-- Is a type made so? -/
def fits : Nat → TypeId → Ty → Bool
  | 0, _, _ => false
  | n + 1, t, ty => match P.underlying t, ty with
    | some .bool, .bool => true
    | some (.int k), .int k' => decide (k = k')
    | some .string, .str => true
    | some (.slice e), .sl sz a => P.cellsOf e == sz && a.size == sz && Nat.blt 0 (P.bytesOf e) && fits n e a
    | some (.struct fs), ty => fitF P (fits n) fs.toList 0 (P.cellsOf t) ty
    | _, _ => false
end
theorem ImmL.append {w : World} {Fz : Nat → Prop} {a b : List Value} {p q : List PV} (h1 : ImmL w Fz a p) (h2 : ImmL w Fz b q) : ImmL w Fz (a ++ b) (p ++ q) := by
  refine ⟨by rw [List.length_append, List.length_append, h1.1, h2.1], fun i v x hv hx => ?_⟩
  by_cases hi : i < a.length
  · rw [List.getElem?_append_left hi] at hv
    rw [List.getElem?_append_left (by rw [← h1.1]; exact hi)] at hx
    exact h1.2 i v x hv hx
  · rw [List.getElem?_append_right (by omega)] at hv
    rw [List.getElem?_append_right (by rw [← h1.1]; omega), ← h1.1] at hx
    exact h2.2 _ v x hv hx
theorem ImmL.sg {w : World} {Fz : Nat → Prop} {v : Value} {q : PV} (h : Imm w Fz v q) : ImmL w Fz [v] [q] := by
  refine ⟨rfl, fun i v' p hv hp => ?_⟩
  cases i with
  | zero => simp only [List.getElem?_cons_zero, Option.some.injEq] at hv hp; subst hv hp; exact h
  | succ i => simp at hv
theorem list_choose {α : Type} {Q : Nat → α → Prop} : ∀ (n : Nat), (∀ i, i < n → ∃ x, Q i x) → ∃ xs : List α, xs.length = n ∧ ∀ i x, xs[i]? = some x → Q i x
  | 0, _ => ⟨[], rfl, fun i x h => by simp at h⟩
  | n + 1, h => by
    obtain ⟨xs, hl, hx⟩ := list_choose n fun i hi => h i (by omega)
    obtain ⟨y, hy⟩ := h n (by omega)
    refine ⟨xs ++ [y], by simp [hl], fun i x hi => ?_⟩
    by_cases hin : i < n
    · rw [List.getElem?_append_left (by omega)] at hi
      exact hx i x hi
    · rw [List.getElem?_append_right (by omega)] at hi
      have : i - xs.length = 0 := by
        have := (List.getElem?_eq_some_iff.1 hi).1
        simp at this; omega
      rw [this] at hi
      simp only [List.getElem?_cons_zero, Option.some.injEq] at hi
      have : i = n := by omega
      subst this hi
      exact hy
theorem cell_lt {w : World} {a : Addr} {v : Value} (h : w.cell? a = some v) : a.block < w.heap.size := by
  unfold World.cell? at h
  by_cases hb : a.block < w.heap.size
  · exact hb
  · rw [Array.getElem?_eq_none (by omega)] at h
    cases h
section
variable {H : Type} {enc : TypeId × Value → H} {P : Program} {w : World} {base : Nat} {spare : Nat → Bool} {held : Bool}
theorem all_sub {a b : List Nat} (h : ∀ n ∈ a, n ∈ b) (hb : b.all (· ≤ reachBytes) = true) : a.all (· ≤ reachBytes) = true := by
  rw [List.all_eq_true] at hb ⊢
  exact fun n hn => hb n (h n hn)
theorem weightsAll_mem {e : TypeId} : ∀ {l : List (DataW H)} {d : DataW H}, d ∈ l → ∀ n ∈ d.weights P e, n ∈ DataW.weightsAll P e l
  | x :: l, d, h, n, hn => by
    rw [DataW.weightsAll, List.mem_append]
    rcases List.mem_cons.1 h with rfl | h
    · exact .inl hn
    · exact .inr (weightsAll_mem h n hn)
theorem tr_imm : ∀ (fuel : Nat) (t : TypeId) (cs : List Value) (x : DataW H × List MemPlace), DataW.trod enc P w base spare held fuel t cs = some x → (x.1.weights P t).all (· ≤ reachBytes) = true →
    ∀ (n : Nat) (ty : Ty), fits P n t ty = true → ∃ ps, shape ty ps ∧ ImmL w (fun b => b < w.heap.size) cs ps := by
  intro fuel
  induction fuel using Nat.strongRecOn with
  | _ fuel ih =>
  intro t cs x h hwt n ty hf
  cases n with
  | zero => simp [fits] at hf
  | succ n =>
    unfold fits at hf
    split at hf
    · rename_i ht
      obtain ⟨b, rfl, _⟩ := DataW.trod_bool ht h
      exact ⟨[.bool b], ⟨b, rfl⟩, ImmL.sg (.bool b)⟩
    · rename_i k k' ht
      have hk : k = k' := by simpa using hf
      subst hk
      obtain ⟨m, rfl, _, hw⟩ := DataW.trod_int ht h
      exact ⟨[.int k m], ⟨m, rfl, hw⟩, ImmL.sg (.int k m)⟩
    · rename_i ht
      obtain ⟨s, rfl, rfl, hs⟩ := DataW.trod_string ht h
      exact ⟨[.str s.data.toList], ⟨_, rfl, by simpa [DataW.weights] using hwt⟩, ImmL.sg (.str s)⟩
    · rename_i e sz a ht
      simp only [Bool.and_eq_true, beq_iff_eq] at hf
      obtain ⟨⟨⟨hsz, hasz⟩, hby⟩, hfe⟩ := hf
      rcases DataW.trod_slice ht h with ⟨rfl, _⟩ | ⟨ad, len, cap, elems, rest, m, rfl, rfl, rfl, hb, hlc, hcm, hlen, hel, _, _⟩
      · exact ⟨[.imm sz []], ⟨[], rfl, Nat.zero_le _, by simp⟩, ImmL.sg (.imm none 0 0 sz [] (fun _ _ => undef) rfl (Nat.le_refl _) (by simp) (fun i j p hp => by simp [cell2] at hp) (fun i j p hp => by simp [cell2] at hp))⟩
      · simp only [DataW.weights, ht, List.all_cons, Bool.and_eq_true, decide_eq_true_eq, List.all_append, List.length_map] at hwt
        have hlenB : len ≤ reachBytes := by
          have h1 : 0 < P.bytesOf e := by
            simp only [Nat.blt, Nat.ble_eq] at hby
            omega
          have h2 := Nat.le_mul_of_pos_right (elems.length + rest.length) h1
          omega
        have each : ∀ i, i < len → ∃ ps : List PV, shape a ps ∧ ∃ cs : List Value, cs.length = sz ∧ (∀ j, j < sz → w.cell? (ad.add (i * sz + j)) = cs[j]?) ∧ ImmL w (fun b => b < w.heap.size) cs ps := by
          intro i hi
          have h1 := hel i hi
          have hie : i < elems.length := by omega
          rw [List.getElem?_eq_getElem hie] at h1
          obtain ⟨cs, h2, h3⟩ := Option.bind_eq_some_iff.1 h1
          obtain ⟨ps, h4, h5⟩ := ih m (by omega) e cs _ h3 (all_sub (weightsAll_mem (l := elems.map (·.1)) (List.mem_map.2 ⟨_, List.getElem_mem hie, rfl⟩)) hwt.2.1) n a hfe
          obtain ⟨_, k2, k3⟩ := World.cells?_some h2
          refine ⟨ps, h4, cs, by rw [← hsz]; exact k2, fun j hj => ?_, h5⟩
          have := k3 j (by rw [hsz]; exact hj)
          rw [hsz, add_add] at this
          exact this
        obtain ⟨xs, hxl, hxs⟩ := list_choose len each
        refine ⟨[.imm sz xs], ⟨xs, rfl, by omega, fun y hy => ?_⟩, ImmL.sg (.imm (some ad) len cap sz xs (fun i j => (w.cell? (ad.add (i * sz + j))).getD undef) hxl hlc (fun y hy => ?_) (fun i j p hp => ?_) (fun i j p hp => ?_))⟩
        · obtain ⟨i, hi⟩ := List.getElem?_of_mem hy
          exact (hxs i y hi).1
        · obtain ⟨i, hi⟩ := List.getElem?_of_mem hy
          rw [shape_len (hxs i y hi).1]; exact hasz
        · obtain ⟨y, hy, hp⟩ := Option.bind_eq_some_iff.1 hp
          obtain ⟨_, cs, k1, k2, k3⟩ := hxs i y hy
          have hj : j < sz := by
            have := (List.getElem?_eq_some_iff.1 hp).1
            rw [← k3.1, k1] at this; exact this
          have h1 := k2 j hj
          rw [List.getElem?_eq_getElem (by omega)] at h1
          refine ⟨ad, rfl, ?_, ?_⟩
          · have := cell_lt h1
            rw [add_block] at this; exact this
          · rw [h1]; rfl
        · obtain ⟨y, hy, hp⟩ := Option.bind_eq_some_iff.1 hp
          obtain ⟨_, cs, k1, k2, k3⟩ := hxs i y hy
          have hj : j < sz := by
            have := (List.getElem?_eq_some_iff.1 hp).1
            rw [← k3.1, k1] at this; exact this
          have h1 := k2 j hj
          rw [List.getElem?_eq_getElem (by omega)] at h1
          rw [h1]
          exact k3.2 j _ p (List.getElem?_eq_getElem (by omega)) hp
    · rename_i ty _ _ fs ht
      obtain ⟨xs, m, rfl, rfl, hlen, hxl, hx⟩ := DataW.trod_struct ht h
      simp only [DataW.weights, ht] at hwt
      have go : ∀ (l : List Field) (ys : List (DataW H × List MemPlace)) (off : Nat) (ty : Ty), l.length = ys.length → (∀ (i : Nat) f, l[i]? = some f → DataW.trod enc P w base spare held m f.type ((cs.drop f.offset).take (P.cellsOf f.type)) = ys[i]?) →
          (DataW.weightsEach P (l.map (·.type)) (ys.map (·.1))).all (· ≤ reachBytes) = true → fitF P (fits P n) l off (P.cellsOf t) ty = true →
          ∃ ps, shape ty ps ∧ ImmL w (fun b => b < w.heap.size) (cs.drop off) ps := by
        intro l
        induction l with
        | nil =>
          intro ys off ty _ _ _ hf
          cases ty <;> simp [fitF] at hf
          refine ⟨[], rfl, ?_⟩
          rw [List.drop_of_length_le (by omega)]
          exact ⟨rfl, fun i v p hv => by simp at hv⟩
        | cons f l ihl =>
          intro ys off ty hll hl hwt hf
          cases ys with
          | nil => simp at hll
          | cons y ys =>
          cases ty <;> simp [fitF] at hf
          rename_i a b
          obtain ⟨⟨⟨h1, h2⟩, h3⟩, h4⟩ := hf
          have hy := hl 0 f rfl
          rw [List.getElem?_cons_zero] at hy
          simp only [List.map_cons, DataW.weightsEach, List.all_append, Bool.and_eq_true] at hwt
          obtain ⟨p, k1, k2⟩ := ih m (by omega) f.type _ y hy hwt.1 n a h3
          obtain ⟨q, j1, j2⟩ := ihl ys (off + a.size) b (by simpa using hll) (fun i f hf => by
            have := hl (i + 1) f (by simpa using hf)
            simpa using this) hwt.2 h4
          refine ⟨p ++ q, ⟨p, q, rfl, k1, j1⟩, ?_⟩
          rw [h1, h2] at k2
          have := k2.append j2
          rw [← List.drop_drop, List.take_append_drop] at this
          exact this
      obtain ⟨ps, k1, k2⟩ := go fs.toList xs 0 ty (by simpa using hxl.symm) (fun i f hf => hx i f (by simpa using hf)) hwt hf
      exact ⟨ps, k1, by simpa using k2⟩
    · cases hf
theorem arg_cell {t : TypeId} {v : Value} {d : DataW H} {ps : List MemPlace} {ty : Ty} (hv : v.cells = #[v]) (hd : DataW.Trod enc P w base spare held t v d ps) (hwt : (d.weights P t).all (· ≤ reachBytes) = true)
    (hf : fits P 8 t ty = true) : ∃ qs, shape ty qs ∧ ∀ q, qs = [q] → Rep w (fun b => b < w.heap.size) v q [] := by
  obtain ⟨fuel, hd⟩ := hd
  rw [hv] at hd
  obtain ⟨qs, h1, h2⟩ := tr_imm fuel t _ _ hd hwt 8 ty hf
  exact ⟨qs, h1, fun q hq => .plain (h2.2 0 v q rfl (by rw [hq]; rfl))⟩
end
end Go.PE
