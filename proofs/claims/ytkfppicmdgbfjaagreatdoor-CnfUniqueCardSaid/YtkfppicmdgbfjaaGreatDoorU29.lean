/-
  A part of the proof that the law's function returns true and leaves its arguments as they were, for every input (no condition): own lemmas of the proof, in the order of their use.
-/
import Derived.Test.YtkfppicmdgbfjaaGreatDoorU21
import Derived.Test.YtkfppicmdgbfjaaGreatDoorU22
import Derived.Test.YtkfppicmdgbfjaaGreatDoorU28
set_option linter.all false
namespace Go.PE
open Go.RowKit Go.Proofs Go.Proofs.Tryz Go.ChangeShapes Go.WideShapes Go.ChangeAt
set_option maxRecDepth 100000
theorem bool_rows : ∀ {xs : List (List PV)}, (∀ x ∈ xs, shape .bool x) → ∃ l : List Bool, xs = brow l
  | [], _ => ⟨[], rfl⟩
  | x :: xs, h => by
    obtain ⟨l, rfl⟩ := bool_rows (xs := xs) fun y hy => h y (by simp [hy])
    obtain ⟨n, rfl⟩ := h x (by simp)
    exact ⟨n :: l, rfl⟩
def tyNode : Ty := .pair (.int .i64) (.pair (.int .i64) (.pair .str (.pair .str (.pair (.int .i64) .unit))))
theorem node_rows : ∀ {xs : List (List PV)}, (∀ x ∈ xs, shape tyNode x) → ∃ l : List Node, xs = nrow l
  | [], _ => ⟨[], rfl⟩
  | x :: xs, h => by
    obtain ⟨l, rfl⟩ := node_rows (xs := xs) fun y hy => h y (by simp [hy])
    obtain ⟨p, q, rfl, ⟨a, rfl, _⟩, ⟨p2, q2, rfl, ⟨b, rfl, _⟩, ⟨p3, q3, rfl, ⟨c, rfl, _⟩, ⟨p4, q4, rfl, ⟨d, rfl, _⟩, ⟨p5, q5, rfl, ⟨e, rfl, _⟩, rfl⟩⟩⟩⟩⟩ := h x (by simp)
    exact ⟨⟨a, b, e, c, d⟩ :: l, rfl⟩
theorem read_all {l : List TypeId} (h : (l.all fun t => prog.readableRec t && decide (t < prog.types.size)) = true) : ∀ t ∈ l, prog.readableRec t = true ∧ t < prog.types.size := by
  intro t ht
  have := List.all_eq_true.1 h t ht
  simpa [Bool.and_eq_true] using this
theorem cnfUnique_lifted (os : Os) (started : os.Started) (H : Type) (enc : TypeId × Value → H) :
    ReturnsInHanded {} Tryz.checked os 5 .any (fun w args => (YtkfppicmdgbfjaaGreatDoor.Rows.cnfUniqueSpec.pre enc prog f5 [] false w args ∧ laidMetH prog laid5 w) ∧ sizedMet enc prog f5 (OpenSpec.ofChange YtkfppicmdgbfjaaGreatDoor.Rows.cnfUniqueSpec) false w args)
      (YtkfppicmdgbfjaaGreatDoor.Rows.cnfUniqueSpec.post enc prog f5 false true false false) := by
  refine returnsInHanded_of_change_and (C := Tryz.checked) (X := fun w _ => laidMetH prog laid5 w) (fun _ _ _ hh h => h.of_heap hh) (by kernel_rfl) started (by kernel_rfl) func5
    (ChangeSpec.witness_shaped (enc := enc) (C := Tryz.checked) (os := os) (X := fun w _ => laidMetH prog laid5 w) false (World.doorLaid prog 400 os) #[.slice none 0 0, .slice none 0 0] 8 rfl (World.shaped_of_RefB (by kernel_rfl) (by kernel_rfl)) (by kernel_rfl) (by kernel_rfl) (by kernel_rfl) (door_met os _)) ?_
  intro W base args ds gs before hval0 hW _ hwt hL _
  have hval : ∀ (j : Nat) t v, f5.params[j]? = some t → args[j]? = some v → Value.okWide prog W .any base t v := hval0
  have hW' := hW
  obtain ⟨p, q, hA0, hV, rfl, hfz, hnd⟩ := hW
  have hA : DataW.TrodAll enc prog W 0 (fun _ => true) true f5.params.toList args.toList ds p := hA0
  rw [params5] at hA hval
  obtain ⟨v0, vs0, d0, ds0, p0, q0, hargs, rfl, rfl, h0, hr0⟩ := trodAll_cons hA
  obtain ⟨v1, vs1, d1, ds1, p1, q1, rfl, rfl, rfl, h1, hr1⟩ := trodAll_cons hr0
  obtain ⟨rfl, rfl, rfl⟩ := trodAll_nil hr1
  obtain rfl : args = #[v0, v1] := by cases args; simp_all
  have hgs : gs = [] := by
    cases gs with
    | nil => rfl
    | cons g r => exact absurd hV (by intro h; cases h)
  subst hgs
  have hw : (DataW.weightsEach prog [32, 23] [d0, d1]).all (· ≤ reachBytes) = true := hwt
  simp only [DataW.weightsEach, List.append_nil, List.all_append, Bool.and_eq_true] at hw
  obtain ⟨A0, e0, c0, rfl⟩ := okWide_slice underlying32 (hval 0 32 v0 rfl rfl)
  obtain ⟨w0, s0, r0⟩ := arg_cell (v := .slice A0 e0 c0) rfl h0 hw.1 (ty := .sl 5 tyNode) (by kernel_rfl)
  obtain ⟨xs0, rfl, hx0, hxs0⟩ := s0
  obtain ⟨t, rfl⟩ := node_rows hxs0
  obtain ⟨A1, e1, c1, rfl⟩ := okWide_slice underlying23 (hval 1 23 v1 rfl rfl)
  obtain ⟨w1, s1, r1⟩ := arg_cell (v := .slice A1 e1 c1) rfl h1 hw.2 (ty := .sl 1 .bool) (by kernel_rfl)
  obtain ⟨xs1, rfl, hx1, hxs1⟩ := s1
  obtain ⟨vs, rfl⟩ := bool_rows hxs1
  rw [nrow_len] at hx0
  rw [brow_len] at hx1
  have hreach : reachBytes ≤ 4611686018427380000 := by decide
  have hT := law5_T t vs (by omega) (by omega) awake_T
  have hM := (T_meets 221 5).1 rfl rfl
  have hreps : Reps W (fun b => b < W.heap.size) (#[.slice A0 e0 c0, .slice A1 e1 c1] : Array Value).toList [.imm 5 (nrow t), .imm 1 (brow vs)] [] :=
    .cons (b := []) (bs := []) (r0 _ rfl) (.cons (b := []) (bs := []) (r1 _ rfl) .nil)
  refine (calls_of_meets func5 rfl (by decide) hM (glob_of_laid hL) hreps hT).mono fun e W' ⟨he, hB⟩ => ?_
  exact ⟨_, he, law_post rfl rfl (fun ds hd => by
    match ds, hd with
    | [a, b], _ => rfl) (fun t ht => read_all (l := [32, 23]) (by kernel_rfl) t (by rw [params5] at ht; exact ht)) hW' hB⟩
end Go.PE
