/-
  A part of the proof that the law's function returns true and leaves its arguments as they were, for every input (no condition): own lemmas of the proof, in the order of their use.
-/
import Derived.Test.YtggpmnlmbfogeaaGreatDoorW26
import Derived.Test.YtggpmnlmbfogeaaGreatDoorW30
import Derived.Test.YtggpmnlmbfogeaaGreatDoorW31
set_option linter.all false
namespace Go.PE
open Go.RowKit Go.Proofs Go.Proofs.Tryz Go.ChangeShapes Go.WideShapes Go.ChangeAt
set_option maxRecDepth 100000
theorem linearNormal_lifted (os : Os) (started : os.Started) (H : Type) (enc : TypeId × Value → H) :
    ReturnsInHanded {} Tryz.checked os 4 .any (fun w args => (YtggpmnlmbfogeaaGreatDoor.Rows.linearNormalSpec.pre enc prog f4 [] false w args ∧ laidMetH prog laid5 w) ∧ sizedMet enc prog f4 (OpenSpec.ofChange YtggpmnlmbfogeaaGreatDoor.Rows.linearNormalSpec) false w args)
      (YtggpmnlmbfogeaaGreatDoor.Rows.linearNormalSpec.post enc prog f4 false true false false) := by
  refine returnsInHanded_of_change_and (C := Tryz.checked) (X := fun w _ => laidMetH prog laid5 w) (fun _ _ _ hh h => h.of_heap hh) (by kernel_rfl) started (by kernel_rfl) func4
    (ChangeSpec.witness_shaped (enc := enc) (C := Tryz.checked) (os := os) (X := fun w _ => laidMetH prog laid5 w) false (World.doorLaid prog 400 os) #[.slice none 0 0, .agg #[.int .i64 0, .int .i64 0, .slice none 0 0, .string ⟨#[]⟩, .string ⟨#[]⟩]] 8 rfl (World.shaped_of_RefB (by kernel_rfl) (by kernel_rfl)) (by kernel_rfl) (by kernel_rfl) (by kernel_rfl) (door_met os _)) ?_
  intro W base args ds gs before hval0 hW _ hwt hL _
  have hval : ∀ (j : Nat) t v, f4.params[j]? = some t → args[j]? = some v → Value.okWide prog W .any base t v := hval0
  have hW' := hW
  obtain ⟨p, q, hA0, hV, rfl, hfz, hnd⟩ := hW
  have hA : DataW.TrodAll enc prog W 0 (fun _ => true) true f4.params.toList args.toList ds p := hA0
  rw [params4] at hA hval
  obtain ⟨v0, v1, d0, d1, p0, p1, rfl, rfl, rfl, h0, h1⟩ := trodAll_two hA
  have hgs : gs = [] := by
    cases gs with
    | nil => rfl
    | cons g r => exact absurd hV (by intro h; cases h)
  subst hgs
  have hw : (DataW.weightsEach prog [27, 26] [d0, d1]).all (· ≤ reachBytes) = true := hwt
  simp only [DataW.weightsEach, List.append_nil, List.all_append, Bool.and_eq_true] at hw
  obtain ⟨A2, l2, c2, rfl⟩ := okWide_slice underlying27 (hval 0 27 v0 rfl rfl)
  obtain ⟨q2, s2, r2⟩ := arg_cell (v := .slice A2 l2 c2) rfl h0 hw.1 (ty := .sl 1 (.int .i64)) (by kernel_rfl)
  obtain ⟨q1, s1, r1⟩ := arg_agg underlying26 (hval 1 26 v1 rfl rfl) h1 hw.2 (ty := tyCon) (by kernel_rfl)
  obtain ⟨b, rfl, hb⟩ := con_shape s1
  obtain ⟨xs, rfl, hx, hxs⟩ := s2
  obtain ⟨l, rfl⟩ := int_rows hxs
  have hreach : reachBytes ≤ 4611686018427387903 := by decide
  have hl : l.length ≤ reachBytes := by simpa [zrow] using hx
  have hT := law4_T b l (by omega) awake_T (fun rel us c M h1 h2 h3 h4 h5 => divisibility_T (k := 6) rel us c M h1 h2 h3 h4 h5)
  have hM := (T_meets 21 4).1 rfl rfl
  have hreps : Reps W (fun b => b < W.heap.size) (#[.slice A2 l2 c2, v1] : Array Value).toList [.imm 1 (zrow l), .agg (conP b)] [] :=
    .cons (b := []) (bs := []) (r2 _ rfl) (.cons (b := []) (bs := []) r1 .nil)
  refine (calls_of_meets func4 rfl (by decide) hM (glob_of_laid hL) hreps hT).mono fun e W' ⟨he, hB⟩ => ?_
  exact ⟨_, he, law_post rfl rfl (fun ds hd => by
    match ds, hd with
    | [a, b], _ => rfl) (fun t ht => read_all (l := [27, 26]) (by kernel_rfl) t (by rw [params4] at ht; exact ht)) hW' hB⟩
end Go.PE
