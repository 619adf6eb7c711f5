/-
  A part of the proof that the law's function returns true and leaves its arguments as they were, for every input (no condition): own lemmas of the proof, in the order of their use.
-/
import Derived.Test.YtggpmnlmbfogeaaGreatDoorX26
import Derived.Test.YtggpmnlmbfogeaaGreatDoorX46
import Derived.Test.YtggpmnlmbfogeaaGreatDoorX31
set_option linter.all false
namespace Go.PE
open Go.RowKit Go.Proofs Go.Proofs.Tryz Go.ChangeShapes Go.WideShapes Go.ChangeAt
set_option maxRecDepth 100000
theorem linearNormalMeaning_lifted (os : Os) (started : os.Started) (H : Type) (enc : TypeId × Value → H) :
  ReturnsInHanded {} Tryz.checked os 10 .any (fun w args => (YtggpmnlmbfogeaaGreatDoor.Rows.linearNormalMeaningSpec.pre enc prog f10 [] false w args ∧ laidMetH prog laid5 w) ∧ sizedMet enc prog f10 (OpenSpec.ofChange YtggpmnlmbfogeaaGreatDoor.Rows.linearNormalMeaningSpec) false w args)
   (YtggpmnlmbfogeaaGreatDoor.Rows.linearNormalMeaningSpec.post enc prog f10 false true false false) := by
 refine returnsInHanded_of_change_and (C := Tryz.checked) (X := fun w _ => laidMetH prog laid5 w) (fun _ _ _ hh h => h.of_heap hh) (by kernel_rfl) started (by kernel_rfl) func10
  (ChangeSpec.witness_shaped (enc := enc) (C := Tryz.checked) (os := os) (X := fun w _ => laidMetH prog laid5 w) false (World.doorLaid prog 400 os) #[.slice none 0 0, .slice none 0 0] 8 rfl (World.shaped_of_RefB (by kernel_rfl) (by kernel_rfl)) (by kernel_rfl) (by kernel_rfl) (by kernel_rfl) (door_met os _)) ?_
 intro W base args ds gs before hval0 hW _ hwt hL _
 have hval : ∀ (j : Nat) t v, f10.params[j]? = some t → args[j]? = some v → Value.okWide prog W .any base t v := hval0
 have hW' := hW
 obtain ⟨p, q, hA0, hV, rfl, hfz, hnd⟩ := hW
 have hA : DataW.TrodAll enc prog W 0 (fun _ => true) true f10.params.toList args.toList ds p := hA0
 rw [params10] at hA hval
 obtain ⟨v0, vs0, d0, ds0, p0, q0, hargs, rfl, rfl, h0, hr0⟩ := trodAll_cons hA
 obtain ⟨v1, vs1, d1, ds1, p1, q1, rfl, rfl, rfl, h1, hr1⟩ := trodAll_cons hr0
 obtain ⟨rfl, rfl, rfl⟩ := trodAll_nil hr1
 obtain rfl : args = #[v0, v1] := by cases args; simp_all
 have hgs : gs = [] := by
  cases gs with
  | nil => rfl
  | cons g r => exact absurd hV (by intro h; cases h)
 subst hgs
 have hw : (DataW.weightsEach prog [27, 27] [d0, d1]).all (· ≤ reachBytes) = true := hwt
 simp only [DataW.weightsEach, List.append_nil, List.all_append, Bool.and_eq_true] at hw
 obtain ⟨A0, e0, c0, rfl⟩ := okWide_slice underlying27 (hval 0 27 v0 rfl rfl)
 obtain ⟨w0, s0, r0⟩ := arg_cell (v := .slice A0 e0 c0) rfl h0 hw.1 (ty := .sl 1 (.int .i64)) (by kernel_rfl)
 obtain ⟨xs0, rfl, hx0, hxs0⟩ := s0
 obtain ⟨l0, rfl⟩ := int_rows hxs0
 have hl0 : l0.length ≤ 17592186043904 := by
  have a := slice_wt underlying27 h0 hw.1
  have b := imm_len (r0 _ rfl)
  rw [zrow_len] at b
  rw [bytes3] at a
  have c : reachBytes = 140737488351232 := rfl
  omega
 obtain ⟨A1, e1, c1, rfl⟩ := okWide_slice underlying27 (hval 1 27 v1 rfl rfl)
 obtain ⟨w1, s1, r1⟩ := arg_cell (v := .slice A1 e1 c1) rfl h1 hw.2 (ty := .sl 1 (.int .i64)) (by kernel_rfl)
 obtain ⟨xs1, rfl, hx1, hxs1⟩ := s1
 obtain ⟨l1, rfl⟩ := int_rows hxs1
 have hl1 : l1.length ≤ 17592186043904 := by
  have a := slice_wt underlying27 h1 hw.2
  have b := imm_len (r1 _ rfl)
  rw [zrow_len] at b
  rw [bytes3] at a
  have c : reachBytes = 140737488351232 := rfl
  omega
 have hreach : reachBytes ≤ 4611686018427380000 := by decide
 have hT := law10_T l0 l1 (by omega) (by omega) awake_T
 have hM := (T_meets 21 10).1 rfl rfl
 have hreps : Reps W (fun b => b < W.heap.size) (#[.slice A0 e0 c0, .slice A1 e1 c1] : Array Value).toList [.imm 1 (zrow l0), .imm 1 (zrow l1)] [] :=
  (.cons (b := []) (bs := []) (r0 _ rfl) (.cons (b := []) (bs := []) (r1 _ rfl) .nil))
 refine (calls_of_meets func10 rfl (by decide) hM (glob_of_laid hL) hreps hT).mono fun e W' ⟨he, hB⟩ => ?_
 exact ⟨_, he, law_post rfl rfl (fun ds hd => by
  match ds, hd with
  | [a0, a1], _ => rfl) (fun t ht => read_all (l := [27, 27]) (by kernel_rfl) t (by rw [params10] at ht; exact ht)) hW' hB⟩
end Go.PE
