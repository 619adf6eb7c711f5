/-
  A part of the proof that the law's function returns true and leaves its arguments as they were, for every input (no condition): own lemmas of the proof, in the order of their use.
-/
import Derived.Test.YtggpmnlmbfogeaaGreatDoorV29
import Derived.Test.YtggpmnlmbfogeaaGreatDoorV27
import Derived.Test.YtggpmnlmbfogeaaGreatDoorV24
import Derived.Test.YtggpmnlmbfogeaaGreatDoorV28
import Derived.Test.YtggpmnlmbfogeaaGreatDoorTie
import Derived.Test.YtggpmnlmbfogeaaGreatDoorCards
import Derived.SevenTiedAt
set_option linter.all false
namespace Go.PE
open Go.RowKit Go.Proofs Go.Proofs.Tryz Go.ChangeShapes Go.WideShapes Go.ChangeAt
set_option maxRecDepth 100000
def tyTrm : Ty := .pair .str (.pair .str .unit)
def tyLin : Ty := .pair (.int .i64) (.pair (.sl 2 tyTrm) (.pair .str .unit))
def tyCon : Ty := .pair (.int .i64) (.pair tyLin (.pair .str .unit))
theorem trm_rows : ∀ {xs : List (List PV)}, (∀ x ∈ xs, shape tyTrm x) → ∃ ts : List Trm, xs = trow ts
  | [], _ => ⟨[], rfl⟩
  | x :: xs, h => by
    obtain ⟨ts, rfl⟩ := trm_rows (xs := xs) fun y hy => h y (by simp [hy])
    obtain ⟨p, q, rfl, ⟨a, rfl, _⟩, ⟨p2, q2, rfl, ⟨b, rfl, _⟩, rfl⟩⟩ := h x (by simp)
    exact ⟨(a, b) :: ts, rfl⟩
theorem int_rows : ∀ {xs : List (List PV)}, (∀ x ∈ xs, shape (.int .i64) x) → ∃ l : List Int, xs = zrow l
  | [], _ => ⟨[], rfl⟩
  | x :: xs, h => by
    obtain ⟨l, rfl⟩ := int_rows (xs := xs) fun y hy => h y (by simp [hy])
    obtain ⟨n, rfl, _⟩ := h x (by simp)
    exact ⟨n :: l, rfl⟩
theorem lin_shape {qs : List PV} (h : shape tyLin qs) : ∃ (kd : Int) (ts : List Trm) (c : Bs), qs = [.int .i64 kd, .imm 2 (trow ts), .str c] ∧ ts.length ≤ reachBytes := by
  obtain ⟨p, q, rfl, ⟨kd, rfl, _⟩, ⟨p2, q2, rfl, ⟨xs, rfl, hl, hx⟩, ⟨p3, q3, rfl, ⟨c, rfl, _⟩, rfl⟩⟩⟩ := h
  obtain ⟨ts, rfl⟩ := trm_rows hx
  exact ⟨kd, ts, c, rfl, by rw [trow_len] at hl; exact hl⟩
theorem con_shape {qs : List PV} (h : shape tyCon qs) : ∃ b : Con, qs = conP b ∧ b.ts.length ≤ reachBytes := by
  obtain ⟨p, q, rfl, ⟨rel, rfl, _⟩, ⟨p2, q2, rfl, h2, ⟨p3, q3, rfl, ⟨m, rfl, _⟩, rfl⟩⟩⟩ := h
  obtain ⟨kd, ts, c, rfl, hl⟩ := lin_shape h2
  exact ⟨⟨rel, kd, ts, c, m⟩, rfl, hl⟩
theorem read_all {l : List TypeId} (h : (l.all fun t => prog.readableRec t && decide (t < prog.types.size)) = true) : ∀ t ∈ l, prog.readableRec t = true ∧ t < prog.types.size := by
  intro t ht
  have := List.all_eq_true.1 h t ht
  simpa [Bool.and_eq_true] using this
theorem linearValid_lifted (os : Os) (started : os.Started) (H : Type) (enc : TypeId × Value → H) :
    ReturnsInHanded {} Tryz.checked os 3 .any (fun w args => (YtggpmnlmbfogeaaGreatDoor.Rows.linearValidSpec.pre enc prog f3 [] false w args ∧ laidMetH prog laid5 w) ∧ sizedMet enc prog f3 (OpenSpec.ofChange YtggpmnlmbfogeaaGreatDoor.Rows.linearValidSpec) false w args)
      (YtggpmnlmbfogeaaGreatDoor.Rows.linearValidSpec.post enc prog f3 false true false false) := by
  refine returnsInHanded_of_change_and (C := Tryz.checked) (X := fun w _ => laidMetH prog laid5 w) (fun _ _ _ hh h => h.of_heap hh) (by kernel_rfl) started (by kernel_rfl) func3
    (ChangeSpec.witness_shaped (enc := enc) (C := Tryz.checked) (os := os) (X := fun w _ => laidMetH prog laid5 w) false (World.doorLaid prog 400 os) #[.agg #[.int .i64 0, .slice none 0 0, .string ⟨#[]⟩], .agg #[.int .i64 0, .int .i64 0, .slice none 0 0, .string ⟨#[]⟩, .string ⟨#[]⟩], .slice none 0 0] 8 rfl (World.shaped_of_RefB (by kernel_rfl) (by kernel_rfl)) (by kernel_rfl) (by kernel_rfl) (by kernel_rfl) (door_met os _)) ?_
  intro W base args ds gs before hval0 hW _ hwt hL _
  have hval : ∀ (j : Nat) t v, f3.params[j]? = some t → args[j]? = some v → Value.okWide prog W .any base t v := hval0
  have hW' := hW
  obtain ⟨p, q, hA0, hV, rfl, hfz, hnd⟩ := hW
  have hA : DataW.TrodAll enc prog W 0 (fun _ => true) true f3.params.toList args.toList ds p := hA0
  rw [params3] at hA hval
  obtain ⟨v0, v1, v2, d0, d1, d2, p0, p1, p2, rfl, rfl, rfl, h0, h1, h2⟩ := trodAll_three hA
  have hgs : gs = [] := by
    cases gs with
    | nil => rfl
    | cons g r => exact absurd hV (by intro h; cases h)
  subst hgs
  have hw : (DataW.weightsEach prog [24, 26, 27] [d0, d1, d2]).all (· ≤ reachBytes) = true := hwt
  simp only [DataW.weightsEach, List.append_nil, List.all_append, Bool.and_eq_true] at hw
  obtain ⟨q0, s0, r0⟩ := arg_agg underlying24 (hval 0 24 v0 rfl rfl) h0 hw.1 (ty := tyLin) (by kernel_rfl)
  obtain ⟨q1, s1, r1⟩ := arg_agg underlying26 (hval 1 26 v1 rfl rfl) h1 hw.2.1 (ty := tyCon) (by kernel_rfl)
  obtain ⟨A2, l2, c2, rfl⟩ := okWide_slice underlying27 (hval 2 27 v2 rfl rfl)
  obtain ⟨q2, s2, r2⟩ := arg_cell (v := .slice A2 l2 c2) rfl h2 hw.2.2 (ty := .sl 1 (.int .i64)) (by kernel_rfl)
  obtain ⟨kd, ts, c, rfl, hts⟩ := lin_shape s0
  obtain ⟨b, rfl, hb⟩ := con_shape s1
  obtain ⟨xs, rfl, hx, hxs⟩ := s2
  obtain ⟨l, rfl⟩ := int_rows hxs
  have hreach : reachBytes ≤ 4611686018427387903 := by decide
  have hl : l.length ≤ reachBytes := by simpa [zrow] using hx
  have hT := law_T kd ts c b l (by omega) (by omega) awake_T
  have hM := (T_meets 21 3).1 rfl rfl
  have hreps : Reps W (fun b => b < W.heap.size) (#[v0, v1, .slice A2 l2 c2] : Array Value).toList [.agg [.int .i64 kd, .imm 2 (trow ts), .str c], .agg (conP b), .imm 1 (zrow l)] [] :=
    .cons (b := []) (bs := []) r0 (.cons (b := []) (bs := []) r1 (.cons (b := []) (bs := []) (r2 _ rfl) .nil))
  refine (calls_of_meets func3 rfl (by decide) hM (glob_of_laid hL) hreps hT).mono fun e W' ⟨he, hB⟩ => ?_
  exact ⟨_, he, law_post rfl rfl (fun ds hd => by
    match ds, hd with
    | [a, b, c], _ => rfl) (fun t ht => read_all (l := [24, 26, 27]) (by kernel_rfl) t (by rw [params3] at ht; exact ht)) hW' hB⟩
end Go.PE
