/-
  A part of the proof that the law's function returns true and leaves its arguments as they were, for every input (no condition): own lemmas of the proof, in the order of their use.
-/
import Derived.Test.YtggpmnlmbfogeaaGreatDoorX20
import Derived.Test.YtggpmnlmbfogeaaGreatDoorX21
import Derived.Test.YtggpmnlmbfogeaaGreatDoorX24
import Derived.Test.YtggpmnlmbfogeaaGreatDoorX25
import Derived.Test.YtggpmnlmbfogeaaGreatDoorTie
import Derived.Test.YtggpmnlmbfogeaaGreatDoorCards
import Derived.SevenTiedAt
set_option linter.all false
namespace Go.PE
open Go.RowKit Go.Proofs Go.Proofs.Tryz Go.ChangeShapes Go.WideShapes Go.ChangeAt
set_option maxRecDepth 100000
def tyTrm : Ty := .pair .str (.pair .str .unit)
def tyLin : Ty := .pair (.int .i64) (.pair (.sl 2 tyTrm) (.pair .str .unit))
def tyCon : Ty := .pair (.int .i64) (.pair tyLin (.pair .str .unit))
theorem trm_rows : ∀ {xs : List (List PV)}, (∀ x ∈ xs, shape tyTrm x) → ∃ ts : List Trm, xs = trow ts
 | [], _ => ⟨[], rfl⟩
 | x :: xs, h => by
  obtain ⟨ts, rfl⟩ := trm_rows (xs := xs) fun y hy => h y (by simp [hy])
  obtain ⟨p, q, rfl, ⟨a, rfl, _⟩, ⟨p2, q2, rfl, ⟨b, rfl, _⟩, rfl⟩⟩ := h x (by simp)
  exact ⟨(a, b) :: ts, rfl⟩
theorem int_rows : ∀ {xs : List (List PV)}, (∀ x ∈ xs, shape (.int .i64) x) → ∃ l : List Int, xs = zrow l
 | [], _ => ⟨[], rfl⟩
 | x :: xs, h => by
  obtain ⟨l, rfl⟩ := int_rows (xs := xs) fun y hy => h y (by simp [hy])
  obtain ⟨n, rfl, _⟩ := h x (by simp)
  exact ⟨n :: l, rfl⟩
theorem lin_shape {qs : List PV} (h : shape tyLin qs) : ∃ (kd : Int) (ts : List Trm) (c : Bs), qs = [.int .i64 kd, .imm 2 (trow ts), .str c] ∧ ts.length ≤ reachBytes := by
 obtain ⟨p, q, rfl, ⟨kd, rfl, _⟩, ⟨p2, q2, rfl, ⟨xs, rfl, hl, hx⟩, ⟨p3, q3, rfl, ⟨c, rfl, _⟩, rfl⟩⟩⟩ := h
 obtain ⟨ts, rfl⟩ := trm_rows hx
 exact ⟨kd, ts, c, rfl, by rw [trow_len] at hl; exact hl⟩
theorem read_all {l : List TypeId} (h : (l.all fun t => prog.readableRec t && decide (t < prog.types.size)) = true) : ∀ t ∈ l, prog.readableRec t = true ∧ t < prog.types.size := by
 intro t ht
 have := List.all_eq_true.1 h t ht
 simpa [Bool.and_eq_true] using this
end Go.PE
