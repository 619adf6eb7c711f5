/-
  A part of the proof that the law's function returns true and leaves its arguments as they were, for every input (no condition): own lemmas of the proof, in the order of their use.
-/
import Derived.Test.YtggpmnlmbfogeaaGreatDoorV14
set_option linter.all false
namespace Go.PE
open Go.RowKit Go.Proofs.Tryz
set_option maxRecDepth 100000
variable {k : Nat}
theorem tmodB (v : Nat) : ((v : Int)).tmod 1000000000 = ((v % 1000000000 : Nat) : Int) := rfl
theorem tdivB (v : Nat) : ((v : Int)).tdiv 1000000000 = ((v / 1000000000 : Nat) : Int) := rfl
theorem lval_take_ge {l : List Nat} {i : Nat} (h : l.length ≤ i) : lval (l.take i) = lval l := by rw [List.take_of_length_le h]
theorem getD_ge {l : List Nat} {i : Nat} (h : l.length ≤ i) : l.getD i 0 = 0 := by rw [List.getD, List.getElem?_eq_none h]; rfl
theorem lval_step (l : List Nat) (i : Nat) : lval (l.take (i + 1)) = lval (l.take i) + 1000000000 ^ i * l.getD i 0 := by
  by_cases h : i < l.length
  · exact lval_take_succ h
  · rw [lval_take_ge (by omega), lval_take_ge (by omega), getD_ge (by omega)]; simp
end Go.PE
namespace Go.PE
open Go.RowKit Go.Proofs.Tryz
set_option maxRecDepth 100000
variable {k : Nat}
theorem cmp_T (a b : Nat) (ha : ln a < 549755813888) (hb : ln b < 549755813888) : ∃ r : Int, T (k + 1) 200 [.imm 1 (row (limbs a)), .imm 1 (row (limbs b))] = some (.int .i64 r, []) ∧ (r < 0 ↔ a < b) ∧ (r = 0 ↔ a = b) := by
  by_cases hl : ln a = ln b
  · have key : ∀ j, j ≤ ln a → (limbs a).drop j = (limbs b).drop j → ∃ r : Int, (∃ i, i < j ∧ r = ((limbs a).getD i 0 : Int) - (limbs b).getD i 0 ∧ r ≠ 0 ∧ (limbs a).drop (i + 1) = (limbs b).drop (i + 1)) ∨ (limbs a = limbs b ∧ r = 0) := by
      intro j
      induction j with
      | zero => intro _ h; simp only [List.drop_zero] at h; exact ⟨0, .inr ⟨h, rfl⟩⟩
      | succ j ih =>
        intro hj h
        by_cases he : (limbs a).getD j 0 = (limbs b).getD j 0
        · have : (limbs a).drop j = (limbs b).drop j := by
            unfold ln at hj hl; rw [drop_getD (l := limbs a) (i := j) (by omega), drop_getD (l := limbs b) (i := j) (by omega), h, he]
          obtain ⟨r, h1 | h1⟩ := ih (by omega) this
          · obtain ⟨i, h2, h3⟩ := h1
            exact ⟨r, .inl ⟨i, by omega, h3⟩⟩
          · exact ⟨r, .inr h1⟩
        · exact ⟨((limbs a).getD j 0 : Int) - (limbs b).getD j 0, .inl ⟨j, by omega, rfl, by omega, h⟩⟩
    obtain ⟨r, hr⟩ := key (ln a) (Nat.le_refl _) (by rw [List.drop_of_length_le (show (limbs a).length ≤ ln a from Nat.le_refl _), List.drop_of_length_le (show (limbs b).length ≤ ln a by unfold ln at hl ⊢; omega)])
    refine ⟨r, ?_, ?_⟩
    · unfold ln at ha hb hl
      have oa := okL_limbs a
      have ob := okL_limbs b
      refine enter rfl func200 rfl (by decide) (by kernel_rfl) rfl rfl ?_
      repeat (first | refine WX.step tab_eq rfl rfl trivial ?_ | refine WX.step tab_eq rfl rfl (by decide) ?_ | refine WX.nil ?_ | refine W.seq ?_ | refine W.region ?_ | refine W.regionD ?_ | refine W.block ?_ | refine W.skip ?_ | refine W.exit ?_ | refine W.ret ?_ | refine W.condT rfl ?_ | refine W.condF rfl ?_ | refine WX.skip rfl ?_)
      refine W.cond rfl (fun hne => ?_) (fun hne => ?_)
      · have := of_decide_eq_true hne
        rw [row_len, row_len] at this
        omega
      · clear hne
        repeat (first | refine WX.step tab_eq rfl rfl trivial ?_ | refine WX.step tab_eq rfl rfl (by decide) ?_ | refine WX.nil ?_ | refine W.seq ?_ | refine W.region ?_ | refine W.regionD ?_ | refine W.block ?_ | refine W.skip ?_ | refine W.exit ?_ | refine W.ret ?_ | refine W.condT rfl ?_ | refine W.condF rfl ?_ | refine WX.skip rfl ?_)
        rw [row_len, wrap_i64 (x := ((limbs a).length : Int) - 1) (by omega) (by omega)]
        refine W.loop (fun e m => ∃ j : Nat, e = [(0, .imm 1 (row (limbs a))), (1, .imm 1 (row (limbs b))), (5, .int .i64 ((j : Int) - 1))] ∧ j ≤ (limbs a).length ∧ (limbs a).drop j = (limbs b).drop j ∧ m = j) (limbs a).length ?_ ?_ ?_
        · exact ⟨(limbs a).length, rfl, by omega, by rw [List.drop_of_length_le (Nat.le_refl _), List.drop_of_length_le (by omega)], rfl⟩
        · show _ < 4611686018427387904; omega
        · rintro e m ⟨j, rfl, hj, hd, rfl⟩
          repeat (first | refine WX.step tab_eq rfl rfl trivial ?_ | refine WX.step tab_eq rfl rfl (by decide) ?_ | refine WX.nil ?_ | refine W.seq ?_ | refine W.region ?_ | refine W.regionD ?_ | refine W.block ?_ | refine W.skip ?_ | refine W.exit ?_ | refine W.ret ?_ | refine W.condT rfl ?_ | refine W.condF rfl ?_ | refine WX.skip rfl ?_)
          refine W.cond rfl (fun hge => ?_) (fun hge => ?_)
          · have hge := of_decide_eq_true hge
            obtain ⟨i, rfl⟩ : ∃ i, m = i + 1 := ⟨m - 1, by omega⟩
            rw [show ((i + 1 : Nat) : Int) - 1 = (i : Int) by omega]
            have g1 := row_get (l := limbs a) (i := i) (by omega)
            have g2 := row_get (l := limbs b) (i := i) (by omega)
            repeat (first | refine WX.step tab_eq rfl rfl trivial ?_ | refine WX.step tab_eq rfl rfl (by decide) ?_ | refine WX.nil ?_ | refine W.seq ?_ | refine W.region ?_ | refine W.regionD ?_ | refine W.block ?_ | refine W.skip ?_ | refine W.exit ?_ | refine W.ret ?_ | refine W.condT rfl ?_ | refine W.condF rfl ?_ | refine WX.skip rfl ?_)
            repeat (first | refine WX.stepD tab_eq rfl rfl trivial ?_ | refine WX.stepD tab_eq rfl rfl (by decide) ?_ | refine WX.skipD rfl ?_)
            refine WX.idxImmD tab_eq rfl rfl rfl rfl rfl rfl (by omega) (g1) ?_
            repeat (first | refine WX.stepD tab_eq rfl rfl trivial ?_ | refine WX.stepD tab_eq rfl rfl (by decide) ?_ | refine WX.skipD rfl ?_)
            refine WX.idxImmD tab_eq rfl rfl rfl rfl rfl rfl (by omega) (g2) ?_
            repeat (first | refine WX.stepD tab_eq rfl rfl trivial ?_ | refine WX.stepD tab_eq rfl rfl (by decide) ?_ | refine WX.skipD rfl ?_)
            refine WX.nilD (by kernel_rfl) ?_
            repeat (first | refine WX.step tab_eq rfl rfl trivial ?_ | refine WX.step tab_eq rfl rfl (by decide) ?_ | refine WX.nil ?_ | refine W.seq ?_ | refine W.region ?_ | refine W.regionD ?_ | refine W.block ?_ | refine W.skip ?_ | refine W.exit ?_ | refine W.ret ?_ | refine W.condT rfl ?_ | refine W.condF rfl ?_ | refine WX.skip rfl ?_)
            refine W.cond rfl (fun hd2 => ?_) (fun hd2 => ?_)
            · have hd2 := of_decide_eq_true hd2
              repeat (first | refine WX.step tab_eq rfl rfl trivial ?_ | refine WX.step tab_eq rfl rfl (by decide) ?_ | refine WX.nil ?_ | refine W.seq ?_ | refine W.region ?_ | refine W.regionD ?_ | refine W.block ?_ | refine W.skip ?_ | refine W.exit ?_ | refine W.ret ?_ | refine W.condT rfl ?_ | refine W.condF rfl ?_ | refine WX.skip rfl ?_)
              repeat (first | refine WX.stepD tab_eq rfl rfl trivial ?_ | refine WX.stepD tab_eq rfl rfl (by decide) ?_ | refine WX.skipD rfl ?_)
              refine WX.idxImmD tab_eq rfl rfl rfl rfl rfl rfl (by omega) (g1) ?_
              repeat (first | refine WX.stepD tab_eq rfl rfl trivial ?_ | refine WX.stepD tab_eq rfl rfl (by decide) ?_ | refine WX.skipD rfl ?_)
              refine WX.idxImmD tab_eq rfl rfl rfl rfl rfl rfl (by omega) (g2) ?_
              repeat (first | refine WX.stepD tab_eq rfl rfl trivial ?_ | refine WX.stepD tab_eq rfl rfl (by decide) ?_ | refine WX.skipD rfl ?_)
              refine WX.nilD (by kernel_rfl) ?_
              repeat (first | refine WX.step tab_eq rfl rfl trivial ?_ | refine WX.step tab_eq rfl rfl (by decide) ?_ | refine WX.nil ?_ | refine W.seq ?_ | refine W.region ?_ | refine W.regionD ?_ | refine W.block ?_ | refine W.skip ?_ | refine W.exit ?_ | refine W.ret ?_ | refine W.condT rfl ?_ | refine W.condF rfl ?_ | refine WX.skip rfl ?_)
              have b1 := okL_getD oa i
              have b2 := okL_getD ob i
              have hd2 : ((limbs a).getD i 0 : Int) ≠ (limbs b).getD i 0 := hd2
              rw [wrap_i64 (x := ((limbs a).getD i 0 : Nat)) (by omega) (by omega), wrap_i64 (x := ((limbs b).getD i 0 : Nat)) (by omega) (by omega), wrap_i64 (by omega) (by omega)]
              have : r = ((limbs a).getD i 0 : Int) - (limbs b).getD i 0 := by
                rcases hr with ⟨i2, h1, h2, h3, h4⟩ | ⟨h1, _⟩
                · rcases Nat.lt_trichotomy i2 i with h | h | h
                  · exfalso
                    have e1 : (limbs a).getD i 0 = (limbs b).getD i 0 := by
                      have := congrArg (fun l => l.getD (i - (i2 + 1)) 0) h4
                      simpa [List.getD, List.getElem?_drop, show i2 + 1 + (i - (i2 + 1)) = i by omega] using this
                    omega
                  · subst h; exact h2
                  · exfalso
                    apply h3
                    have e1 : (limbs a).getD i2 0 = (limbs b).getD i2 0 := by
                      have := congrArg (fun l => l.getD (i2 - (i + 1)) 0) hd
                      simpa [List.getD, List.getElem?_drop, show i + 1 + (i2 - (i + 1)) = i2 by omega] using this
                    omega
                · exfalso
                  rw [h1] at hd2
                  exact hd2 rfl
              rw [this]
              rfl
            · have hd2 := of_decide_eq_false hd2
              have hd2 : (limbs a).getD i 0 = (limbs b).getD i 0 := by
                have : ¬ (((limbs a).getD i 0 : Nat) : Int) ≠ ((limbs b).getD i 0 : Nat) := hd2
                omega
              repeat (first | refine WX.step tab_eq rfl rfl trivial ?_ | refine WX.step tab_eq rfl rfl (by decide) ?_ | refine WX.nil ?_ | refine W.seq ?_ | refine W.region ?_ | refine W.regionD ?_ | refine W.block ?_ | refine W.skip ?_ | refine W.exit ?_ | refine W.ret ?_ | refine W.condT rfl ?_ | refine W.condF rfl ?_ | refine WX.skip rfl ?_)
              rw [wrap_i64 (by omega) (by omega)]
              show ∃ m', _
              refine ⟨i, by omega, i, rfl, by omega, ?_, rfl⟩
              rw [drop_getD (l := limbs a) (i := i) (by omega), drop_getD (l := limbs b) (i := i) (by omega), hd, hd2]
          · have hge := of_decide_eq_false hge
            have : m = 0 := by omega
            subst this
            repeat (first | refine WX.step tab_eq rfl rfl trivial ?_ | refine WX.step tab_eq rfl rfl (by decide) ?_ | refine WX.nil ?_ | refine W.seq ?_ | refine W.region ?_ | refine W.regionD ?_ | refine W.block ?_ | refine W.skip ?_ | refine W.exit ?_ | refine W.ret ?_ | refine W.condT rfl ?_ | refine W.condF rfl ?_ | refine WX.skip rfl ?_)
            simp only [List.drop_zero] at hd
            have : r = 0 := by
              rcases hr with ⟨i2, h1, h2, h3, h4⟩ | ⟨_, h⟩
              · exfalso; rw [hd] at h2; omega
              · exact h
            rw [this]
            rfl
    · rcases hr with ⟨i, h1, h2, h3, h4⟩ | ⟨h1, h2⟩
      · have oa := okL_limbs a
        have ob := okL_limbs b
        have va := lval_limbs a
        have vb := lval_limbs b
        unfold ln at h1 hl
        rw [lval_take_drop (limbs a) i (by omega), drop_getD (by omega), lval, h4] at va
        rw [lval_take_drop (limbs b) i (by omega), drop_getD (by omega), lval] at vb
        have b1 := lval_lt (okL_take oa i)
        have b2 := lval_lt (okL_take ob i)
        rw [List.length_take, Nat.min_eq_left (by omega)] at b1 b2
        generalize (limbs a).getD i 0 = x at *
        generalize (limbs b).getD i 0 = y at *
        generalize lval ((limbs b).drop (i + 1)) = z at *
        generalize lval ((limbs a).take i) = ta at *
        generalize lval ((limbs b).take i) = tb at *
        generalize 1000000000 ^ i = p at *
        have e1 : p * (x + 1000000000 * z) = p * x + p * (1000000000 * z) := Nat.mul_add ..
        have e2 : p * (y + 1000000000 * z) = p * y + p * (1000000000 * z) := Nat.mul_add ..
        rcases Nat.lt_trichotomy x y with h | h | h
        · have := Nat.mul_le_mul_left p (show x + 1 ≤ y by omega)
          rw [Nat.mul_add, Nat.mul_one] at this
          exact ⟨⟨fun _ => by omega, fun _ => by omega⟩, ⟨fun _ => by omega, fun _ => by omega⟩⟩
        · omega
        · have := Nat.mul_le_mul_left p (show y + 1 ≤ x by omega)
          rw [Nat.mul_add, Nat.mul_one] at this
          exact ⟨⟨fun _ => by omega, fun _ => by omega⟩, ⟨fun _ => by omega, fun _ => by omega⟩⟩
      · have : a = b := by rw [← lval_limbs a, h1, lval_limbs]
        subst this h2
        simp
  · refine ⟨(ln a : Int) - ln b, ?_, ?_, ?_⟩
    · refine enter rfl func200 rfl (by decide) (by kernel_rfl) rfl rfl ?_
      repeat (first | refine WX.step tab_eq rfl rfl trivial ?_ | refine WX.step tab_eq rfl rfl (by decide) ?_ | refine WX.nil ?_ | refine W.seq ?_ | refine W.region ?_ | refine W.regionD ?_ | refine W.block ?_ | refine W.skip ?_ | refine W.exit ?_ | refine W.ret ?_ | refine W.condT rfl ?_ | refine W.condF rfl ?_ | refine WX.skip rfl ?_)
      refine W.cond rfl (fun hne => ?_) (fun hne => ?_)
      · repeat (first | refine WX.step tab_eq rfl rfl trivial ?_ | refine WX.step tab_eq rfl rfl (by decide) ?_ | refine WX.nil ?_ | refine W.seq ?_ | refine W.region ?_ | refine W.regionD ?_ | refine W.block ?_ | refine W.skip ?_ | refine W.exit ?_ | refine W.ret ?_ | refine W.condT rfl ?_ | refine W.condF rfl ?_ | refine WX.skip rfl ?_)
        rw [row_len, row_len, wrap_i64 (by unfold ln at ha hb; omega) (by unfold ln at ha hb; omega)]
        rfl
      · have := of_decide_eq_false hne
        rw [row_len, row_len] at this
        unfold ln at hl
        omega
    · constructor
      · intro h; exact lt_of_ln_lt (by omega)
      · intro h
        have := ln_mono (Nat.le_of_lt h)
        omega
    · constructor
      · intro h; omega
      · intro h; subst h; omega
end Go.PE
namespace Go.PE
open Go.RowKit Go.Proofs.Tryz
set_option maxRecDepth 100000
variable {k : Nat}
theorem lval_set : ∀ (l : List Nat) (i x : Nat), i < l.length → lval (l.set i x) + 1000000000 ^ i * l.getD i 0 = lval l + 1000000000 ^ i * x
  | [], i, x, h => by simp at h
  | a :: l, 0, x, h => by simp [lval]; omega
  | a :: l, i + 1, x, h => by
    have := lval_set l i x (by simpa using h)
    rw [List.set_cons_succ, lval, lval, List.getD_cons_succ, Nat.pow_succ]
    rw [Nat.mul_comm (1000000000 ^ i) 1000000000, Nat.mul_assoc, Nat.mul_assoc]
    omega
theorem getD_set_ne {l : List Nat} {i j x : Nat} (h : i ≠ j) : (l.set i x).getD j 0 = l.getD j 0 := by
  simp only [List.getD, List.getElem?_set, if_neg h]
theorem getD_rep (n j : Nat) : (List.replicate n 0).getD j 0 = 0 := by
  simp only [List.getD, List.getElem?_replicate]
  split <;> rfl
theorem mul_T (a b : Nat) (ha : ln a < 274877906944) (hb : ln b < 274877906944) : T (k + 2) 189 [.imm 1 (row (limbs a)), .imm 1 (row (limbs b))] = some (.own (0, 0) 1 (row (limbs (a * b))), []) := by
  unfold ln at ha hb
  generalize hla : limbs a = la at ha
  generalize hlb : limbs b = lb at hb
  have oa : okL la = true := hla ▸ okL_limbs a
  have ob : okL lb = true := hlb ▸ okL_limbs b
  have va : lval la = a := hla ▸ lval_limbs a
  have vb : lval lb = b := hlb ▸ lval_limbs b
  refine enter rfl func189 rfl (by decide) (by kernel_rfl) rfl rfl ?_
  repeat (first | refine WX.step tab_eq rfl rfl trivial ?_ | refine WX.step tab_eq rfl rfl (by decide) ?_ | refine WX.nil ?_ | refine W.seq ?_ | refine W.region ?_ | refine W.regionD ?_ | refine W.block ?_ | refine W.skip ?_ | refine W.exit ?_ | refine W.ret ?_ | refine W.condT rfl ?_ | refine W.condF rfl ?_ | refine WX.skip rfl ?_)
  rw [row_len, row_len, wrap_i64 (x := (la.length : Int) + lb.length) (by omega) (by omega), show (la.length : Int) + lb.length = ((la.length + lb.length : Nat) : Int) by omega]
  refine WX.step tab_eq rfl rfl (by refine ⟨by omega, by omega, by omega, by omega⟩) ?_
  repeat (first | refine WX.step tab_eq rfl rfl trivial ?_ | refine WX.step tab_eq rfl rfl (by decide) ?_ | refine WX.nil ?_ | refine W.seq ?_ | refine W.region ?_ | refine W.regionD ?_ | refine W.block ?_ | refine W.skip ?_ | refine W.exit ?_ | refine W.ret ?_ | refine W.condT rfl ?_ | refine W.condF rfl ?_ | refine WX.skip rfl ?_)
  rw [Int.toNat_natCast]
  refine W.loop (fun e m => ∃ (i : Nat) (out : List Nat), e = [(0, .imm 1 (row la)), (1, .imm 1 (row lb)), (5, .own (0, 0) 1 (row out)), (18, .imm 1 (row la)), (19, .int .i64 la.length), (20, .int .i64 i)] ∧
    i ≤ la.length ∧ out.length = la.length + lb.length ∧ okL out = true ∧ lval out = lval (la.take i) * lval lb ∧ (∀ j, i + lb.length ≤ j → out.getD j 0 = 0) ∧ m = la.length - i) la.length ?_ ?_ ?_
  · refine ⟨0, List.replicate (la.length + lb.length) 0, ?_, by omega, by simp, okL_rep _, by rw [lval_rep]; simp [lval], fun j _ => getD_rep _ _, by omega⟩
    rw [← row_len la, ← row_rep]
    rfl
  · show _ < 4611686018427387904; omega
  · rintro e m ⟨i, out, rfl, hi, hlen, ho, hv, hz, rfl⟩
    repeat (first | refine WX.step tab_eq rfl rfl trivial ?_ | refine WX.step tab_eq rfl rfl (by decide) ?_ | refine WX.nil ?_ | refine W.seq ?_ | refine W.region ?_ | refine W.regionD ?_ | refine W.block ?_ | refine W.skip ?_ | refine W.exit ?_ | refine W.ret ?_ | refine W.condT rfl ?_ | refine W.condF rfl ?_ | refine WX.skip rfl ?_)
    refine W.cond rfl (fun hlt => ?_) (fun hlt => ?_)
    · have hlt := of_decide_eq_true hlt
      have hg := row_get (l := la) (i := i) (by omega)
      have gx := okL_getD oa i
      repeat (first | refine WX.step tab_eq rfl rfl trivial ?_ | refine WX.step tab_eq rfl rfl (by decide) ?_ | refine WX.nil ?_ | refine W.seq ?_ | refine W.region ?_ | refine W.regionD ?_ | refine W.block ?_ | refine W.skip ?_ | refine W.exit ?_ | refine W.ret ?_ | refine W.condT rfl ?_ | refine W.condF rfl ?_ | refine WX.skip rfl ?_)
      refine WX.idxImm tab_eq rfl rfl rfl rfl rfl rfl (by omega) (hg) ?_
      repeat (first | refine WX.step tab_eq rfl rfl trivial ?_ | refine WX.step tab_eq rfl rfl (by decide) ?_ | refine WX.nil ?_ | refine W.seq ?_ | refine W.region ?_ | refine W.regionD ?_ | refine W.block ?_ | refine W.skip ?_ | refine W.exit ?_ | refine W.ret ?_ | refine W.condT rfl ?_ | refine W.condF rfl ?_ | refine WX.skip rfl ?_)
      generalize hx : la.getD i 0 = x at *
      rw [row_len]
      refine W.loop (fun e m => ∃ (t c : Nat) (o2 : List Nat), e = [(0, .imm 1 (row la)), (1, .imm 1 (row lb)), (5, .own (0, 0) 1 (row o2)), (6, .int .i64 i), (7, .int .u32 x), (8, .int .u64 c), (18, .imm 1 (row la)), (19, .int .i64 la.length), (20, .int .i64 i), (25, .imm 1 (row lb)), (26, .int .i64 lb.length), (27, .int .i64 t)] ∧
        t ≤ lb.length ∧ o2.length = la.length + lb.length ∧ okL o2 = true ∧ c < 1000000000 ∧ lval o2 + c * 1000000000 ^ (i + t) = lval (la.take i) * lval lb + 1000000000 ^ i * (x * lval (lb.take t)) ∧ (∀ j, i + lb.length ≤ j → o2.getD j 0 = 0) ∧ m = lb.length - t) lb.length ?_ ?_ ?_
      · exact ⟨0, 0, out, rfl, by omega, hlen, ho, by omega, by simp [lval, hv], hz, by omega⟩
      · show _ < 4611686018427387904; omega
      · rintro e m ⟨t, c, o2, rfl, ht, hlen2, ho2, hc, hv2, hz2, rfl⟩
        repeat (first | refine WX.step tab_eq rfl rfl trivial ?_ | refine WX.step tab_eq rfl rfl (by decide) ?_ | refine WX.nil ?_ | refine W.seq ?_ | refine W.region ?_ | refine W.regionD ?_ | refine W.block ?_ | refine W.skip ?_ | refine W.exit ?_ | refine W.ret ?_ | refine W.condT rfl ?_ | refine W.condF rfl ?_ | refine WX.skip rfl ?_)
        refine W.cond rfl (fun hlt2 => ?_) (fun hlt2 => ?_)
        · have hlt2 := of_decide_eq_true hlt2
          have hg2 := row_get (l := lb) (i := t) (by omega)
          have gy := okL_getD ob t
          have gz := okL_getD ho2 (i + t)
          repeat (first | refine WX.step tab_eq rfl rfl trivial ?_ | refine WX.step tab_eq rfl rfl (by decide) ?_ | refine WX.nil ?_ | refine W.seq ?_ | refine W.region ?_ | refine W.regionD ?_ | refine W.block ?_ | refine W.skip ?_ | refine W.exit ?_ | refine W.ret ?_ | refine W.condT rfl ?_ | refine W.condF rfl ?_ | refine WX.skip rfl ?_)
          refine WX.idxImm tab_eq rfl rfl rfl rfl rfl rfl (by omega) (hg2) ?_
          repeat (first | refine WX.step tab_eq rfl rfl trivial ?_ | refine WX.step tab_eq rfl rfl (by decide) ?_ | refine WX.nil ?_ | refine W.seq ?_ | refine W.region ?_ | refine W.regionD ?_ | refine W.block ?_ | refine W.skip ?_ | refine W.exit ?_ | refine W.ret ?_ | refine W.condT rfl ?_ | refine W.condF rfl ?_ | refine WX.skip rfl ?_)
          generalize hy : lb.getD t 0 = y at *
          have hidx : IntKind.i64.wrap ((i : Int) + t) = ((i + t : Nat) : Int) := by rw [wrap_i64 (by omega) (by omega)]; omega
          have hidx2 : 0 + ((i + t : Nat) : Int).toNat = i + t := by omega
          rw [hidx]
          refine WX.step tab_eq rfl rfl (by rw [row_len, hlen2]; omega) ?_
          rw [hidx2]
          have hg3 := row_get (l := o2) (i := i + t) (by omega)
          refine WX.ldElem tab_eq rfl rfl rfl (hg3) rfl rfl rfl rfl ?_
          repeat (first | refine WX.step tab_eq rfl rfl trivial ?_ | refine WX.step tab_eq rfl rfl (by decide) ?_ | refine WX.nil ?_ | refine W.seq ?_ | refine W.region ?_ | refine W.regionD ?_ | refine W.block ?_ | refine W.skip ?_ | refine W.exit ?_ | refine W.ret ?_ | refine W.condT rfl ?_ | refine W.condF rfl ?_ | refine WX.skip rfl ?_)
          generalize hzz : o2.getD (i + t) 0 = z at *
          have hxy : x * y ≤ 999999999 * 999999999 := Nat.mul_le_mul (by omega) (by omega)
          rw [wrap_u64 (x := (z : Int)) (by omega) (by omega), wrap_u64 (x := (x : Int)) (by omega) (by omega), wrap_u64 (x := (y : Int)) (by omega) (by omega)]
          rw [show (x : Int) * (y : Int) = ((x * y : Nat) : Int) from (Int.natCast_mul x y).symm, wrap_u64 (x := ((x * y : Nat) : Int)) (by omega) (by omega)]
          rw [wrap_u64 (x := (z : Int) + ((x * y : Nat) : Int)) (by omega) (by omega), wrap_u64 (x := (z : Int) + ((x * y : Nat) : Int) + c) (by omega) (by omega), show (z : Int) + ((x * y : Nat) : Int) + c = ((z + x * y + c : Nat) : Int) by omega]
          rw [hidx, tmodB, tdivB, wrap_u32 (x := ((z + x * y + c) % 1000000000 : Nat)) (by omega) (by omega), wrap_u64 (x := ((z + x * y + c) / 1000000000 : Nat)) (by omega) (by omega)]
          refine WX.step tab_eq rfl rfl (by rw [row_len, hlen2]; omega) ?_
          rw [hidx2]
          refine WX.stElem tab_eq rfl rfl rfl (hg3) rfl rfl rfl ?_
          repeat (first | refine WX.step tab_eq rfl rfl trivial ?_ | refine WX.step tab_eq rfl rfl (by decide) ?_ | refine WX.nil ?_ | refine W.seq ?_ | refine W.region ?_ | refine W.regionD ?_ | refine W.block ?_ | refine W.skip ?_ | refine W.exit ?_ | refine W.ret ?_ | refine W.condT rfl ?_ | refine W.condF rfl ?_ | refine WX.skip rfl ?_)
          rw [row_set]
          rw [wrap_i64 (x := (t : Int) + 1) (by omega) (by omega)]
          show ∃ m', _
          have hdm := Nat.mod_add_div (z + x * y + c) 1000000000
          refine ⟨lb.length - (t + 1), by omega, t + 1, (z + x * y + c) / 1000000000, o2.set (i + t) ((z + x * y + c) % 1000000000), rfl, by omega, by simp [hlen2], okL_set ho2 _ (by omega), by omega, ?_, ?_, rfl⟩
          · have hs := lval_set o2 (i + t) ((z + x * y + c) % 1000000000) (by omega)
            rw [hzz] at hs
            rw [lval_step, hy, show i + (t + 1) = i + t + 1 by omega, Nat.pow_succ]
            have e1 : 1000000000 ^ i * (x * (lval (lb.take t) + 1000000000 ^ t * y)) = 1000000000 ^ i * (x * lval (lb.take t)) + 1000000000 ^ (i + t) * (x * y) := by
              rw [Nat.pow_add, Nat.mul_add, Nat.mul_add]
              congr 1
              rw [Nat.mul_assoc, Nat.mul_left_comm x]
            rw [e1]
            generalize 1000000000 ^ (i + t) = p at *
            generalize (z + x * y + c) / 1000000000 = q at *
            generalize (z + x * y + c) % 1000000000 = r at *
            have e2 : q * (p * 1000000000) = p * (1000000000 * q) := by rw [Nat.mul_comm q, Nat.mul_assoc]
            rw [e2]
            have e3 : p * r + p * (1000000000 * q) = p * z + p * (x * y) + p * c := by
              rw [← Nat.mul_add, ← Nat.mul_add, ← Nat.mul_add, hdm]
            rw [Nat.mul_comm c p] at hv2
            omega
          · intro j hj
            rw [getD_set_ne (by omega)]
            exact hz2 j hj
        · have hlt2 := of_decide_eq_false hlt2
          have hte : t = lb.length := by omega
          subst hte
          repeat (first | refine WX.step tab_eq rfl rfl trivial ?_ | refine WX.step tab_eq rfl rfl (by decide) ?_ | refine WX.nil ?_ | refine W.seq ?_ | refine W.region ?_ | refine W.regionD ?_ | refine W.block ?_ | refine W.skip ?_ | refine W.exit ?_ | refine W.ret ?_ | refine W.condT rfl ?_ | refine W.condF rfl ?_ | refine WX.skip rfl ?_)
          have hidx : IntKind.i64.wrap ((i : Int) + lb.length) = ((i + lb.length : Nat) : Int) := by rw [wrap_i64 (by omega) (by omega)]; omega
          have hidx2 : 0 + ((i + lb.length : Nat) : Int).toNat = i + lb.length := by omega
          rw [row_len, hidx, wrap_u32 (x := (c : Int)) (by omega) (by omega)]
          refine WX.step tab_eq rfl rfl (by rw [row_len, hlen2]; omega) ?_
          rw [hidx2]
          have hg3 := row_get (l := o2) (i := i + lb.length) (by omega)
          refine WX.stElem tab_eq rfl rfl rfl (hg3) rfl rfl rfl ?_
          repeat (first | refine WX.step tab_eq rfl rfl trivial ?_ | refine WX.step tab_eq rfl rfl (by decide) ?_ | refine WX.nil ?_ | refine W.seq ?_ | refine W.region ?_ | refine W.regionD ?_ | refine W.block ?_ | refine W.skip ?_ | refine W.exit ?_ | refine W.ret ?_ | refine W.condT rfl ?_ | refine W.condF rfl ?_ | refine WX.skip rfl ?_)
          rw [row_set]
          rw [wrap_i64 (x := (i : Int) + 1) (by omega) (by omega)]
          show ∃ m', _
          refine ⟨la.length - (i + 1), by omega, i + 1, o2.set (i + lb.length) c, rfl, by omega, by simp [hlen2], okL_set ho2 _ hc, ?_, ?_, rfl⟩
          · have hs := lval_set o2 (i + lb.length) c (by omega)
            rw [hz2 _ (Nat.le_refl _), Nat.mul_zero, Nat.add_zero] at hs
            rw [hs, lval_step, hx, Nat.mul_comm _ c, hv2, lval_take_ge (Nat.le_refl _), Nat.add_mul, Nat.mul_assoc]
          · intro j hj
            rw [getD_set_ne (by omega)]
            exact hz2 j (by omega)
    · have hlt := of_decide_eq_false hlt
      have hie : i = la.length := by omega
      subst hie
      repeat (first | refine WX.step tab_eq rfl rfl trivial ?_ | refine WX.step tab_eq rfl rfl (by decide) ?_ | refine WX.nil ?_ | refine W.seq ?_ | refine W.region ?_ | refine W.regionD ?_ | refine W.block ?_ | refine W.skip ?_ | refine W.exit ?_ | refine W.ret ?_ | refine W.condT rfl ?_ | refine W.condF rfl ?_ | refine WX.skip rfl ?_)
      refine WX.callP rfl rfl rfl rfl rfl rfl rfl (row_sc _) (by have := trimL_le (out) (out).length; rw [row_len]; omega) (viaA (trim_X (l := out) (by first | omega | (simp <;> omega))) (by simp only [List.drop_zero, List.take_length])) ?_
      repeat (first | refine WX.step tab_eq rfl rfl trivial ?_ | refine WX.step tab_eq rfl rfl (by decide) ?_ | refine WX.nil ?_ | refine W.seq ?_ | refine W.region ?_ | refine W.regionD ?_ | refine W.block ?_ | refine W.skip ?_ | refine W.exit ?_ | refine W.ret ?_ | refine W.condT rfl ?_ | refine W.condF rfl ?_ | refine WX.skip rfl ?_)
      rw [Int.toNat_natCast, row_take, trim_limbs ho, hv, lval_take_ge (Nat.le_refl _), va, vb]
      rfl
end Go.PE
namespace Go.PE
open Go.RowKit Go.Proofs.Tryz
set_option maxRecDepth 100000
variable {k : Nat}
theorem drop_set_lt {l : List Nat} {i j x : Nat} (h : i < j) : (l.set i x).drop j = l.drop j := by
  rw [List.drop_set, if_pos h]
theorem getD_set_eq {l : List Nat} {i x : Nat} (h : i < l.length) : (l.set i x).getD i 0 = x := by
  simp [List.getD, List.getElem?_set, h]
theorem tdivN (a b : Nat) : ((a : Int)).tdiv (b : Int) = ((a / b : Nat) : Int) := rfl
theorem tmodN (a b : Nat) : ((a : Int)).tmod (b : Int) = ((a % b : Nat) : Int) := rfl
theorem quoLimb_T (a b : Nat) (ha : ln a < 274877906944) (hb0 : 0 < b) (hb : b < 1000000000) : T (k + 2) 278 [.imm 1 (row (limbs a)), .int .u32 b] = some (.tup [.imm 1 (row (limbs (a / b))), .imm 1 (row (limbs (a % b)))], []) := by
  unfold ln at ha
  generalize hla : limbs a = la at ha
  have oa : okL la = true := hla ▸ okL_limbs a
  have va : lval la = a := hla ▸ lval_limbs a
  refine enter rfl func278 rfl (by decide) (by kernel_rfl) rfl rfl ?_
  repeat (first | refine WX.step tab_eq rfl rfl trivial ?_ | refine WX.step tab_eq rfl rfl (by decide) ?_ | refine WX.nil ?_ | refine W.seq ?_ | refine W.region ?_ | refine W.regionD ?_ | refine W.block ?_ | refine W.skip ?_ | refine W.exit ?_ | refine W.ret ?_ | refine W.condT rfl ?_ | refine W.condF rfl ?_ | refine WX.skip rfl ?_)
  rw [row_len]
  refine WX.step tab_eq rfl rfl (by refine ⟨by omega, by omega, by omega, by omega⟩) ?_
  repeat (first | refine WX.step tab_eq rfl rfl trivial ?_ | refine WX.step tab_eq rfl rfl (by decide) ?_ | refine WX.nil ?_ | refine W.seq ?_ | refine W.region ?_ | refine W.regionD ?_ | refine W.block ?_ | refine W.skip ?_ | refine W.exit ?_ | refine W.ret ?_ | refine W.condT rfl ?_ | refine W.condF rfl ?_ | refine WX.skip rfl ?_)
  rw [row_len, Int.toNat_natCast, wrap_i64 (x := (la.length : Int) - 1) (by omega) (by omega)]
  refine W.loop (fun e m => ∃ (j c : Nat) (q : List Nat), e = [(0, .imm 1 (row la)), (1, .int .u32 b), (6, .own (0, 0) 1 (row q)), (7, .int .u64 c), (8, .int .i64 ((j : Int) - 1))] ∧
    j ≤ la.length ∧ q.length = la.length ∧ okL q = true ∧ c < b ∧ lval (la.drop j) = lval (q.drop j) * b + c ∧ m = j) la.length ?_ ?_ ?_
  · refine ⟨la.length, 0, List.replicate la.length 0, ?_, by omega, by simp, okL_rep _, hb0, ?_, rfl⟩
    · rw [← row_rep]; rfl
    · rw [List.drop_of_length_le (Nat.le_refl _), List.drop_of_length_le (by simp)]; simp [lval]
  · show _ < 4611686018427387904; omega
  · rintro e m ⟨j, c, q, rfl, hj, hlen, ho, hc, hv, rfl⟩
    repeat (first | refine WX.step tab_eq rfl rfl trivial ?_ | refine WX.step tab_eq rfl rfl (by decide) ?_ | refine WX.nil ?_ | refine W.seq ?_ | refine W.region ?_ | refine W.regionD ?_ | refine W.block ?_ | refine W.skip ?_ | refine W.exit ?_ | refine W.ret ?_ | refine W.condT rfl ?_ | refine W.condF rfl ?_ | refine WX.skip rfl ?_)
    refine W.cond rfl (fun hge => ?_) (fun hge => ?_)
    · have hge := of_decide_eq_true hge
      obtain ⟨i, rfl⟩ : ∃ i, m = i + 1 := ⟨m - 1, by omega⟩
      rw [show ((i + 1 : Nat) : Int) - 1 = (i : Int) by omega]
      have g1 := row_get (l := la) (i := i) (by omega)
      have b1 := okL_getD oa i
      repeat (first | refine WX.step tab_eq rfl rfl trivial ?_ | refine WX.step tab_eq rfl rfl (by decide) ?_ | refine WX.nil ?_ | refine W.seq ?_ | refine W.region ?_ | refine W.regionD ?_ | refine W.block ?_ | refine W.skip ?_ | refine W.exit ?_ | refine W.ret ?_ | refine W.condT rfl ?_ | refine W.condF rfl ?_ | refine WX.skip rfl ?_)
      refine WX.idxImm tab_eq rfl rfl rfl rfl rfl rfl (by omega) (g1) ?_
      repeat (first | refine WX.step tab_eq rfl rfl trivial ?_ | refine WX.step tab_eq rfl rfl (by decide) ?_ | refine WX.nil ?_ | refine W.seq ?_ | refine W.region ?_ | refine W.regionD ?_ | refine W.block ?_ | refine W.skip ?_ | refine W.exit ?_ | refine W.ret ?_ | refine W.condT rfl ?_ | refine W.condF rfl ?_ | refine WX.skip rfl ?_)
      generalize hx : la.getD i 0 = x at *
      have hcB : c * 1000000000 + x < b * 1000000000 := by
        have := Nat.mul_le_mul_right 1000000000 (show c + 1 ≤ b by omega)
        omega
      rw [show (c : Int) * 1000000000 = ((c * 1000000000 : Nat) : Int) by omega, wrap_u64 (x := ((c * 1000000000 : Nat) : Int)) (by omega) (by omega), wrap_u64 (x := (x : Int)) (by omega) (by omega),
        wrap_u64 (x := ((c * 1000000000 : Nat) : Int) + x) (by omega) (by omega), show ((c * 1000000000 : Nat) : Int) + x = ((c * 1000000000 + x : Nat) : Int) by omega]
      have hq : (c * 1000000000 + x) / b < 1000000000 := by rw [Nat.div_lt_iff_lt_mul hb0]; omega
      have hr : (c * 1000000000 + x) % b < b := Nat.mod_lt _ hb0
      have hdm := Nat.div_add_mod (c * 1000000000 + x) b
      repeat (first | refine WX.stepD tab_eq rfl rfl trivial ?_ | refine WX.stepD tab_eq rfl rfl (by decide) ?_ | refine WX.skipD rfl ?_)
      rw [wrap_u64 (x := (b : Int)) (by omega) (by omega)]
      refine WX.stepD tab_eq rfl rfl (by omega) ?_
      rw [tdivN]
      generalize (c * 1000000000 + x) / b = dd at *
      rw [wrap_u64 (x := (dd : Int)) (by omega) (by omega)]
      repeat (first | refine WX.stepD tab_eq rfl rfl trivial ?_ | refine WX.stepD tab_eq rfl rfl (by decide) ?_ | refine WX.skipD rfl ?_)
      rw [wrap_u64 (x := (b : Int)) (by omega) (by omega), wrap_u32 (x := (dd : Int)) (by omega) (by omega)]
      refine WX.stepD tab_eq rfl rfl (by omega) ?_
      rw [tmodN]
      generalize (c * 1000000000 + x) % b = rr at *
      refine WX.stepD tab_eq rfl rfl (by rw [row_len]; omega) ?_
      have g2 := row_get (l := q) (i := 0 + (i : Int).toNat) (by omega)
      refine WX.stElemD tab_eq rfl rfl rfl (g2) rfl rfl rfl ?_
      repeat (first | refine WX.stepD tab_eq rfl rfl trivial ?_ | refine WX.stepD tab_eq rfl rfl (by decide) ?_ | refine WX.skipD rfl ?_)
      refine WX.nilD (by kernel_rfl) ?_
      repeat (first | refine WX.step tab_eq rfl rfl trivial ?_ | refine WX.step tab_eq rfl rfl (by decide) ?_ | refine WX.nil ?_ | refine W.seq ?_ | refine W.region ?_ | refine W.regionD ?_ | refine W.block ?_ | refine W.skip ?_ | refine W.exit ?_ | refine W.ret ?_ | refine W.condT rfl ?_ | refine W.condF rfl ?_ | refine WX.skip rfl ?_)
      rw [wrap_i64 (x := (i : Int) - 1) (by omega) (by omega), row_set, show 0 + (i : Int).toNat = i by omega]
      show ∃ m', _
      refine ⟨i, by omega, i, rr, q.set i dd, rfl, by omega, by simp [hlen], okL_set ho _ hq, hr, ?_, rfl⟩
      rw [drop_getD (l := la) (i := i) (by omega), drop_getD (l := q.set i dd) (i := i) (by simp; omega), drop_set_lt (by omega), getD_set_eq (by omega), hx, lval, lval, hv]
      have e1 : (dd + 1000000000 * lval (q.drop (i + 1))) * b = b * dd + 1000000000 * (lval (q.drop (i + 1)) * b) := by rw [Nat.add_mul, Nat.mul_comm dd, Nat.mul_assoc]
      rw [e1]
      omega
    · have hge := of_decide_eq_false hge
      have : m = 0 := by omega
      subst this
      simp only [List.drop_zero] at hv
      rw [va] at hv
      have h1 : a / b = lval q := by
        rw [hv, Nat.mul_comm, Nat.mul_add_div hb0, Nat.div_eq_of_lt hc]; rfl
      have h2 : a % b = c := by
        rw [hv, Nat.mul_comm, Nat.mul_add_mod, Nat.mod_eq_of_lt hc]
      repeat (first | refine WX.step tab_eq rfl rfl trivial ?_ | refine WX.step tab_eq rfl rfl (by decide) ?_ | refine WX.nil ?_ | refine W.seq ?_ | refine W.region ?_ | refine W.regionD ?_ | refine W.block ?_ | refine W.skip ?_ | refine W.exit ?_ | refine W.ret ?_ | refine W.condT rfl ?_ | refine W.condF rfl ?_ | refine WX.skip rfl ?_)
      refine WX.callP rfl rfl rfl rfl rfl rfl rfl (row_sc _) (by have := trimL_le (q) (q).length; rw [row_len]; omega) (viaA (trim_X (l := q) (by first | omega | (simp <;> omega))) (by simp only [List.drop_zero, List.take_length])) ?_
      repeat (first | refine WX.step tab_eq rfl rfl trivial ?_ | refine WX.step tab_eq rfl rfl (by decide) ?_ | refine WX.nil ?_ | refine W.seq ?_ | refine W.region ?_ | refine W.regionD ?_ | refine W.block ?_ | refine W.skip ?_ | refine W.exit ?_ | refine W.ret ?_ | refine W.condT rfl ?_ | refine W.condF rfl ?_ | refine WX.skip rfl ?_)
      rw [wrap_u32 (x := (c : Int)) (by omega) (by omega)]
      rw [show [[PV.int .u32 (c : Int)]] = row [c] from rfl]
      refine WX.callO rfl rfl rfl rfl rfl (row_sc _) (by have := trimL_le ([c]) ([c]).length; rw [row_len]; omega) (trim_X (l := [c]) (by first | omega | (simp <;> omega))) ?_
      repeat (first | refine WX.step tab_eq rfl rfl trivial ?_ | refine WX.step tab_eq rfl rfl (by decide) ?_ | refine WX.nil ?_ | refine W.seq ?_ | refine W.region ?_ | refine W.regionD ?_ | refine W.block ?_ | refine W.skip ?_ | refine W.exit ?_ | refine W.ret ?_ | refine W.condT rfl ?_ | refine W.condF rfl ?_ | refine WX.skip rfl ?_)
      rw [Int.toNat_natCast, Int.toNat_natCast, row_take, row_take, trim_limbs ho, trim_limbs (l := [c]) (okL_cons.2 ⟨by omega, rfl⟩), h1, h2]
      rfl
end Go.PE
