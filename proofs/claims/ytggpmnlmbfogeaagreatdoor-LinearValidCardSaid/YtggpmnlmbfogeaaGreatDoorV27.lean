/-
  A part of the proof that the law's function returns true and leaves its arguments as they were, for every input (no condition): own lemmas of the proof, in the order of their use.
-/
import Derived.Test.YtggpmnlmbfogeaaGreatDoorV26
import Derived.Test.YtggpmnlmbfogeaaGreatDoorV13
import Derived.Test.YtggpmnlmbfogeaaGreatDoorV12
import Derived.Lib.ItoaNum
import Derived.Test.YtggpmnlmbfogeaaGreatDoorRows
import Derived.ProofKit
import Derived.LaidMore
import Derived.OpenShut
import Derived.Stop.Joined
import Derived.Lib.LaidTab
import Derived.Carry
set_option linter.all false
namespace Go.PE
open Go.RowKit Go.Proofs.Tryz
set_option maxRecDepth 100000
variable {pre post : List (List PV)} {u v : List Nat} {m u1 u2 u3 v1 v2 : Nat}
theorem redC (H : RedH pre post u v m u1 u2 u3 v1 v2) {g r : Nat} (htop2 : g * v1 + r = u3 * 1000000000 + u2) (hq : lval u / lval v ≤ g) (hr : r < 1000000000) (hb : ¬ 1000000000 ≤ g) (hgr : ¬ r * 1000000000 + u1 < g * v2) : redGoal pre post u v m v1 u2 u3 g r := by
  obtain ⟨ou, ov, luv, lvm, hfl, hpos, hm, lu, hVp, hqB, g3, g5, b1, b2, b3, b4, b5, hnorm, htop, hgt, hle⟩ := H
  have hgle : g ≤ u3 * 1000000000 + u2 := by
    have := Nat.le_mul_of_pos_right g (show 0 < v1 by omega)
    omega
  unfold redGoal
  repeat (first | refine WX.step tab_eq rfl rfl trivial ?_ | refine WX.step tab_eq rfl rfl (by decide) ?_ | refine WX.nil ?_ | refine W.seq ?_ | refine W.region ?_ | refine W.regionD ?_ | refine W.block ?_ | refine W.skip ?_ | refine W.exit ?_ | refine W.ret ?_ | refine W.condT rfl ?_ | refine W.condF rfl ?_ | refine WX.skip rfl ?_)
  repeat (first | refine WX.stepD tab_eq rfl rfl trivial ?_ | refine WX.stepD tab_eq rfl rfl (by decide) ?_ | refine WX.skipD rfl ?_)
  refine WX.boolMD rfl rfl (fun hb0 => absurd (of_decide_eq_true hb0) (by omega)) (fun hb0 => ?_)
  clear hb0
  have hgb : g < 1000000000 := by omega
  obtain ⟨z, hz⟩ : ∃ z, z = g * v2 := ⟨_, rfl⟩
  have hzI : (g : Int) * ((v2 : Nat) : Int) = (z : Int) := by rw [hz]; exact (Int.natCast_mul _ _).symm
  have hzB : z ≤ g * 999999999 := by rw [hz]; exact Nat.mul_le_mul_left g (by omega)
  have hidx : IntKind.i64.wrap (((m + 2 : Nat) : Int) - 2) = (m : Int) := by rw [wrap_i64 (by omega) (by omega)]; omega
  repeat (first | refine WX.stepD tab_eq rfl rfl trivial ?_ | refine WX.stepD tab_eq rfl rfl (by decide) ?_ | refine WX.skipD rfl ?_)
  refine WX.idxImmD tab_eq rfl rfl rfl rfl rfl rfl (by rw [hidx]; omega) (by rw [hidx]; exact g5) ?_
  repeat (first | refine WX.stepD tab_eq rfl rfl trivial ?_ | refine WX.stepD tab_eq rfl rfl (by decide) ?_ | refine WX.skipD rfl ?_)
  refine WX.stepD tab_eq rfl rfl (by rw [hidx]; omega) ?_
  refine WX.ldElemD tab_eq rfl rfl rfl (by rw [hidx, Int.toNat_natCast]; exact g3) rfl rfl rfl rfl ?_
  repeat (first | refine WX.stepD tab_eq rfl rfl trivial ?_ | refine WX.stepD tab_eq rfl rfl (by decide) ?_ | refine WX.skipD rfl ?_)
  refine WX.nilD (by kernel_rfl) ?_
  rw [wrap_u64 (x := (v2 : Int)) (by omega) (by omega), hzI, wrap_u64 (x := (z : Int)) (by omega) (by omega), wrap_u64 (x := (r : Int) * 1000000000) (by omega) (by omega), wrap_u64 (x := (u1 : Int)) (by omega) (by omega), wrap_u64 (x := (r : Int) * 1000000000 + u1) (by omega) (by omega)]
  repeat (first | refine WX.step tab_eq rfl rfl trivial ?_ | refine WX.step tab_eq rfl rfl (by decide) ?_ | refine WX.nil ?_ | refine W.seq ?_ | refine W.region ?_ | refine W.regionD ?_ | refine W.block ?_ | refine W.skip ?_ | refine W.exit ?_ | refine W.ret ?_ | refine W.condT rfl ?_ | refine W.condF rfl ?_ | refine WX.skip rfl ?_)
  rw [cond_false]
  refine W.cond rfl (fun hgr0 => absurd (of_decide_eq_true hgr0) (by omega)) (fun hgr0 => ?_)
  clear hgr0
  have hgB : g < 1000000000 := hgb
  have hqg : lval u / lval v ≤ g := hq
  have hg1 := hle g (by omega) hgB (guess_final htop2 (by omega))
  clear hgt hle htop2 hr g3 g5
  have hUlt := lval_lt ou
  have hVle := Nat.le_trans (Nat.le_of_lt (lval_lt ov)) (Nat.pow_le_pow_right (n := 1000000000) (by omega) (show v.length ≤ u.length by omega))
  repeat (first | refine WX.step tab_eq rfl rfl trivial ?_ | refine WX.step tab_eq rfl rfl (by decide) ?_ | refine WX.nil ?_ | refine W.seq ?_ | refine W.region ?_ | refine W.regionD ?_ | refine W.block ?_ | refine W.skip ?_ | refine W.exit ?_ | refine W.ret ?_ | refine W.condT rfl ?_ | refine W.condF rfl ?_ | refine WX.skip rfl ?_)
  refine WX.callW tab_eq rfl rfl rfl rfl rfl rfl rfl rfl rfl (viaX (sub_X ou ov luv lvm hgB) (by rw [mid_win]; rfl)) rfl rfl hfl (by rw [row_len, limbsN_len]; exact ⟨mid_le _ _ _, hpos, rfl⟩) (row_flat _) ?_
  rw [mid_new]
  repeat (first | refine WX.step tab_eq rfl rfl trivial ?_ | refine WX.step tab_eq rfl rfl (by decide) ?_ | refine WX.nil ?_ | refine W.seq ?_ | refine W.region ?_ | refine W.regionD ?_ | refine W.block ?_ | refine W.skip ?_ | refine W.exit ?_ | refine W.ret ?_ | refine W.condT rfl ?_ | refine W.condF rfl ?_ | refine WX.skip rfl ?_)
  refine W.cond rfl (fun hs => ?_) (fun hs => ?_)
  · have hs : lval u < g * lval v := of_decide_eq_true hs
    obtain ⟨rfl, k1, k2⟩ := red_over hqg hg1 hs hUlt hVle
    rw [if_pos hs]
    obtain ⟨x, hx⟩ : ∃ x, x = limbsN u.length (lval u + 1000000000 ^ u.length - (lval u / lval v + 1) * lval v) := ⟨_, rfl⟩
    have lx : x.length = u.length := by rw [hx, limbsN_len]
    have ox : okL x = true := by rw [hx]; exact okL_limbsN _ _
    have e : (lval x + lval v) % 1000000000 ^ x.length = lval u % lval v := by rw [lx, hx, lval_limbsN _ _ k1]; exact k2
    rw [← hx]
    clear hUlt hVle k1 k2 hx hs hqg hg1
    repeat (first | refine WX.step tab_eq rfl rfl trivial ?_ | refine WX.step tab_eq rfl rfl (by decide) ?_ | refine WX.nil ?_ | refine W.seq ?_ | refine W.region ?_ | refine W.regionD ?_ | refine W.block ?_ | refine W.skip ?_ | refine W.exit ?_ | refine W.ret ?_ | refine W.condT rfl ?_ | refine W.condF rfl ?_ | refine WX.skip rfl ?_)
    rw [dec1 hgB]
    refine WX.callW tab_eq rfl rfl rfl rfl rfl rfl rfl rfl rfl (viaX (rest_X ox ov (by omega) (by omega)) (by rw [← lx, mid_win]; rfl)) rfl rfl (flat_mid hfl x) (by rw [row_len, limbsN_len, ← lx]; exact ⟨mid_le _ _ _, lx ▸ hpos, rfl⟩) (row_flat _) ?_
    rw [← lx, mid_new, e]
    repeat (first | refine WX.step tab_eq rfl rfl trivial ?_ | refine WX.step tab_eq rfl rfl (by decide) ?_ | refine WX.nil ?_ | refine W.seq ?_ | refine W.region ?_ | refine W.regionD ?_ | refine W.block ?_ | refine W.skip ?_ | refine W.exit ?_ | refine W.ret ?_ | refine W.condT rfl ?_ | refine W.condF rfl ?_ | refine WX.skip rfl ?_)
    rw [wrap_lt (Nat.lt_of_succ_lt hgB)]
    repeat (first | refine WX.step tab_eq rfl rfl trivial ?_ | refine WX.step tab_eq rfl rfl (by decide) ?_ | refine WX.nil ?_ | refine W.seq ?_ | refine W.region ?_ | refine W.regionD ?_ | refine W.block ?_ | refine W.skip ?_ | refine W.exit ?_ | refine W.ret ?_ | refine W.condT rfl ?_ | refine W.condF rfl ?_ | refine WX.skip rfl ?_)
    show (∃ st, _) ∧ _
    exact ⟨⟨(0, 0), by rw [← lx]; rfl⟩, rfl⟩
  · have hs : ¬ lval u < g * lval v := of_decide_eq_false hs
    obtain ⟨rfl, e⟩ := red_fit hqg hg1 hs hVp
    rw [if_neg hs, e]
    clear hUlt hVle hs hqg hg1 e
    repeat (first | refine WX.step tab_eq rfl rfl trivial ?_ | refine WX.step tab_eq rfl rfl (by decide) ?_ | refine WX.nil ?_ | refine W.seq ?_ | refine W.region ?_ | refine W.regionD ?_ | refine W.block ?_ | refine W.skip ?_ | refine W.exit ?_ | refine W.ret ?_ | refine W.condT rfl ?_ | refine W.condF rfl ?_ | refine WX.skip rfl ?_)
    rw [wrap_lt hgB]
    repeat (first | refine WX.step tab_eq rfl rfl trivial ?_ | refine WX.step tab_eq rfl rfl (by decide) ?_ | refine WX.nil ?_ | refine W.seq ?_ | refine W.region ?_ | refine W.regionD ?_ | refine W.block ?_ | refine W.skip ?_ | refine W.exit ?_ | refine W.ret ?_ | refine W.condT rfl ?_ | refine W.condF rfl ?_ | refine WX.skip rfl ?_)
    show (∃ st, _) ∧ _
    exact ⟨⟨(0, 0), rfl⟩, rfl⟩
end Go.PE
namespace Go.PE
open Go.RowKit Go.Proofs.Tryz
set_option maxRecDepth 100000
variable {pre post : List (List PV)} {u v : List Nat} {m u1 u2 u3 v1 v2 : Nat}
theorem reduce_meets : Meets prog 279 reduceF := by
  refine meetsW_of tab_eq mixed_ok X1_meets func279 rfl (by decide) [4] lvR NN rfl rfl (by kernel_rfl) ?_
  intro sz xs off len avs r new hF hfit hpos hmx hfl
  unfold reduceF at hF
  split at hF
  · rename_i xs0 ys heq
    split at hF
    · rename_i u v hu hv
      split at hF
      · rename_i hc
        obtain ⟨ou, ov, luv, lv2, lvm, hnorm, hUV⟩ := hc
        cases hF
        simp only [List.cons.injEq, PV.own.injEq, true_and] at heq
        obtain ⟨⟨rfl, hwin⟩, rfl⟩ := heq
        obtain rfl := row_unrow hv
        have hxs := row_unrow hu
        rw [← hwin] at hxs
        obtain ⟨pre, post, rfl, rfl, rfl, hnew⟩ := parts hxs hfit
        rw [hnew]
        clear hnew hxs hu hv hwin hfit
        obtain ⟨m, hm⟩ : ∃ m, v.length = m + 2 := ⟨v.length - 2, by omega⟩
        have lu : u.length = m + 3 := by omega
        obtain ⟨hV, hV'⟩ := split2 ov hm
        obtain ⟨hU, hU'⟩ := split3 ou lu
        have htop := top_le ou ov lu hm hUV
        rw [hm, show m + 2 - 1 = m + 1 by omega] at hnorm
        have g1 := mid_get (pre := pre) (post := post) (x := u) (i := m + 2) (by omega)
        have g2 := mid_get (pre := pre) (post := post) (x := u) (i := m + 1) (by omega)
        have g3 := mid_get (pre := pre) (post := post) (x := u) (i := m) (by omega)
        have g4 := row_get (l := v) (i := m + 1) (by omega)
        have g5 := row_get (l := v) (i := m) (by omega)
        have b1 := okL_getD ou (m + 2)
        have b2 := okL_getD ou (m + 1)
        have b3 := okL_getD ou m
        have b4 := okL_getD ov (m + 1)
        have b5 := okL_getD ov m
        have hgt := fun g => @guess_gt g _ _ _ _ _ _ _ _ hV hU hU'
        have hle := fun g => @guess_le g _ _ _ _ _ _ _ _ hV hU hV'
        have hqB : lval u / lval v < 1000000000 := by
          apply Nat.div_lt_of_lt_mul
          rw [Nat.mul_comm]; exact hUV
        simp only [List.length_append, row_len] at hmx
        generalize u.getD (m + 2) 0 = u3 at *
        generalize u.getD (m + 1) 0 = u2 at *
        generalize u.getD m 0 = u1 at *
        generalize v.getD (m + 1) 0 = v1 at *
        generalize v.getD m 0 = v2 at *
        clear hV hU hU' hV'
        have hVp : 0 < lval v := by
          rcases Nat.eq_zero_or_pos (lval v) with h | h
          · rw [h] at hUV; omega
          · exact h
        refine ⟨Nat.le_of_ble_eq_true rfl, rfl, ?_⟩
        show W _ _ _ _ _ _ _ (0, [(VS, _), (0, _), (1, _)]) _
        repeat (first | refine WX.step tab_eq rfl rfl trivial ?_ | refine WX.step tab_eq rfl rfl (by decide) ?_ | refine WX.nil ?_ | refine W.seq ?_ | refine W.region ?_ | refine W.regionD ?_ | refine W.block ?_ | refine W.skip ?_ | refine W.exit ?_ | refine W.ret ?_ | refine W.condT rfl ?_ | refine W.condF rfl ?_ | refine WX.skip rfl ?_)
        rw [row_len, hm]
        repeat (first | refine WX.stepD tab_eq rfl rfl trivial ?_ | refine WX.stepD tab_eq rfl rfl (by decide) ?_ | refine WX.skipD rfl ?_)
        refine WX.stepD tab_eq rfl rfl (by omega) ?_
        refine WX.ldElemD tab_eq rfl rfl rfl (by rw [Int.toNat_natCast]; exact g1) rfl rfl rfl rfl ?_
        repeat (first | refine WX.stepD tab_eq rfl rfl trivial ?_ | refine WX.stepD tab_eq rfl rfl (by decide) ?_ | refine WX.skipD rfl ?_)
        have hidx : IntKind.i64.wrap (((m + 2 : Nat) : Int) - 1) = ((m + 1 : Nat) : Int) := by rw [wrap_i64 (by omega) (by omega)]; omega
        refine WX.stepD tab_eq rfl rfl (by rw [hidx]; omega) ?_
        refine WX.ldElemD tab_eq rfl rfl rfl (by rw [hidx, Int.toNat_natCast]; exact g2) rfl rfl rfl rfl ?_
        repeat (first | refine WX.stepD tab_eq rfl rfl trivial ?_ | refine WX.stepD tab_eq rfl rfl (by decide) ?_ | refine WX.skipD rfl ?_)
        refine WX.idxImmD tab_eq rfl rfl rfl rfl rfl rfl (by rw [hidx]; omega) (by rw [hidx]; exact g4) ?_
        repeat (first | refine WX.stepD tab_eq rfl rfl trivial ?_ | refine WX.stepD tab_eq rfl rfl (by decide) ?_ | refine WX.skipD rfl ?_)
        refine WX.nilD (by kernel_rfl) ?_
        rw [wrap_u64 (x := (u3 : Int)) (by omega) (by omega), wrap_u64 (x := (u3 : Int) * 1000000000) (by omega) (by omega), wrap_u64 (x := (u2 : Int)) (by omega) (by omega), wrap_u64 (x := (u3 : Int) * 1000000000 + u2) (by omega) (by omega), wrap_u64 (x := (v1 : Int)) (by omega) (by omega),
          show (u3 : Int) * 1000000000 + u2 = ((u3 * 1000000000 + u2 : Nat) : Int) by omega]
        have hv1 : ((v1 : Nat) : Int) ≠ 0 := by omega
        repeat (first | refine WX.step tab_eq rfl rfl trivial ?_ | refine WX.step tab_eq rfl rfl (by decide) ?_ | refine WX.nil ?_ | refine W.seq ?_ | refine W.region ?_ | refine W.regionD ?_ | refine W.block ?_ | refine W.skip ?_ | refine W.exit ?_ | refine W.ret ?_ | refine W.condT rfl ?_ | refine W.condF rfl ?_ | refine WX.skip rfl ?_)
        repeat (first | refine WX.stepD tab_eq rfl rfl trivial ?_ | refine WX.stepD tab_eq rfl rfl (by decide) ?_ | refine WX.skipD rfl ?_)
        refine WX.stepD tab_eq rfl rfl (by exact hv1) ?_
        repeat (first | refine WX.stepD tab_eq rfl rfl trivial ?_ | refine WX.stepD tab_eq rfl rfl (by decide) ?_ | refine WX.skipD rfl ?_)
        refine WX.stepD tab_eq rfl rfl (by exact hv1) ?_
        repeat (first | refine WX.stepD tab_eq rfl rfl trivial ?_ | refine WX.stepD tab_eq rfl rfl (by decide) ?_ | refine WX.skipD rfl ?_)
        refine WX.nilD (by kernel_rfl) ?_
        have hg0 := Nat.div_le_self (u3 * 1000000000 + u2) v1
        have hdm : (u3 * 1000000000 + u2) / v1 * v1 + (u3 * 1000000000 + u2) % v1 = u3 * 1000000000 + u2 := by rw [Nat.mul_comm]; exact Nat.div_add_mod _ _
        have hr0 := Nat.mod_lt (u3 * 1000000000 + u2) (show 0 < v1 by omega)
        have hq0 : lval u / lval v ≤ (u3 * 1000000000 + u2) / v1 := by
          have h1 : lval u / lval v * (v1 * 1000000000 + v2) ≤ (u3 * 1000000000 + u2) * 1000000000 + u1 := by
            rcases Nat.lt_or_ge ((u3 * 1000000000 + u2) * 1000000000 + u1) (lval u / lval v * (v1 * 1000000000 + v2)) with h | h
            · exact absurd (hgt _ h) (Nat.lt_irrefl _)
            · exact h
          exact (Nat.le_div_iff_mul_le (by omega)).2 (guess_init h1 b3)
        rw [show ((u3 * 1000000000 + u2 : Nat) : Int).tdiv (v1 : Int) = (((u3 * 1000000000 + u2) / v1 : Nat) : Int) from rfl, show ((u3 * 1000000000 + u2 : Nat) : Int).tmod (v1 : Int) = (((u3 * 1000000000 + u2) % v1 : Nat) : Int) from rfl]
        generalize (u3 * 1000000000 + u2) / v1 = g0 at *
        generalize (u3 * 1000000000 + u2) % v1 = r0 at *
        rw [wrap_u64 (x := (g0 : Int)) (by omega) (by omega)]
        repeat (first | refine WX.step tab_eq rfl rfl trivial ?_ | refine WX.step tab_eq rfl rfl (by decide) ?_ | refine WX.nil ?_ | refine W.seq ?_ | refine W.region ?_ | refine W.regionD ?_ | refine W.block ?_ | refine W.skip ?_ | refine W.exit ?_ | refine W.ret ?_ | refine W.condT rfl ?_ | refine W.condF rfl ?_ | refine WX.skip rfl ?_)
        have H : RedH pre post u v m u1 u2 u3 v1 v2 := ⟨ou, ov, luv, lvm, hfl, hpos, hm, lu, hVp, hqB, g3, g5, b1, b2, b3, b4, b5, hnorm, htop, hgt, hle⟩
        refine W.loop (redI pre post u v m v1 u2 u3) g0 ?_ ?_ ?_
        · exact ⟨r0, rfl, hdm, hq0, by omega⟩
        · show _ < 4611686018427387904
          omega
        · rintro e g ⟨r, rfl, htop2, hq, hr⟩
          by_cases hb : 1000000000 ≤ g
          · exact redA H htop2 hq hr hb
          · by_cases hgr : r * 1000000000 + u1 < g * v2
            · exact redB H htop2 hq hr hb hgr
            · exact redC H htop2 hq hr hb hgr
      · cases hF
    · cases hF
  · cases hF
end Go.PE
namespace Go.PE
open Go.RowKit Go.Proofs Go.Proofs.Tryz Go.ChangeShapes Go.WideShapes Go.ChangeAt
set_option maxRecDepth 100000
/-! ### What the listed variables give -/
theorem gPow : prog.globalNamed "internal/strconv.uint64pow10" = some 0 := by kernel_rfl
theorem glob_of_tab {W : World} {cs : Array Value} (hv : W.var? prog "internal/strconv.uint64pow10" = some cs) (hcs : cs.toList = Lib.pow10Tab.map fun z => Value.int .u64 z) : Glob W (fun b => b < W.heap.size) := by
  unfold World.var? at hv
  rw [gPow, Option.bind_some] at hv
  split at hv
  · rename_i cs' e r hh
    simp only [Option.some.injEq] at hv
    subst hv
    have h0 : 0 < W.heap.size := by
      rcases Nat.lt_or_ge 0 W.heap.size with h | h
      · exact h
      · rw [Array.getElem?_eq_none h] at hh; cases hh
    have hsz : cs'.size = 20 := by
      have := congrArg List.length hcs
      simpa [Lib.pow10Tab] using this
    refine ⟨fun g hg => ?_, h0, cs', e, r, hh, hsz⟩
    unfold globPV at hg ⊢
    split at hg
    · refine Imm.iptr (w := W) (Fz := fun b => b < W.heap.size) ⟨0, 0, none⟩ _ 0 (fun j => .int .u64 (10 ^ j : Nat)) (fun j p hp => ⟨h0, ?_⟩) (fun j p hp => ?_)
      · have hj : j < 20 := by
          have := (List.getElem?_eq_some_iff.1 hp).1
          simpa using this
        rw [add_lit, Nat.zero_add]
        simp only [World.cell?, hh, Option.isSome_none, Bool.false_eq_true, if_false]
        have h2 : cs'[j]? = cs'.toList[j]? := by simp
        rw [h2, hcs]
        simp [Lib.pow10Tab, hj]
      · have hj : j < 20 := by
          have := (List.getElem?_eq_some_iff.1 hp).1
          simpa using this
        have : p = .int .u64 (10 ^ j : Nat) := by
          simpa [hj] using hp.symm
        rw [this]
        exact .int .u64 _
    · simp [okC] at hg
  · cases hv
def laid5 : List (String × DataW Unit) := [("math/bits.deBruijn32tab", YtggpmnlmbfogeaaGreatDoor.Rows.laid_math_bits_deBruijn32tab), ("math/bits.deBruijn64tab", YtggpmnlmbfogeaaGreatDoor.Rows.laid_math_bits_deBruijn64tab), ("internal/strconv.uint64pow10", YtggpmnlmbfogeaaGreatDoor.Rows.laid_internal_strconv_uint64pow10), ("strconv.ErrRange", YtggpmnlmbfogeaaGreatDoor.Rows.laid_strconv_ErrRange), ("strconv.ErrSyntax", YtggpmnlmbfogeaaGreatDoor.Rows.laid_strconv_ErrSyntax)]
theorem tPow : (prog.globals[0]?).map (·.type) = some 301 := by kernel_rfl
theorem glob_of_laid {W : World} (h : laidMetH prog laid5 W) : Glob W (fun b => b < W.heap.size) := by
  rw [MakeChecks.laidMetH_plain _ _ _ (by kernel_rfl)] at h
  obtain ⟨ps, ⟨g0, t0, cs0, f0, p0, q0, hg0, ht0, hv0, hd0, ⟨g1, t1, cs1, f1, p1, q1, hg1, ht1, hv1, hd1, ⟨g2, t2, cs2, f2, p2, q2, hg2, ht2, hv2, hd2, _, _⟩, _⟩, _⟩, _, _⟩ := h
  obtain rfl := Option.some.inj (gPow.symm.trans hg2)
  obtain rfl := Option.some.inj (tPow.symm.trans ht2)
  have he : (YtggpmnlmbfogeaaGreatDoor.Rows.laid_internal_strconv_uint64pow10 : DataW Unit) = Lib.tabData .u64 Lib.pow10Tab := by kernel_rfl
  rw [he] at hd2
  exact glob_of_tab hv2 (Lib.cells_of_tab underlying301 underlying233 (by kernel_rfl) (by kernel_rfl) hd2)
theorem door_met (os : Os) (args : Array Value) : laidMetH prog laid5 ((World.doorLaid prog 400 os).forCall (fun _ _ => 0) ⟨#[], args, []⟩).memory :=
  laidMetH_of_parts3 (fuel := 8) (laidMet_of_run' 8 (by kernel_rfl) (by kernel_rfl)) (by kernel_rfl) (by kernel_rfl)
end Go.PE
namespace Go.PE
open Go.RowKit Go.Proofs Go.Proofs.Tryz Go.ChangeShapes Go.WideShapes Go.ChangeAt
set_option maxRecDepth 100000
/-! ### From a function's contract to the row -/
theorem laidOut_ok : laidOutB prog = true := by kernel_rfl
section
variable {H : Type} {enc : TypeId × Value → H}
theorem carryAll {W W' : World} (hb : Below W.heap.size W W') : ∀ {ts : List TypeId} {vs : List Value} {ds : List (DataW H)} {ps : List MemPlace},
    (∀ t ∈ ts, prog.readableRec t = true ∧ t < prog.types.size) → DataW.TrodAll enc prog W 0 (fun _ => true) true ts vs ds ps → (∀ x ∈ ps, x.block < W.heap.size) →
    DataW.TrodAll enc prog W' 0 (fun b => decide (b < W.heap.size)) true ts vs ds ps
  | [], [], [], ps, _, h, _ => h
  | t :: ts, v :: vs, d :: ds, ps, ht, ⟨p, q, h1, h2, he⟩, hlt => by
    subst he
    exact ⟨p, q, Below.trod laidOut_ok (ht t (by simp)).1 (ht t (by simp)).2 h1 hb (fun x hx => hlt x (by simp [hx])),
      carryAll hb (fun t' ht' => ht t' (by simp [ht'])) h2 (fun x hx => hlt x (by simp [hx])), rfl⟩
  | [], _ :: _, _, _, _, h, _ => h.elim
  | [], [], _ :: _, _, _, h, _ => h.elim
  | _ :: _, [], _, _, _, h, _ => h.elim
  | _ :: _, _ :: _, [], _, _, h, _ => h.elim
theorem law_post {fn : Func} {s : ChangeSpec} {W W' : World} {args : Array Value} {ds gs : List (DataW H)} {before : List MemPlace} (hvars : s.vars = []) (hres : fn.resultTypes = #[4])
    (hfn : ∀ ds : List (DataW H), ds.length = fn.params.size → s.fn H ds = { results := [.lit (.bool true)], args := ds }) (hread : ∀ t ∈ fn.params.toList, prog.readableRec t = true ∧ t < prog.types.size)
    (hW : DataW.Whole enc prog fn.params.toList s.vars false W args.toList ds gs before) (hb : Below W.heap.size W W') : s.post enc prog fn false true false false W args (.bool true) W' := by
  have hW' := hW
  obtain ⟨p, q, hA, hV, rfl, hfz, hnd⟩ := hW
  rw [hvars] at hV
  obtain ⟨rfl, rfl⟩ : gs = [] ∧ q = [] := by
    cases gs with
    | nil => exact ⟨rfl, hV⟩
    | cons g r => exact absurd hV (by intro h; cases h)
  have hlen : ds.length = fn.params.size := by
    have : ∀ {ts : List TypeId} {vs : List Value} {ds : List (DataW H)} {ps : List MemPlace}, DataW.TrodAll enc prog W 0 (fun _ => true) true ts vs ds ps → ds.length = ts.length := by
      intro ts
      induction ts with
      | nil => intro vs ds ps h; cases vs <;> cases ds <;> first | rfl | exact h.elim
      | cons t ts ih =>
        intro vs ds ps h
        cases vs with
        | nil => exact h.elim
        | cons v vs =>
          cases ds with
          | nil => exact h.elim
          | cons d ds =>
            obtain ⟨_, _, _, h2, _⟩ := h
            simp [ih h2]
    simpa using this hA
  have e1 := hfn ds hlen
  have e2 : s.fn H (ds ++ []) = { results := [.lit (.bool true)], args := ds } := by rw [List.append_nil]; exact e1
  refine ⟨ds, [], _, [], p, [], hW', ?_, ?_, ?_, hb.frame _, fun h => by cases h⟩
  · rw [e2, hres]
    exact trodAll_mk1 (shut_bool underlying4 true)
  · rw [e2]
    exact carryAll hb hread hA (fun x hx => hW'.lt x (by simpa using hx))
  · rw [hvars, e2]; rfl
theorem calls_of_meets {f : FuncId} {fn : Func} {c : Code} (hf : prog.funcs[f]? = some fn) (hc : fn.body = some c) (hn : fn.name ≠ "runtime.NumGoroutine") {F : List PV → Option (PV × List (List PV))} (hM : MeetsN prog f F)
    {W : World} {args : Array Value} {avs : List PV} {b : Bool} (hgl : Glob W (fun b => b < W.heap.size)) (hreps : Reps W (fun b => b < W.heap.size) args.toList avs []) (hF : F avs = some (.bool b, [])) :
    Calls prog f args W fun e W' => e = .returned (.bool b) ∧ Below W.heap.size W W' := by
  have h := hM W (fun b => b < W.heap.size) args avs [] (.bool b) [] hgl (fun _ h => h) List.nodup_nil (by simp) hreps hF
    { dst := some 0, op := .move (.tmp 0), type := 0, pos := "", after := #[], guard := none } { tmps := #[undef], defers := [] } (fun a W' => a.tmps[0]? = some (.bool b) ∧ Below W.heap.size W W') (fun _ _ _ => False)
    (fun u W' hp => by
      obtain ⟨hos, htape, hout, hsize, hheap, _, Fz', bsr, bss, _, _, _, _, hru, _⟩ := hp
      refine ⟨?_, hos, htape, hout, hsize, fun k hk => hheap k hk (by simp)⟩
      have hi := hru.imm rfl
      cases hi
      rfl)
  have henter : (callFunc f args).run prog W = .ok (.enter f args) W := by
    simp [callFunc, hf, hn, hc]
  rw [henter, Oper.upon_enter] at h
  refine h.mono fun e W' he => ?_
  cases e with
  | returned v =>
    obtain ⟨h1, h2⟩ := he
    refine ⟨?_, h2⟩
    have : (Act.put { tmps := #[undef], defers := [] } (some 0) v).tmps[0]? = some v := rfl
    rw [this] at h1
    cases h1
    rfl
  | panicked chain => exact he.elim
  | outgrown =>
    obtain ⟨_, _, h⟩ := he
    exact h.elim
end
end Go.PE
