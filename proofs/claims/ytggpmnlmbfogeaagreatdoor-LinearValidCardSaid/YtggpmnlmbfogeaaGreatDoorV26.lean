/-
  A part of the proof that the law's function returns true and leaves its arguments as they were, for every input (no condition): own lemmas of the proof, in the order of their use.
-/
import Derived.Test.YtggpmnlmbfogeaaGreatDoorV13
import Derived.Test.YtggpmnlmbfogeaaGreatDoorV15
import Derived.Test.YtggpmnlmbfogeaaGreatDoorV24
import Derived.Test.YtggpmnlmbfogeaaGreatDoorV16
set_option linter.all false
namespace Go.PE
open Go.RowKit Go.Proofs.Tryz
set_option maxRecDepth 100000
/-! ### The functions that are given a row of limbs -/
theorem mixed_ok : prog.follows .mixedOrders = true := by kernel_rfl
def noF : FuncId → List PV → Option (PV × List (List PV)) := fun _ _ => none
theorem noF_meets : ∀ g, Meets prog g (noF g) := fun g => none_meets g
theorem mid_get {pre post : List (List PV)} {x : List Nat} {i : Nat} (h : i < x.length) : (pre ++ row x ++ post)[pre.length + i]? = some [.int .u32 (x.getD i 0 : Nat)] := by
  rw [List.append_assoc, List.getElem?_append_right (by omega), Nat.add_sub_cancel_left, List.getElem?_append_left (by rw [row_len]; exact h)]
  exact row_get h
theorem mid_set {pre post : List (List PV)} {x : List Nat} {i y : Nat} (h : i < x.length) : (pre ++ row x ++ post).set (pre.length + i) [.int .u32 (y : Int)] = pre ++ row (x.set i y) ++ post := by
  rw [List.append_assoc, List.set_append_right _ _ (by omega), Nat.add_sub_cancel_left, List.set_append_left _ _ (by rw [row_len]; exact h), row_set, List.append_assoc]
theorem parts {xs : List (List PV)} {off len : Nat} {u : List Nat} (h : (xs.drop off).take len = row u) (hf : off + len ≤ xs.length) :
    ∃ pre post, xs = pre ++ row u ++ post ∧ pre.length = off ∧ u.length = len ∧ ∀ new, xs.take off ++ new ++ xs.drop (off + len) = pre ++ new ++ post := by
  refine ⟨xs.take off, xs.drop (off + len), ?_, by simp; omega, ?_, fun _ => rfl⟩
  · rw [← h, List.append_assoc, ← List.drop_drop, List.take_append_drop, List.take_append_drop]
  · rw [← row_len u, ← h]; simp; omega
theorem set_take {l : List Nat} {i x : Nat} (h : i < l.length) : (l.set i x).take (i + 1) = l.take i ++ [x] := by
  rw [take_succ_getD (by simp; omega), List.take_set_of_le (Nat.le_refl _)]
  simp [List.getD, h]
theorem set_drop {l : List Nat} {i x : Nat} : (l.set i x).drop (i + 1) = l.drop (i + 1) := List.drop_set_of_lt (Nat.lt_succ_self i)
theorem getD_drop {l m : List Nat} {i : Nat} (h : l.drop i = m.drop i) : l.getD i 0 = m.getD i 0 := by
  have := congrArg (fun l => l.getD 0 0) h
  simpa [List.getD] using this
theorem drop_succ {l m : List Nat} {i : Nat} (h : l.drop i = m.drop i) : l.drop (i + 1) = m.drop (i + 1) := by
  rw [← List.drop_drop, ← List.drop_drop, h]
/-! ### subtract -/
def subF (avs : List PV) : Option (PV × List (List PV)) :=
  match avs with
  | [.own (0, 0) 1 xs, .imm 1 ys, .int .u64 t] => match unrow xs, unrow ys with
    | some u, some v => if okL u = true ∧ okL v = true ∧ u.length = v.length + 1 ∧ v.length ≤ 16777216 ∧ 0 ≤ t ∧ t < 1000000000 then
        some (.bool (decide (lval u < t.toNat * lval v)), row (limbsN u.length (lval u + (if lval u < t.toNat * lval v then 1000000000 ^ u.length else 0) - t.toNat * lval v))) else none
    | _, _ => none
  | _ => none
theorem sub_arith {L t V U c b p d x y c' b' : Nat} (h0 : L + t * V = U + (c + b) * p) (h : c + b + d + t * x = y + (c' + b') * 1000000000) : L + p * d + t * (V + p * x) = U + p * y + (c' + b') * (p * 1000000000) := by
  have h1 : p * (c + b + d + t * x) = p * (y + (c' + b') * 1000000000) := by rw [h]
  rw [Nat.mul_add, Nat.mul_add p y, Nat.mul_add p (c + b) d] at h1
  rw [Nat.mul_add t V, Nat.mul_left_comm t p x, Nat.mul_left_comm (c' + b') p]
  rw [Nat.mul_comm (c + b) p] at h0
  omega
theorem sub_end {W t V U b P : Nat} (hW : W < P) (hb : b ≤ 1) (h : W + t * V = U + (0 + b) * P) : decide (0 < b) = decide (U < t * V) ∧ W = U + (if U < t * V then P else 0) - t * V := by
  generalize t * V = X at *
  rcases Nat.lt_or_ge b 1 with hb' | hb'
  · have : b = 0 := by omega
    subst this
    rw [Nat.add_zero, Nat.zero_mul, Nat.add_zero] at h
    have : ¬ U < X := by omega
    rw [decide_eq_false this, if_neg this]
    exact ⟨rfl, by omega⟩
  · have : b = 1 := by omega
    subst this
    rw [Nat.zero_add, Nat.one_mul] at h
    have : U < X := by omega
    rw [decide_eq_true this, if_pos this]
    exact ⟨rfl, by omega⟩
def subI (u v : List Nat) (t i c b : Nat) (y : List Nat) : Prop :=
  i ≤ u.length ∧ y.length = u.length ∧ okL y = true ∧ y.drop i = u.drop i ∧ c ≤ t ∧ b ≤ 1 ∧ (v.length < i → c = 0) ∧ lval (y.take i) + t * lval (v.take i) = lval (u.take i) + (c + b) * 1000000000 ^ i
theorem subI_step {u v y : List Nat} {t i c b d b' : Nat} (h : subI u v t i c b y) (hi : i < u.length) (luv : u.length = v.length + 1) (ht : t < 1000000000) (ov : okL v = true) (hd : d < 1000000000) (hb' : b' ≤ 1)
    (he : (c + t * v.getD i 0) % 1000000000 + b + d = u.getD i 0 + b' * 1000000000) : subI u v t (i + 1) ((c + t * v.getD i 0) / 1000000000) b' (y.set i d) := by
  obtain ⟨h1, h2, h3, h4, h5, h6, h7, h8⟩ := h
  have hx := okL_getD ov i
  refine ⟨hi, by simp [h2], okL_set h3 _ hd, by rw [set_drop]; exact drop_succ h4, ?_, hb', fun hl => ?_, ?_⟩
  · have := Nat.mul_le_mul_left t (show v.getD i 0 ≤ 999999999 by omega)
    have e : (c + t * v.getD i 0) / 1000000000 ≤ (t * 1000000000) / 1000000000 := Nat.div_le_div_right (by omega)
    omega
  · have : v.getD i 0 = 0 := getD_ge (by omega)
    rw [this]; omega
  · rw [set_take (by omega), lval_append, lval_step, lval_step, List.length_take, Nat.min_eq_left (by omega), Nat.pow_succ]
    simp only [lval, Nat.mul_zero, Nat.add_zero]
    refine sub_arith h8 ?_
    have := Nat.mod_add_div (c + t * v.getD i 0) 1000000000
    generalize v.getD i 0 = x at *
    generalize t * x = z at *
    omega
theorem sub_meets : Meets prog 313 subF := by
  refine meetsW_of tab_eq mixed_ok noF_meets func313 rfl (by decide) [6] (fun b => VS :: lvF 313 b) NN rfl rfl (by kernel_rfl) ?_
  intro sz xs off len avs r new hF hfit hpos hmx hfl
  unfold subF at hF
  split at hF
  · rename_i xs0 ys t heq
    split at hF
    · rename_i u v hu hv
      split at hF
      · rename_i hc
        obtain ⟨ou, ov, luv, lv, ht0, ht⟩ := hc
        cases hF
        simp only [List.cons.injEq, PV.own.injEq, true_and] at heq
        obtain ⟨⟨rfl, hwin⟩, rfl⟩ := heq
        obtain rfl := row_unrow hv
        have hxs := row_unrow hu
        rw [← hwin] at hxs
        obtain ⟨pre, post, rfl, rfl, rfl, hnew⟩ := parts hxs hfit
        rw [hnew]
        clear hnew hxs hu hv hwin
        obtain ⟨t, rfl⟩ : ∃ n : Nat, t = n := ⟨t.toNat, by omega⟩
        rw [Int.toNat_natCast]
        simp only [List.length_append, row_len] at hmx
        refine ⟨Nat.le_of_ble_eq_true rfl, rfl, ?_⟩
        show W _ _ _ _ _ _ _ (0, [(VS, _), (0, _), (1, _), (2, _)]) _
        repeat (first | refine WX.step tab_eq rfl rfl trivial ?_ | refine WX.step tab_eq rfl rfl (by decide) ?_ | refine WX.nil ?_ | refine W.seq ?_ | refine W.region ?_ | refine W.regionD ?_ | refine W.block ?_ | refine W.skip ?_ | refine W.exit ?_ | refine W.ret ?_ | refine W.condT rfl ?_ | refine W.condF rfl ?_ | refine WX.skip rfl ?_)
        refine W.loop (fun e m => ∃ (i c b : Nat) (y : List Nat), e = [(VS, .own (0, 0) 1 (pre ++ row y ++ post)), (0, .snap VS none (0, 0) pre.length u.length), (1, .imm 1 (row v)), (2, .int .u64 t), (7, .int .u64 c), (8, .int .i64 b), (12, .int .i64 u.length), (13, .int .i64 i)] ∧
          subI u v t i c b y ∧ m = u.length - i) u.length ?_ ?_ ?_
        · exact ⟨0, 0, 0, u, rfl, ⟨by omega, rfl, ou, rfl, by omega, by omega, fun _ => rfl, by simp [lval]⟩, by omega⟩
        · show _ < 4611686018427387904; omega
        · rintro e m ⟨i, c, b, y, rfl, hI, rfl⟩
          have hI2 := hI
          obtain ⟨hi, hlen, oy, hdr, hct, hb, hc0, hv⟩ := hI2
          repeat (first | refine WX.step tab_eq rfl rfl trivial ?_ | refine WX.step tab_eq rfl rfl (by decide) ?_ | refine WX.nil ?_ | refine W.seq ?_ | refine W.region ?_ | refine W.regionD ?_ | refine W.block ?_ | refine W.skip ?_ | refine W.exit ?_ | refine W.ret ?_ | refine W.condT rfl ?_ | refine W.condF rfl ?_ | refine WX.skip rfl ?_)
          refine W.cond rfl (fun hlt => ?_) (fun hlt => ?_)
          · have hlt := of_decide_eq_true hlt
            have hy := getD_drop hdr
            have gy := okL_getD oy i
            rw [hy] at gy
            have gv := okL_getD ov i
            have hst := fun d b' => @subI_step u v y t i c b d b' hI (by omega) luv (by omega) ov
            have gm := mid_get (pre := pre) (post := post) (x := y) (i := i) (by omega)
            rw [hy] at gm
            repeat (first | refine WX.step tab_eq rfl rfl trivial ?_ | refine WX.step tab_eq rfl rfl (by decide) ?_ | refine WX.nil ?_ | refine W.seq ?_ | refine W.region ?_ | refine W.regionD ?_ | refine W.block ?_ | refine W.skip ?_ | refine W.exit ?_ | refine W.ret ?_ | refine W.condT rfl ?_ | refine W.condF rfl ?_ | refine WX.skip rfl ?_)
            rw [row_len]
            refine W.cond rfl (fun hin => ?_) (fun hin => ?_)
            · have hin := of_decide_eq_true hin
              have g := row_get (l := v) (i := i) (by omega)
              repeat (first | refine WX.step tab_eq rfl rfl trivial ?_ | refine WX.step tab_eq rfl rfl (by decide) ?_ | refine WX.nil ?_ | refine W.seq ?_ | refine W.region ?_ | refine W.regionD ?_ | refine W.block ?_ | refine W.skip ?_ | refine W.exit ?_ | refine W.ret ?_ | refine W.condT rfl ?_ | refine W.condF rfl ?_ | refine WX.skip rfl ?_)
              refine WX.idxImm tab_eq rfl rfl rfl rfl rfl rfl (by omega) (g) ?_
              repeat (first | refine WX.step tab_eq rfl rfl trivial ?_ | refine WX.step tab_eq rfl rfl (by decide) ?_ | refine WX.nil ?_ | refine W.seq ?_ | refine W.region ?_ | refine W.regionD ?_ | refine W.block ?_ | refine W.skip ?_ | refine W.exit ?_ | refine W.ret ?_ | refine W.condT rfl ?_ | refine W.condF rfl ?_ | refine WX.skip rfl ?_)
              obtain ⟨z, hz⟩ : ∃ z, z = t * v.getD i 0 := ⟨_, rfl⟩
              have hzI : (t : Int) * ((v.getD i 0 : Nat) : Int) = (z : Int) := by rw [hz]; exact (Int.natCast_mul _ _).symm
              have hzB : z ≤ t * 999999999 := by rw [hz]; exact Nat.mul_le_mul_left t (by omega)
              rw [wrap_u64 (x := ((v.getD i 0 : Nat) : Int)) (by omega) (by omega), hzI, wrap_u64 (x := (z : Int)) (by omega) (by omega), wrap_u64 (x := (c : Int) + z) (by omega) (by omega), show (c : Int) + z = ((c + z : Nat) : Int) by omega]
              obtain ⟨c1, hc1⟩ : ∃ c1, c1 = c + z := ⟨_, rfl⟩
              rw [← hc1]
              rw [← hz, ← hc1] at hst
              refine WX.step tab_eq rfl rfl (by omega) ?_
              refine WX.ldElem tab_eq rfl rfl rfl (by rw [Int.toNat_natCast]; exact gm) rfl rfl rfl rfl ?_
              repeat (first | refine WX.step tab_eq rfl rfl trivial ?_ | refine WX.step tab_eq rfl rfl (by decide) ?_ | refine WX.nil ?_ | refine W.seq ?_ | refine W.region ?_ | refine W.regionD ?_ | refine W.block ?_ | refine W.skip ?_ | refine W.exit ?_ | refine W.ret ?_ | refine W.condT rfl ?_ | refine W.condF rfl ?_ | refine WX.skip rfl ?_)
              rw [wrap_i64 (x := ((u.getD i 0 : Nat) : Int)) (by omega) (by omega), tmodB, wrap_i64 (x := ((c1 % 1000000000 : Nat) : Int)) (by omega) (by omega), wrap_i64 (x := ((u.getD i 0 : Nat) : Int) - b) (by omega) (by omega), wrap_i64 (x := ((u.getD i 0 : Nat) : Int) - b - (c1 % 1000000000 : Nat)) (by omega) (by omega), tdivB, wrap_u64 (x := ((c1 / 1000000000 : Nat) : Int)) (by omega) (by omega)]
              refine W.cond rfl (fun hneg => ?_) (fun hneg => ?_)
              · have hneg := of_decide_eq_true hneg
                repeat (first | refine WX.step tab_eq rfl rfl trivial ?_ | refine WX.step tab_eq rfl rfl (by decide) ?_ | refine WX.nil ?_ | refine W.seq ?_ | refine W.region ?_ | refine W.regionD ?_ | refine W.block ?_ | refine W.skip ?_ | refine W.exit ?_ | refine W.ret ?_ | refine W.condT rfl ?_ | refine W.condF rfl ?_ | refine WX.skip rfl ?_)
                rw [wrap_i64 (x := ((u.getD i 0 : Nat) : Int) - b - (c1 % 1000000000 : Nat) + 1000000000) (by omega) (by omega), show ((u.getD i 0 : Nat) : Int) - b - (c1 % 1000000000 : Nat) + 1000000000 = ((u.getD i 0 + 1000000000 - b - c1 % 1000000000 : Nat) : Int) by omega, wrap_u32 (by omega) (by omega)]
                refine WX.step tab_eq rfl rfl (by omega) ?_
                refine WX.stElem tab_eq rfl rfl rfl (by rw [Int.toNat_natCast]; exact gm) rfl rfl rfl ?_
                repeat (first | refine WX.step tab_eq rfl rfl trivial ?_ | refine WX.step tab_eq rfl rfl (by decide) ?_ | refine WX.nil ?_ | refine W.seq ?_ | refine W.region ?_ | refine W.regionD ?_ | refine W.block ?_ | refine W.skip ?_ | refine W.exit ?_ | refine W.ret ?_ | refine W.condT rfl ?_ | refine W.condF rfl ?_ | refine WX.skip rfl ?_)
                rw [Int.toNat_natCast, wrap_i64 (x := (i : Int) + 1) (by omega) (by omega)]
                show ∃ m', _
                refine ⟨u.length - (i + 1), by omega, i + 1, c1 / 1000000000, 1, y.set i (u.getD i 0 + 1000000000 - b - c1 % 1000000000), ?_, ?_, rfl⟩
                · rw [mid_set (by omega)]; rfl
                · have h := hst (u.getD i 0 + 1000000000 - b - c1 % 1000000000) 1 (by omega) (by omega) (by skip; omega)
                  skip
                  exact h
              · have hneg := of_decide_eq_false hneg
                repeat (first | refine WX.step tab_eq rfl rfl trivial ?_ | refine WX.step tab_eq rfl rfl (by decide) ?_ | refine WX.nil ?_ | refine W.seq ?_ | refine W.region ?_ | refine W.regionD ?_ | refine W.block ?_ | refine W.skip ?_ | refine W.exit ?_ | refine W.ret ?_ | refine W.condT rfl ?_ | refine W.condF rfl ?_ | refine WX.skip rfl ?_)
                rw [show ((u.getD i 0 : Nat) : Int) - b - (c1 % 1000000000 : Nat) = ((u.getD i 0 - b - c1 % 1000000000 : Nat) : Int) by omega, wrap_u32 (by omega) (by omega)]
                refine WX.step tab_eq rfl rfl (by omega) ?_
                refine WX.stElem tab_eq rfl rfl rfl (by rw [Int.toNat_natCast]; exact gm) rfl rfl rfl ?_
                repeat (first | refine WX.step tab_eq rfl rfl trivial ?_ | refine WX.step tab_eq rfl rfl (by decide) ?_ | refine WX.nil ?_ | refine W.seq ?_ | refine W.region ?_ | refine W.regionD ?_ | refine W.block ?_ | refine W.skip ?_ | refine W.exit ?_ | refine W.ret ?_ | refine W.condT rfl ?_ | refine W.condF rfl ?_ | refine WX.skip rfl ?_)
                rw [Int.toNat_natCast, wrap_i64 (x := (i : Int) + 1) (by omega) (by omega)]
                show ∃ m', _
                refine ⟨u.length - (i + 1), by omega, i + 1, c1 / 1000000000, 0, y.set i (u.getD i 0 - b - c1 % 1000000000), ?_, ?_, rfl⟩
                · rw [mid_set (by omega)]; rfl
                · have h := hst (u.getD i 0 - b - c1 % 1000000000) 0 (by omega) (by omega) (by skip; omega)
                  skip
                  exact h
            · have hin := of_decide_eq_false hin
              have hv0 : v.getD i 0 = 0 := getD_ge (by omega)
              rw [hv0, Nat.mul_zero, Nat.add_zero] at hst
              repeat (first | refine WX.step tab_eq rfl rfl trivial ?_ | refine WX.step tab_eq rfl rfl (by decide) ?_ | refine WX.nil ?_ | refine W.seq ?_ | refine W.region ?_ | refine W.regionD ?_ | refine W.block ?_ | refine W.skip ?_ | refine W.exit ?_ | refine W.ret ?_ | refine W.condT rfl ?_ | refine W.condF rfl ?_ | refine WX.skip rfl ?_)
              refine WX.step tab_eq rfl rfl (by omega) ?_
              refine WX.ldElem tab_eq rfl rfl rfl (by rw [Int.toNat_natCast]; exact gm) rfl rfl rfl rfl ?_
              repeat (first | refine WX.step tab_eq rfl rfl trivial ?_ | refine WX.step tab_eq rfl rfl (by decide) ?_ | refine WX.nil ?_ | refine W.seq ?_ | refine W.region ?_ | refine W.regionD ?_ | refine W.block ?_ | refine W.skip ?_ | refine W.exit ?_ | refine W.ret ?_ | refine W.condT rfl ?_ | refine W.condF rfl ?_ | refine WX.skip rfl ?_)
              rw [wrap_i64 (x := ((u.getD i 0 : Nat) : Int)) (by omega) (by omega), tmodB, wrap_i64 (x := ((c % 1000000000 : Nat) : Int)) (by omega) (by omega), wrap_i64 (x := ((u.getD i 0 : Nat) : Int) - b) (by omega) (by omega), wrap_i64 (x := ((u.getD i 0 : Nat) : Int) - b - (c % 1000000000 : Nat)) (by omega) (by omega), tdivB, wrap_u64 (x := ((c / 1000000000 : Nat) : Int)) (by omega) (by omega)]
              refine W.cond rfl (fun hneg => ?_) (fun hneg => ?_)
              · have hneg := of_decide_eq_true hneg
                repeat (first | refine WX.step tab_eq rfl rfl trivial ?_ | refine WX.step tab_eq rfl rfl (by decide) ?_ | refine WX.nil ?_ | refine W.seq ?_ | refine W.region ?_ | refine W.regionD ?_ | refine W.block ?_ | refine W.skip ?_ | refine W.exit ?_ | refine W.ret ?_ | refine W.condT rfl ?_ | refine W.condF rfl ?_ | refine WX.skip rfl ?_)
                rw [wrap_i64 (x := ((u.getD i 0 : Nat) : Int) - b - (c % 1000000000 : Nat) + 1000000000) (by omega) (by omega), show ((u.getD i 0 : Nat) : Int) - b - (c % 1000000000 : Nat) + 1000000000 = ((u.getD i 0 + 1000000000 - b - c % 1000000000 : Nat) : Int) by omega, wrap_u32 (by omega) (by omega)]
                refine WX.step tab_eq rfl rfl (by omega) ?_
                refine WX.stElem tab_eq rfl rfl rfl (by rw [Int.toNat_natCast]; exact gm) rfl rfl rfl ?_
                repeat (first | refine WX.step tab_eq rfl rfl trivial ?_ | refine WX.step tab_eq rfl rfl (by decide) ?_ | refine WX.nil ?_ | refine W.seq ?_ | refine W.region ?_ | refine W.regionD ?_ | refine W.block ?_ | refine W.skip ?_ | refine W.exit ?_ | refine W.ret ?_ | refine W.condT rfl ?_ | refine W.condF rfl ?_ | refine WX.skip rfl ?_)
                rw [Int.toNat_natCast, wrap_i64 (x := (i : Int) + 1) (by omega) (by omega)]
                show ∃ m', _
                refine ⟨u.length - (i + 1), by omega, i + 1, c / 1000000000, 1, y.set i (u.getD i 0 + 1000000000 - b - c % 1000000000), ?_, ?_, rfl⟩
                · rw [mid_set (by omega)]; rfl
                · have h := hst (u.getD i 0 + 1000000000 - b - c % 1000000000) 1 (by omega) (by omega) (by skip; omega)
                  skip
                  exact h
              · have hneg := of_decide_eq_false hneg
                repeat (first | refine WX.step tab_eq rfl rfl trivial ?_ | refine WX.step tab_eq rfl rfl (by decide) ?_ | refine WX.nil ?_ | refine W.seq ?_ | refine W.region ?_ | refine W.regionD ?_ | refine W.block ?_ | refine W.skip ?_ | refine W.exit ?_ | refine W.ret ?_ | refine W.condT rfl ?_ | refine W.condF rfl ?_ | refine WX.skip rfl ?_)
                rw [show ((u.getD i 0 : Nat) : Int) - b - (c % 1000000000 : Nat) = ((u.getD i 0 - b - c % 1000000000 : Nat) : Int) by omega, wrap_u32 (by omega) (by omega)]
                refine WX.step tab_eq rfl rfl (by omega) ?_
                refine WX.stElem tab_eq rfl rfl rfl (by rw [Int.toNat_natCast]; exact gm) rfl rfl rfl ?_
                repeat (first | refine WX.step tab_eq rfl rfl trivial ?_ | refine WX.step tab_eq rfl rfl (by decide) ?_ | refine WX.nil ?_ | refine W.seq ?_ | refine W.region ?_ | refine W.regionD ?_ | refine W.block ?_ | refine W.skip ?_ | refine W.exit ?_ | refine W.ret ?_ | refine W.condT rfl ?_ | refine W.condF rfl ?_ | refine WX.skip rfl ?_)
                rw [Int.toNat_natCast, wrap_i64 (x := (i : Int) + 1) (by omega) (by omega)]
                show ∃ m', _
                refine ⟨u.length - (i + 1), by omega, i + 1, c / 1000000000, 0, y.set i (u.getD i 0 - b - c % 1000000000), ?_, ?_, rfl⟩
                · rw [mid_set (by omega)]; rfl
                · have h := hst (u.getD i 0 - b - c % 1000000000) 0 (by omega) (by omega) (by skip; omega)
                  skip
                  exact h
          · have hlt := of_decide_eq_false hlt
            have hie : i = u.length := by omega
            subst hie
            have := hc0 (by omega)
            subst this
            rw [List.take_of_length_le (show y.length ≤ u.length by omega), List.take_of_length_le (show v.length ≤ u.length by omega), List.take_length] at hv
            have h1 := lval_lt oy
            rw [hlen] at h1
            obtain ⟨k1, k2⟩ := sub_end h1 hb hv
            repeat (first | refine WX.step tab_eq rfl rfl trivial ?_ | refine WX.step tab_eq rfl rfl (by decide) ?_ | refine WX.nil ?_ | refine W.seq ?_ | refine W.region ?_ | refine W.regionD ?_ | refine W.block ?_ | refine W.skip ?_ | refine W.exit ?_ | refine W.ret ?_ | refine W.condT rfl ?_ | refine W.condF rfl ?_ | refine WX.skip rfl ?_)
            show (∃ st, _) ∧ _
            refine ⟨⟨(0, 0), ?_⟩, ?_⟩
            · rw [← k2, ← hlen, limbsN_lval oy]; rfl
            · have e : decide ((0 : Int) < (b : Int)) = decide (0 < b) := decide_eq_decide.2 (by omega)
              rw [← k1, ← e]
              rfl
      · cases hF
    · cases hF
  · cases hF
end Go.PE
namespace Go.PE
open Go.RowKit Go.Proofs.Tryz
set_option maxRecDepth 100000
/-! ### restore, trim -/
noncomputable def Tn : FuncId → List PV → Option (PV × List (List PV)) := lvl prog noF keepF lvF NN 1
theorem Tn_meets : ∀ g, Meets prog g (Tn g) := lvl_meets mixed_ok noF_meets keepF lvF NN 1
theorem at_Tn {l : List Nat} (i : Nat) (hl : l.length < 1099511627776) : Tn 246 [.imm 1 (row l), .int .i64 i] = some (.int .u32 (l.getD i 0 : Nat), []) := by
  refine lvl_enter tab_eq rfl func246 rfl (by decide) (by kernel_rfl) (Nat.le_of_ble_eq_true rfl) (Nat.le_of_ble_eq_true rfl) rfl ?_
  repeat (first | refine WX.step tab_eq rfl rfl trivial ?_ | refine WX.step tab_eq rfl rfl (by decide) ?_ | refine WX.nil ?_ | refine W.seq ?_ | refine W.region ?_ | refine W.regionD ?_ | refine W.block ?_ | refine W.skip ?_ | refine W.exit ?_ | refine W.ret ?_ | refine W.condT rfl ?_ | refine W.condF rfl ?_ | refine WX.skip rfl ?_)
  refine W.cond rfl (fun hc => ?_) (fun hc => ?_)
  · have hc := of_decide_eq_true hc
    rw [row_len] at hc
    repeat (first | refine WX.step tab_eq rfl rfl trivial ?_ | refine WX.step tab_eq rfl rfl (by decide) ?_ | refine WX.nil ?_ | refine W.seq ?_ | refine W.region ?_ | refine W.regionD ?_ | refine W.block ?_ | refine W.skip ?_ | refine W.exit ?_ | refine W.ret ?_ | refine W.condT rfl ?_ | refine W.condF rfl ?_ | refine WX.skip rfl ?_)
    have : l.getD i 0 = 0 := by rw [List.getD, List.getElem?_eq_none (by omega)]; rfl
    rw [this]
    rfl
  · have hc := of_decide_eq_false hc
    rw [row_len] at hc
    have hg := row_get (l := l) (i := i) (by omega)
    repeat (first | refine WX.step tab_eq rfl rfl trivial ?_ | refine WX.step tab_eq rfl rfl (by decide) ?_ | refine WX.nil ?_ | refine W.seq ?_ | refine W.region ?_ | refine W.regionD ?_ | refine W.block ?_ | refine W.skip ?_ | refine W.exit ?_ | refine W.ret ?_ | refine W.condT rfl ?_ | refine W.condF rfl ?_ | refine WX.skip rfl ?_)
    refine WX.idxImm tab_eq rfl rfl rfl rfl rfl rfl (by omega) (hg) ?_
    repeat (first | refine WX.step tab_eq rfl rfl trivial ?_ | refine WX.step tab_eq rfl rfl (by decide) ?_ | refine WX.nil ?_ | refine W.seq ?_ | refine W.region ?_ | refine W.regionD ?_ | refine W.block ?_ | refine W.skip ?_ | refine W.exit ?_ | refine W.ret ?_ | refine W.condT rfl ?_ | refine W.condF rfl ?_ | refine WX.skip rfl ?_)
    rfl
def restF (avs : List PV) : Option (PV × List (List PV)) :=
  match avs with
  | [.own (0, 0) 1 xs, .imm 1 ys] => match unrow xs, unrow ys with
    | some u, some v => if okL u = true ∧ okL v = true ∧ v.length ≤ u.length ∧ u.length ≤ 16777217 then
        some (.tup [], row (limbsN u.length ((lval u + lval v) % 1000000000 ^ u.length))) else none
    | _, _ => none
  | _ => none
def restI (u v : List Nat) (i c : Nat) (y : List Nat) : Prop :=
  i ≤ u.length ∧ y.length = u.length ∧ okL y = true ∧ y.drop i = u.drop i ∧ c ≤ 1 ∧ lval (y.take i) + c * 1000000000 ^ i = lval (u.take i) + lval (v.take i)
theorem rest_arith {L V U c p d x y c' : Nat} (h0 : L + c * p = U + V) (h : c' * 1000000000 + d = y + x + c) : L + p * d + c' * (p * 1000000000) = U + p * y + (V + p * x) := by
  have h1 : p * (c' * 1000000000 + d) = p * (y + x + c) := by rw [h]
  rw [Nat.mul_add, Nat.mul_add p (y + x) c, Nat.mul_add p y x] at h1
  rw [Nat.mul_left_comm c' p]
  rw [Nat.mul_comm c p] at h0
  omega
theorem restI_step {u v y : List Nat} {i c : Nat} (h : restI u v i c y) (hi : i < u.length) (ou : okL u = true) (ov : okL v = true) :
    restI u v (i + 1) ((u.getD i 0 + v.getD i 0 + c) / 1000000000) (y.set i ((u.getD i 0 + v.getD i 0 + c) % 1000000000)) := by
  obtain ⟨h1, h2, h3, h4, h5, h6⟩ := h
  have gu := okL_getD ou i
  have gv := okL_getD ov i
  refine ⟨hi, by simp [h2], okL_set h3 _ (Nat.mod_lt _ (by omega)), by rw [set_drop]; exact drop_succ h4, by omega, ?_⟩
  rw [set_take (by omega), lval_append, lval_step, lval_step, List.length_take, Nat.min_eq_left (by omega), Nat.pow_succ]
  simp only [lval, Nat.mul_zero, Nat.add_zero]
  exact rest_arith h6 (by omega)
theorem rest_meets : Meets prog 314 restF := by
  refine meetsW_of tab_eq mixed_ok Tn_meets func314 rfl (by decide) [] (fun b => VS :: lvF 314 b) NN rfl rfl (by kernel_rfl) ?_
  intro sz xs off len avs r new hF hfit hpos hmx hfl
  unfold restF at hF
  split at hF
  · rename_i xs0 ys heq
    split at hF
    · rename_i u v hu hv
      split at hF
      · rename_i hc
        obtain ⟨ou, ov, lvu, lu⟩ := hc
        cases hF
        simp only [List.cons.injEq, PV.own.injEq, true_and] at heq
        obtain ⟨⟨rfl, hwin⟩, rfl⟩ := heq
        obtain rfl := row_unrow hv
        have hxs := row_unrow hu
        rw [← hwin] at hxs
        obtain ⟨pre, post, rfl, rfl, rfl, hnew⟩ := parts hxs hfit
        rw [hnew]
        clear hnew hxs hu hv hwin
        refine ⟨Nat.le_of_ble_eq_true rfl, rfl, ?_⟩
        show W _ _ _ _ _ _ _ (0, [(VS, _), (0, _), (1, _)]) _
        repeat (first | refine WX.step tab_eq rfl rfl trivial ?_ | refine WX.step tab_eq rfl rfl (by decide) ?_ | refine WX.nil ?_ | refine W.seq ?_ | refine W.region ?_ | refine W.regionD ?_ | refine W.block ?_ | refine W.skip ?_ | refine W.exit ?_ | refine W.ret ?_ | refine W.condT rfl ?_ | refine W.condF rfl ?_ | refine WX.skip rfl ?_)
        refine W.loop (fun e m => ∃ (i c : Nat) (y : List Nat), e = [(VS, .own (0, 0) 1 (pre ++ row y ++ post)), (0, .snap VS none (0, 0) pre.length u.length), (1, .imm 1 (row v)), (4, .int .u32 c), (8, .int .i64 u.length), (9, .int .i64 i)] ∧
          restI u v i c y ∧ m = u.length - i) u.length ?_ ?_ ?_
        · exact ⟨0, 0, u, rfl, ⟨by omega, rfl, ou, rfl, by omega, by simp [lval]⟩, by omega⟩
        · show _ < 4611686018427387904; omega
        · rintro e m ⟨i, c, y, rfl, hI, rfl⟩
          have hI2 := hI
          obtain ⟨hi, hlen, oy, hdr, hc, hv⟩ := hI2
          repeat (first | refine WX.step tab_eq rfl rfl trivial ?_ | refine WX.step tab_eq rfl rfl (by decide) ?_ | refine WX.nil ?_ | refine W.seq ?_ | refine W.region ?_ | refine W.regionD ?_ | refine W.block ?_ | refine W.skip ?_ | refine W.exit ?_ | refine W.ret ?_ | refine W.condT rfl ?_ | refine W.condF rfl ?_ | refine WX.skip rfl ?_)
          refine W.cond rfl (fun hlt => ?_) (fun hlt => ?_)
          · have hlt := of_decide_eq_true hlt
            have hy := getD_drop hdr
            have gu := okL_getD ou i
            have gv := okL_getD ov i
            have hst := restI_step hI (by omega) ou ov
            have gm := mid_get (pre := pre) (post := post) (x := y) (i := i) (by omega)
            rw [hy] at gm
            repeat (first | refine WX.step tab_eq rfl rfl trivial ?_ | refine WX.step tab_eq rfl rfl (by decide) ?_ | refine WX.nil ?_ | refine W.seq ?_ | refine W.region ?_ | refine W.regionD ?_ | refine W.block ?_ | refine W.skip ?_ | refine W.exit ?_ | refine W.ret ?_ | refine W.condT rfl ?_ | refine W.condF rfl ?_ | refine WX.skip rfl ?_)
            repeat (first | refine WX.stepD tab_eq rfl rfl trivial ?_ | refine WX.stepD tab_eq rfl rfl (by decide) ?_ | refine WX.skipD rfl ?_)
            refine WX.stepD tab_eq rfl rfl (by omega) ?_
            refine WX.ldElemD tab_eq rfl rfl rfl (by rw [Int.toNat_natCast]; exact gm) rfl rfl rfl rfl ?_
            repeat (first | refine WX.stepD tab_eq rfl rfl trivial ?_ | refine WX.stepD tab_eq rfl rfl (by decide) ?_ | refine WX.skipD rfl ?_)
            refine WX.callD tab_eq rfl rfl rfl rfl rfl (at_Tn i (by omega)) rfl rfl ?_
            repeat (first | refine WX.stepD tab_eq rfl rfl trivial ?_ | refine WX.stepD tab_eq rfl rfl (by decide) ?_ | refine WX.skipD rfl ?_)
            refine WX.nilD (by kernel_rfl) ?_
            rw [wrap_u32 (x := ((u.getD i 0 : Nat) : Int) + ((v.getD i 0 : Nat) : Int)) (by omega) (by omega), wrap_u32 (x := ((u.getD i 0 : Nat) : Int) + ((v.getD i 0 : Nat) : Int) + c) (by omega) (by omega),
              show ((u.getD i 0 : Nat) : Int) + ((v.getD i 0 : Nat) : Int) + c = ((u.getD i 0 + v.getD i 0 + c : Nat) : Int) by omega]
            repeat (first | refine WX.step tab_eq rfl rfl trivial ?_ | refine WX.step tab_eq rfl rfl (by decide) ?_ | refine WX.nil ?_ | refine W.seq ?_ | refine W.region ?_ | refine W.regionD ?_ | refine W.block ?_ | refine W.skip ?_ | refine W.exit ?_ | refine W.ret ?_ | refine W.condT rfl ?_ | refine W.condF rfl ?_ | refine WX.skip rfl ?_)
            rw [tmodB, tdivB, wrap_u32 (x := (((u.getD i 0 + v.getD i 0 + c) / 1000000000 : Nat) : Int)) (by omega) (by omega)]
            refine WX.step tab_eq rfl rfl (by omega) ?_
            refine WX.stElem tab_eq rfl rfl rfl (by rw [Int.toNat_natCast]; exact gm) rfl rfl rfl ?_
            repeat (first | refine WX.step tab_eq rfl rfl trivial ?_ | refine WX.step tab_eq rfl rfl (by decide) ?_ | refine WX.nil ?_ | refine W.seq ?_ | refine W.region ?_ | refine W.regionD ?_ | refine W.block ?_ | refine W.skip ?_ | refine W.exit ?_ | refine W.ret ?_ | refine W.condT rfl ?_ | refine W.condF rfl ?_ | refine WX.skip rfl ?_)
            rw [Int.toNat_natCast, wrap_i64 (x := (i : Int) + 1) (by omega) (by omega)]
            show ∃ m', _
            refine ⟨u.length - (i + 1), by omega, i + 1, (u.getD i 0 + v.getD i 0 + c) / 1000000000, y.set i ((u.getD i 0 + v.getD i 0 + c) % 1000000000), ?_, hst, rfl⟩
            rw [mid_set (by omega)]; rfl
          · have hlt := of_decide_eq_false hlt
            have hie : i = u.length := by omega
            subst hie
            rw [List.take_of_length_le (show y.length ≤ u.length by omega), List.take_of_length_le (show v.length ≤ u.length by omega), List.take_length] at hv
            have h1 := lval_lt oy
            rw [hlen] at h1
            have h2 : lval y = (lval u + lval v) % 1000000000 ^ u.length := by
              rw [← hv, Nat.add_mul_mod_self_right, Nat.mod_eq_of_lt h1]
            repeat (first | refine WX.step tab_eq rfl rfl trivial ?_ | refine WX.step tab_eq rfl rfl (by decide) ?_ | refine WX.nil ?_ | refine W.seq ?_ | refine W.region ?_ | refine W.regionD ?_ | refine W.block ?_ | refine W.skip ?_ | refine W.exit ?_ | refine W.ret ?_ | refine W.condT rfl ?_ | refine W.condF rfl ?_ | refine WX.skip rfl ?_)
            show (∃ st, _) ∧ _
            refine ⟨⟨(0, 0), ?_⟩, rfl⟩
            rw [← h2, ← hlen, limbsN_lval oy]; rfl
      · cases hF
    · cases hF
  · cases hF
theorem trim_meets : Meets prog 239 trimF := by
  refine meetsP_of mixed_ok noF_meets func239 rfl (by decide) [2] (fun b => VS :: lvF 239 b) NN rfl rfl rfl rfl (by kernel_rfl) ?_
  intro sz xs off len m hF hfit h0 hm hfl
  unfold trimF at hF
  split at hF
  · rename_i xs0 heq
    split at hF
    · rename_i l hl
      split at hF
      · rename_i hc
        cases hF
        simp only [List.cons.injEq, PV.own.injEq, true_and, and_true] at heq
        obtain ⟨rfl, hwin⟩ := heq
        have hxs := row_unrow hl
        rw [← hwin] at hxs
        obtain ⟨pre, post, rfl, rfl, rfl, _⟩ := parts hxs hfit
        clear hxs hl hwin
        show W _ _ _ _ _ _ _ (0, [(VS, _), (0, _)]) _
        repeat (first | refine WX.step tab_eq rfl rfl trivial ?_ | refine WX.step tab_eq rfl rfl (by decide) ?_ | refine WX.nil ?_ | refine W.seq ?_ | refine W.region ?_ | refine W.regionD ?_ | refine W.block ?_ | refine W.skip ?_ | refine W.exit ?_ | refine W.ret ?_ | refine W.condT rfl ?_ | refine W.condF rfl ?_ | refine WX.skip rfl ?_)
        refine W.loop (fun e m => ∃ (n : Nat), e = [(VS, .own (0, 0) 1 (pre ++ row l ++ post)), (0, .snap VS none (0, 0) pre.length l.length), (3, .int .i64 n)] ∧ n ≤ l.length ∧ trimL l l.length = trimL l n ∧ m = n) l.length ?_ ?_ ?_
        · exact ⟨l.length, rfl, Nat.le_refl _, rfl, rfl⟩
        · show _ < 4611686018427387904; omega
        · rintro e m ⟨n, rfl, hn, ht, rfl⟩
          repeat (first | refine WX.step tab_eq rfl rfl trivial ?_ | refine WX.step tab_eq rfl rfl (by decide) ?_ | refine WX.nil ?_ | refine W.seq ?_ | refine W.region ?_ | refine W.regionD ?_ | refine W.block ?_ | refine W.skip ?_ | refine W.exit ?_ | refine W.ret ?_ | refine W.condT rfl ?_ | refine W.condF rfl ?_ | refine WX.skip rfl ?_)
          refine WX.boolM rfl rfl (fun hb => ?_) (fun hb => ?_)
          · have hb := of_decide_eq_true hb
            obtain ⟨j, rfl⟩ : ∃ j, m = j + 1 := ⟨m - 1, by omega⟩
            have gm := mid_get (pre := pre) (post := post) (x := l) (i := j) (by omega)
            repeat (first | refine WX.step tab_eq rfl rfl trivial ?_ | refine WX.step tab_eq rfl rfl (by decide) ?_ | refine WX.nil ?_ | refine W.seq ?_ | refine W.region ?_ | refine W.regionD ?_ | refine W.block ?_ | refine W.skip ?_ | refine W.exit ?_ | refine W.ret ?_ | refine W.condT rfl ?_ | refine W.condF rfl ?_ | refine WX.skip rfl ?_)
            rw [wrap_i64 (x := ((j + 1 : Nat) : Int) - 1) (by omega) (by omega), show ((j + 1 : Nat) : Int) - 1 = (j : Int) by omega]
            refine WX.step tab_eq rfl rfl (by omega) ?_
            refine WX.ldElem tab_eq rfl rfl rfl (by rw [Int.toNat_natCast]; exact gm) rfl rfl rfl rfl ?_
            repeat (first | refine WX.step tab_eq rfl rfl trivial ?_ | refine WX.step tab_eq rfl rfl (by decide) ?_ | refine WX.nil ?_ | refine W.seq ?_ | refine W.region ?_ | refine W.regionD ?_ | refine W.block ?_ | refine W.skip ?_ | refine W.exit ?_ | refine W.ret ?_ | refine W.condT rfl ?_ | refine W.condF rfl ?_ | refine WX.skip rfl ?_)
            refine W.cond rfl (fun hz => ?_) (fun hz => ?_)
            · have hz : l.getD j 0 = 0 := by
                have : decide (((l.getD j 0 : Nat) : Int) = 0) = true := hz
                have := of_decide_eq_true this
                omega
              repeat (first | refine WX.step tab_eq rfl rfl trivial ?_ | refine WX.step tab_eq rfl rfl (by decide) ?_ | refine WX.nil ?_ | refine W.seq ?_ | refine W.region ?_ | refine W.regionD ?_ | refine W.block ?_ | refine W.skip ?_ | refine W.exit ?_ | refine W.ret ?_ | refine W.condT rfl ?_ | refine W.condF rfl ?_ | refine WX.skip rfl ?_)
              rw [wrap_i64 (x := ((j + 1 : Nat) : Int) - 1) (by omega) (by omega), show ((j + 1 : Nat) : Int) - 1 = (j : Int) by omega]
              show ∃ m', _
              exact ⟨j, by omega, j, rfl, by omega, by rw [ht, trimL, if_pos hz], rfl⟩
            · have hz : ¬ l.getD j 0 = 0 := by
                have : decide (((l.getD j 0 : Nat) : Int) = 0) = false := hz
                have := of_decide_eq_false this
                omega
              have ht2 : trimL l l.length = j + 1 := by rw [ht, trimL, if_neg hz]
              rw [ht2]
              repeat (first | refine WX.step tab_eq rfl rfl trivial ?_ | refine WX.step tab_eq rfl rfl (by decide) ?_ | refine WX.nil ?_ | refine W.seq ?_ | refine W.region ?_ | refine W.regionD ?_ | refine W.block ?_ | refine W.skip ?_ | refine W.exit ?_ | refine W.ret ?_ | refine W.condT rfl ?_ | refine W.condF rfl ?_ | refine WX.skip rfl ?_)
              refine WX.step tab_eq rfl rfl (by omega) ?_
              repeat (first | refine WX.step tab_eq rfl rfl trivial ?_ | refine WX.step tab_eq rfl rfl (by decide) ?_ | refine WX.nil ?_ | refine W.seq ?_ | refine W.region ?_ | refine W.regionD ?_ | refine W.block ?_ | refine W.skip ?_ | refine W.exit ?_ | refine W.ret ?_ | refine W.condT rfl ?_ | refine W.condF rfl ?_ | refine WX.skip rfl ?_)
              exact ⟨(0, 0), 2, rfl, rfl, rfl⟩
          · have hb := of_decide_eq_false hb
            have : m = 0 := by omega
            subst this
            have ht2 : trimL l l.length = 0 := ht
            rw [ht2]
            repeat (first | refine WX.step tab_eq rfl rfl trivial ?_ | refine WX.step tab_eq rfl rfl (by decide) ?_ | refine WX.nil ?_ | refine W.seq ?_ | refine W.region ?_ | refine W.regionD ?_ | refine W.block ?_ | refine W.skip ?_ | refine W.exit ?_ | refine W.ret ?_ | refine W.condT rfl ?_ | refine W.condF rfl ?_ | refine WX.skip rfl ?_)
            refine WX.step tab_eq rfl rfl (by omega) ?_
            repeat (first | refine WX.step tab_eq rfl rfl trivial ?_ | refine WX.step tab_eq rfl rfl (by decide) ?_ | refine WX.nil ?_ | refine W.seq ?_ | refine W.region ?_ | refine W.regionD ?_ | refine W.block ?_ | refine W.skip ?_ | refine W.exit ?_ | refine W.ret ?_ | refine W.condT rfl ?_ | refine W.condF rfl ?_ | refine WX.skip rfl ?_)
            exact ⟨(0, 0), 2, rfl, rfl, rfl⟩
      · cases hF
    · cases hF
  · cases hF
end Go.PE
namespace Go.PE
open Go.RowKit Go.Proofs.Tryz
set_option maxRecDepth 100000
/-! ### reduce -/
def X1 (g : FuncId) : List PV → Option (PV × List (List PV)) := bif Nat.beq g 313 then subF else bif Nat.beq g 314 then restF else fun _ => none
theorem X1_meets (g : FuncId) : Meets prog g (X1 g) := by
  unfold X1
  cases h1 : Nat.beq g 313 with
  | true =>
    obtain rfl := Nat.eq_of_beq_eq_true h1
    exact sub_meets
  | false =>
    cases h2 : Nat.beq g 314 with
    | true =>
      obtain rfl := Nat.eq_of_beq_eq_true h2
      exact rest_meets
    | false => exact none_meets g
theorem viaX {f : FuncId} {avs avs' : List PV} {r : Option (PV × List (List PV))} (h : X1 f avs' = r) (e : avs = avs') : X1 f avs = r := e ▸ h
theorem sub_X {u v : List Nat} {t : Nat} (h1 : okL u = true) (h2 : okL v = true) (h3 : u.length = v.length + 1) (h4 : v.length ≤ 16777216) (h5 : t < 1000000000) :
    X1 313 [.own (0, 0) 1 (row u), .imm 1 (row v), .int .u64 (t : Nat)] = some (.bool (decide (lval u < t * lval v)), row (limbsN u.length (lval u + (if lval u < t * lval v then 1000000000 ^ u.length else 0) - t * lval v))) := by
  show subF [.own (0, 0) 1 (row u), .imm 1 (row v), .int .u64 (t : Nat)] = _
  simp only [subF, unrow_row]
  rw [if_pos ⟨h1, h2, h3, h4, by omega, by omega⟩, Int.toNat_natCast]
theorem rest_X {u v : List Nat} (h1 : okL u = true) (h2 : okL v = true) (h3 : v.length ≤ u.length) (h4 : u.length ≤ 16777217) :
    X1 314 [.own (0, 0) 1 (row u), .imm 1 (row v)] = some (.tup [], row (limbsN u.length ((lval u + lval v) % 1000000000 ^ u.length))) := by
  show restF [.own (0, 0) 1 (row u), .imm 1 (row v)] = _
  simp only [restF, unrow_row]
  rw [if_pos ⟨h1, h2, h3, h4⟩]
theorem mid_win (pre post : List (List PV)) (u : List Nat) : ((pre ++ row u ++ post).drop pre.length).take u.length = row u := by
  rw [List.append_assoc, List.drop_left, ← row_len u, List.take_left]
theorem mid_new (pre post new : List (List PV)) (u : List Nat) : (pre ++ row u ++ post).take pre.length ++ new ++ (pre ++ row u ++ post).drop (pre.length + u.length) = pre ++ new ++ post := by
  have e : pre ++ row u ++ post = pre ++ (row u ++ post) := List.append_assoc ..
  rw [e, List.take_left, ← List.drop_drop, List.drop_left, ← row_len u, List.drop_left]
theorem flat_mid {pre post : List (List PV)} {u : List Nat} (h : flat1 (pre ++ row u ++ post) = true) (x : List Nat) : flat1 (pre ++ row x ++ post) = true := by
  unfold flat1 at h ⊢
  rw [List.all_append, List.all_append, Bool.and_eq_true, Bool.and_eq_true] at h ⊢
  exact ⟨⟨h.1.1, row_sc x⟩, h.2⟩
theorem guess_init {q v1 v2 top u1 : Nat} (h : q * (v1 * 1000000000 + v2) ≤ top * 1000000000 + u1) (hu : u1 < 1000000000) : q * v1 ≤ top := by
  rw [Nat.mul_add, ← Nat.mul_assoc] at h
  generalize q * v1 = x at *
  omega
theorem red_over {U V P g : Nat} (hq : U / V ≤ g) (hg : g ≤ U / V + 1) (hs : U < g * V) (hU : U < P) (hV : V ≤ P) : g = U / V + 1 ∧ U + P - g * V < P ∧ (U + P - g * V + V) % P = U % V := by
  have hmd := Nat.div_add_mod U V
  have hV0 : 0 < V := by
    rcases Nat.eq_zero_or_pos V with h | h
    · rw [h, Nat.mul_zero] at hs; omega
    · exact h
  have hml := Nat.mod_lt U hV0
  have hgq : g = U / V + 1 := by
    rcases Nat.lt_or_ge (U / V) g with h | h
    · exact Nat.le_antisymm hg h
    · have : g * V ≤ U / V * V := Nat.mul_le_mul_right _ h
      rw [Nat.mul_comm (U / V)] at this
      omega
  refine ⟨hgq, by omega, ?_⟩
  rw [hgq, Nat.add_mul, Nat.one_mul, Nat.mul_comm (U / V)]
  have h1 : U + P - (V * (U / V) + V) + V = U % V + P := by omega
  rw [h1, Nat.add_mod_right, Nat.mod_eq_of_lt (by omega)]
theorem red_fit {U V g : Nat} (hq : U / V ≤ g) (hg : g ≤ U / V + 1) (hs : ¬ U < g * V) (h0 : 0 < V) : g = U / V ∧ U + 0 - g * V = U % V := by
  have hmd := Nat.div_add_mod U V
  have hgq : g = U / V := by
    rcases Nat.lt_or_ge (U / V) g with h | h
    · exfalso
      have hge : g = U / V + 1 := Nat.le_antisymm hg h
      have hml := Nat.mod_lt U h0
      rw [hge, Nat.add_mul, Nat.one_mul, Nat.mul_comm (U / V)] at hs
      omega
    · exact Nat.le_antisymm h hq
  refine ⟨hgq, ?_⟩
  rw [hgq, Nat.mul_comm (U / V)]
  omega
theorem mid_le (pre post : List (List PV)) (u : List Nat) : pre.length + u.length ≤ (pre ++ row u ++ post).length := by
  simp only [List.length_append, row_len]; omega
theorem dec1 {q : Nat} (h : q + 1 < 1000000000) : IntKind.u64.wrap (((q + 1 : Nat) : Int) - 1) = (q : Int) := by
  rw [show ((q + 1 : Nat) : Int) - 1 = (q : Int) by omega, wrap_u64 (Int.natCast_nonneg _) (by omega)]
theorem wrap_lt {q : Nat} (h : q < 1000000000) : IntKind.u32.wrap (q : Int) = (q : Int) := wrap_u32 (Int.natCast_nonneg _) (by omega)
def cqa : Code → Code | .seq a _ => a | c => c
def cqb : Code → Code | .seq _ b => b | c => c
def blOf : Code → Code | .block _ c => c | c => c
def lpOf : Code → Code | .loop c => c | c => c
def bdOf (f : Func) : Code := f.body.getD .skip
def lvR (b : Nat) : List Nat := VS :: lvF 279 b
noncomputable def cR : Code := cqb (cqb (cqb (cqb (bdOf f279))))
def redE (pre post : List (List PV)) (u v : List Nat) : Ex → St → Prop := endV tab f279.results.toList 1 (.int .u32 (lval u / lval v : Nat)) (pre ++ row (limbsN u.length (lval u % lval v)) ++ post)
abbrev redEnv (pre post : List (List PV)) (u v : List Nat) (m v1 g r : Nat) : List (Nat × PV) :=
  [(VS, .own (0, 0) 1 (pre ++ row u ++ post)), (0, .snap VS none (0, 0) pre.length u.length), (1, .imm 1 (row v)), (5, .int .i64 (m + 2 : Nat)), (7, .int .u64 v1), (8, .int .u64 (g : Nat)), (9, .int .u64 (r : Nat))]
abbrev redI (pre post : List (List PV)) (u v : List Nat) (m v1 u2 u3 : Nat) (e : List (Nat × PV)) (g : Nat) : Prop :=
  ∃ r : Nat, e = redEnv pre post u v m v1 g r ∧ g * v1 + r = u3 * 1000000000 + u2 ∧ lval u / lval v ≤ g ∧ r < 1000000000
/-- What stands at the loop's head. -/
structure RedH (pre post : List (List PV)) (u v : List Nat) (m u1 u2 u3 v1 v2 : Nat) : Prop where
  ou : okL u = true
  ov : okL v = true
  luv : u.length = v.length + 1
  lvm : v.length ≤ 16777216
  hfl : flat1 (pre ++ row u ++ post) = true
  hpos : 0 < u.length
  hm : v.length = m + 2
  lu : u.length = m + 3
  hVp : 0 < lval v
  hqB : lval u / lval v < 1000000000
  g3 : (pre ++ row u ++ post)[pre.length + m]? = some [PV.int IntKind.u32 (u1 : Nat)]
  g5 : (row v)[m]? = some [PV.int IntKind.u32 (v2 : Nat)]
  b1 : u3 < 1000000000
  b2 : u2 < 1000000000
  b3 : u1 < 1000000000
  b4 : v1 < 1000000000
  b5 : v2 < 1000000000
  hnorm : 1000000000 ≤ 2 * v1
  htop : u3 ≤ v1
  hgt : ∀ g, (u3 * 1000000000 + u2) * 1000000000 + u1 + 1 ≤ g * (v1 * 1000000000 + v2) → lval u / lval v < g
  hle : ∀ g, 1000000000 ≤ v1 * 1000000000 + v2 → g < 1000000000 → g * (v1 * 1000000000 + v2) ≤ (u3 * 1000000000 + u2) * 1000000000 + u1 → g ≤ lval u / lval v + 1
variable {pre post : List (List PV)} {u v : List Nat} {m u1 u2 u3 v1 v2 : Nat}
abbrev redGoal (pre post : List (List PV)) (u v : List Nat) (m v1 u2 u3 g r : Nat) : Prop :=
  W prog X1 [4] lvR NN 0 (lpOf (blOf (cqa cR))) (0, redEnv pre post u v m v1 g r) (thenW (fun s' => ∃ m', m' < g ∧ redI pre post u v m v1 u2 u3 (canon (lvR 0) (lookup s'.2)) m')
    (outW 0 (thenW (fun s' => W prog X1 [4] lvR NN 0 (cqb cR) s' (redE pre post u v)) (redE pre post u v))))
theorem redA (H : RedH pre post u v m u1 u2 u3 v1 v2) {g r : Nat} (htop2 : g * v1 + r = u3 * 1000000000 + u2) (hq : lval u / lval v ≤ g) (hr : r < 1000000000) (hb : 1000000000 ≤ g) : redGoal pre post u v m v1 u2 u3 g r := by
  obtain ⟨ou, ov, luv, lvm, hfl, hpos, hm, lu, hVp, hqB, g3, g5, b1, b2, b3, b4, b5, hnorm, htop, hgt, hle⟩ := H
  have hgle : g ≤ u3 * 1000000000 + u2 := by
    have := Nat.le_mul_of_pos_right g (show 0 < v1 by omega)
    omega
  unfold redGoal
  repeat (first | refine WX.step tab_eq rfl rfl trivial ?_ | refine WX.step tab_eq rfl rfl (by decide) ?_ | refine WX.nil ?_ | refine W.seq ?_ | refine W.region ?_ | refine W.regionD ?_ | refine W.block ?_ | refine W.skip ?_ | refine W.exit ?_ | refine W.ret ?_ | refine W.condT rfl ?_ | refine W.condF rfl ?_ | refine WX.skip rfl ?_)
  repeat (first | refine WX.stepD tab_eq rfl rfl trivial ?_ | refine WX.stepD tab_eq rfl rfl (by decide) ?_ | refine WX.skipD rfl ?_)
  refine WX.boolMD rfl rfl (fun hb0 => ?_) (fun hb0 => absurd hb (by have := of_decide_eq_false hb0; omega))
  clear hb0
  have hqlt := guess_step htop2 (v2 := v2) (u1 := u1) (.inl (by omega)) hqB hgt
  repeat (first | refine WX.stepD tab_eq rfl rfl trivial ?_ | refine WX.stepD tab_eq rfl rfl (by decide) ?_ | refine WX.skipD rfl ?_)
  refine WX.nilD (by kernel_rfl) ?_
  repeat (first | refine WX.step tab_eq rfl rfl trivial ?_ | refine WX.step tab_eq rfl rfl (by decide) ?_ | refine WX.nil ?_ | refine W.seq ?_ | refine W.region ?_ | refine W.regionD ?_ | refine W.block ?_ | refine W.skip ?_ | refine W.exit ?_ | refine W.ret ?_ | refine W.condT rfl ?_ | refine W.condF rfl ?_ | refine WX.skip rfl ?_)
  obtain ⟨g', rfl⟩ : ∃ g', g = g' + 1 := ⟨g - 1, by omega⟩
  have htop3 : g' * v1 + (r + v1) = u3 * 1000000000 + u2 := by rw [Nat.add_mul, Nat.one_mul] at htop2; omega
  repeat (first | refine WX.step tab_eq rfl rfl trivial ?_ | refine WX.step tab_eq rfl rfl (by decide) ?_ | refine WX.nil ?_ | refine W.seq ?_ | refine W.region ?_ | refine W.regionD ?_ | refine W.block ?_ | refine W.skip ?_ | refine W.exit ?_ | refine W.ret ?_ | refine W.condT rfl ?_ | refine W.condF rfl ?_ | refine WX.skip rfl ?_)
  rw [wrap_u64 (x := ((g' + 1 : Nat) : Int) - 1) (by omega) (by omega), show ((g' + 1 : Nat) : Int) - 1 = (g' : Int) by omega, wrap_u64 (x := (r : Int) + v1) (by omega) (by omega), show (r : Int) + v1 = ((r + v1 : Nat) : Int) by omega]
  refine W.cond rfl (fun hr2 => ?_) (fun hr2 => ?_)
  · have hr2 := of_decide_eq_true hr2
    obtain ⟨hgB, k2⟩ := guess_break htop3 htop b2 b5 (u1 := u1) (by omega)
    have hqg : lval u / lval v ≤ g' := by omega
    have hg1 := hle g' (by omega) hgB (guess_final htop3 k2)
    clear hgt hle htop2 htop3 hq hr hqlt k2 g3 g5
    have hUlt := lval_lt ou
    have hVle := Nat.le_trans (Nat.le_of_lt (lval_lt ov)) (Nat.pow_le_pow_right (n := 1000000000) (by omega) (show v.length ≤ u.length by omega))
    repeat (first | refine WX.step tab_eq rfl rfl trivial ?_ | refine WX.step tab_eq rfl rfl (by decide) ?_ | refine WX.nil ?_ | refine W.seq ?_ | refine W.region ?_ | refine W.regionD ?_ | refine W.block ?_ | refine W.skip ?_ | refine W.exit ?_ | refine W.ret ?_ | refine W.condT rfl ?_ | refine W.condF rfl ?_ | refine WX.skip rfl ?_)
    refine WX.callW tab_eq rfl rfl rfl rfl rfl rfl rfl rfl rfl (viaX (sub_X ou ov luv lvm hgB) (by rw [mid_win]; rfl)) rfl rfl hfl (by rw [row_len, limbsN_len]; exact ⟨mid_le _ _ _, hpos, rfl⟩) (row_flat _) ?_
    rw [mid_new]
    repeat (first | refine WX.step tab_eq rfl rfl trivial ?_ | refine WX.step tab_eq rfl rfl (by decide) ?_ | refine WX.nil ?_ | refine W.seq ?_ | refine W.region ?_ | refine W.regionD ?_ | refine W.block ?_ | refine W.skip ?_ | refine W.exit ?_ | refine W.ret ?_ | refine W.condT rfl ?_ | refine W.condF rfl ?_ | refine WX.skip rfl ?_)
    refine W.cond rfl (fun hs => ?_) (fun hs => ?_)
    · have hs : lval u < g' * lval v := of_decide_eq_true hs
      obtain ⟨rfl, k1, k2⟩ := red_over hqg hg1 hs hUlt hVle
      rw [if_pos hs]
      obtain ⟨x, hx⟩ : ∃ x, x = limbsN u.length (lval u + 1000000000 ^ u.length - (lval u / lval v + 1) * lval v) := ⟨_, rfl⟩
      have lx : x.length = u.length := by rw [hx, limbsN_len]
      have ox : okL x = true := by rw [hx]; exact okL_limbsN _ _
      have e : (lval x + lval v) % 1000000000 ^ x.length = lval u % lval v := by rw [lx, hx, lval_limbsN _ _ k1]; exact k2
      rw [← hx]
      clear hUlt hVle k1 k2 hx hs hqg hg1
      repeat (first | refine WX.step tab_eq rfl rfl trivial ?_ | refine WX.step tab_eq rfl rfl (by decide) ?_ | refine WX.nil ?_ | refine W.seq ?_ | refine W.region ?_ | refine W.regionD ?_ | refine W.block ?_ | refine W.skip ?_ | refine W.exit ?_ | refine W.ret ?_ | refine W.condT rfl ?_ | refine W.condF rfl ?_ | refine WX.skip rfl ?_)
      rw [dec1 hgB]
      refine WX.callW tab_eq rfl rfl rfl rfl rfl rfl rfl rfl rfl (viaX (rest_X ox ov (by omega) (by omega)) (by rw [← lx, mid_win]; rfl)) rfl rfl (flat_mid hfl x) (by rw [row_len, limbsN_len, ← lx]; exact ⟨mid_le _ _ _, lx ▸ hpos, rfl⟩) (row_flat _) ?_
      rw [← lx, mid_new, e]
      repeat (first | refine WX.step tab_eq rfl rfl trivial ?_ | refine WX.step tab_eq rfl rfl (by decide) ?_ | refine WX.nil ?_ | refine W.seq ?_ | refine W.region ?_ | refine W.regionD ?_ | refine W.block ?_ | refine W.skip ?_ | refine W.exit ?_ | refine W.ret ?_ | refine W.condT rfl ?_ | refine W.condF rfl ?_ | refine WX.skip rfl ?_)
      rw [wrap_lt (Nat.lt_of_succ_lt hgB)]
      repeat (first | refine WX.step tab_eq rfl rfl trivial ?_ | refine WX.step tab_eq rfl rfl (by decide) ?_ | refine WX.nil ?_ | refine W.seq ?_ | refine W.region ?_ | refine W.regionD ?_ | refine W.block ?_ | refine W.skip ?_ | refine W.exit ?_ | refine W.ret ?_ | refine W.condT rfl ?_ | refine W.condF rfl ?_ | refine WX.skip rfl ?_)
      show (∃ st, _) ∧ _
      exact ⟨⟨(0, 0), by rw [← lx]; rfl⟩, rfl⟩
    · have hs : ¬ lval u < g' * lval v := of_decide_eq_false hs
      obtain ⟨rfl, e⟩ := red_fit hqg hg1 hs hVp
      rw [if_neg hs, e]
      clear hUlt hVle hs hqg hg1 e
      repeat (first | refine WX.step tab_eq rfl rfl trivial ?_ | refine WX.step tab_eq rfl rfl (by decide) ?_ | refine WX.nil ?_ | refine W.seq ?_ | refine W.region ?_ | refine W.regionD ?_ | refine W.block ?_ | refine W.skip ?_ | refine W.exit ?_ | refine W.ret ?_ | refine W.condT rfl ?_ | refine W.condF rfl ?_ | refine WX.skip rfl ?_)
      rw [wrap_lt hgB]
      repeat (first | refine WX.step tab_eq rfl rfl trivial ?_ | refine WX.step tab_eq rfl rfl (by decide) ?_ | refine WX.nil ?_ | refine W.seq ?_ | refine W.region ?_ | refine W.regionD ?_ | refine W.block ?_ | refine W.skip ?_ | refine W.exit ?_ | refine W.ret ?_ | refine W.condT rfl ?_ | refine W.condF rfl ?_ | refine WX.skip rfl ?_)
      show (∃ st, _) ∧ _
      exact ⟨⟨(0, 0), rfl⟩, rfl⟩
  · have hr2 := of_decide_eq_false hr2
    repeat (first | refine WX.step tab_eq rfl rfl trivial ?_ | refine WX.step tab_eq rfl rfl (by decide) ?_ | refine WX.nil ?_ | refine W.seq ?_ | refine W.region ?_ | refine W.regionD ?_ | refine W.block ?_ | refine W.skip ?_ | refine W.exit ?_ | refine W.ret ?_ | refine W.condT rfl ?_ | refine W.condF rfl ?_ | refine WX.skip rfl ?_)
    show ∃ m', _
    exact ⟨g', by omega, r + v1, rfl, htop3, by omega, by omega⟩
end Go.PE
namespace Go.PE
open Go.RowKit Go.Proofs.Tryz
set_option maxRecDepth 100000
variable {pre post : List (List PV)} {u v : List Nat} {m u1 u2 u3 v1 v2 : Nat}
theorem redB (H : RedH pre post u v m u1 u2 u3 v1 v2) {g r : Nat} (htop2 : g * v1 + r = u3 * 1000000000 + u2) (hq : lval u / lval v ≤ g) (hr : r < 1000000000) (hb : ¬ 1000000000 ≤ g) (hgr : r * 1000000000 + u1 < g * v2) : redGoal pre post u v m v1 u2 u3 g r := by
  obtain ⟨ou, ov, luv, lvm, hfl, hpos, hm, lu, hVp, hqB, g3, g5, b1, b2, b3, b4, b5, hnorm, htop, hgt, hle⟩ := H
  have hgle : g ≤ u3 * 1000000000 + u2 := by
    have := Nat.le_mul_of_pos_right g (show 0 < v1 by omega)
    omega
  unfold redGoal
  repeat (first | refine WX.step tab_eq rfl rfl trivial ?_ | refine WX.step tab_eq rfl rfl (by decide) ?_ | refine WX.nil ?_ | refine W.seq ?_ | refine W.region ?_ | refine W.regionD ?_ | refine W.block ?_ | refine W.skip ?_ | refine W.exit ?_ | refine W.ret ?_ | refine W.condT rfl ?_ | refine W.condF rfl ?_ | refine WX.skip rfl ?_)
  repeat (first | refine WX.stepD tab_eq rfl rfl trivial ?_ | refine WX.stepD tab_eq rfl rfl (by decide) ?_ | refine WX.skipD rfl ?_)
  refine WX.boolMD rfl rfl (fun hb0 => absurd (of_decide_eq_true hb0) (by omega)) (fun hb0 => ?_)
  clear hb0
  have hgb : g < 1000000000 := by omega
  obtain ⟨z, hz⟩ : ∃ z, z = g * v2 := ⟨_, rfl⟩
  have hzI : (g : Int) * ((v2 : Nat) : Int) = (z : Int) := by rw [hz]; exact (Int.natCast_mul _ _).symm
  have hzB : z ≤ g * 999999999 := by rw [hz]; exact Nat.mul_le_mul_left g (by omega)
  have hidx : IntKind.i64.wrap (((m + 2 : Nat) : Int) - 2) = (m : Int) := by rw [wrap_i64 (by omega) (by omega)]; omega
  repeat (first | refine WX.stepD tab_eq rfl rfl trivial ?_ | refine WX.stepD tab_eq rfl rfl (by decide) ?_ | refine WX.skipD rfl ?_)
  refine WX.idxImmD tab_eq rfl rfl rfl rfl rfl rfl (by rw [hidx]; omega) (by rw [hidx]; exact g5) ?_
  repeat (first | refine WX.stepD tab_eq rfl rfl trivial ?_ | refine WX.stepD tab_eq rfl rfl (by decide) ?_ | refine WX.skipD rfl ?_)
  refine WX.stepD tab_eq rfl rfl (by rw [hidx]; omega) ?_
  refine WX.ldElemD tab_eq rfl rfl rfl (by rw [hidx, Int.toNat_natCast]; exact g3) rfl rfl rfl rfl ?_
  repeat (first | refine WX.stepD tab_eq rfl rfl trivial ?_ | refine WX.stepD tab_eq rfl rfl (by decide) ?_ | refine WX.skipD rfl ?_)
  refine WX.nilD (by kernel_rfl) ?_
  rw [wrap_u64 (x := (v2 : Int)) (by omega) (by omega), hzI, wrap_u64 (x := (z : Int)) (by omega) (by omega), wrap_u64 (x := (r : Int) * 1000000000) (by omega) (by omega), wrap_u64 (x := (u1 : Int)) (by omega) (by omega), wrap_u64 (x := (r : Int) * 1000000000 + u1) (by omega) (by omega)]
  repeat (first | refine WX.step tab_eq rfl rfl trivial ?_ | refine WX.step tab_eq rfl rfl (by decide) ?_ | refine WX.nil ?_ | refine W.seq ?_ | refine W.region ?_ | refine W.regionD ?_ | refine W.block ?_ | refine W.skip ?_ | refine W.exit ?_ | refine W.ret ?_ | refine W.condT rfl ?_ | refine W.condF rfl ?_ | refine WX.skip rfl ?_)
  rw [cond_false]
  refine W.cond rfl (fun hgr0 => ?_) (fun hgr0 => absurd hgr (by have := of_decide_eq_false hgr0; omega))
  clear hgr0
  have hqlt := guess_step htop2 (v2 := v2) (u1 := u1) (.inr (by omega)) hqB hgt
  repeat (first | refine WX.step tab_eq rfl rfl trivial ?_ | refine WX.step tab_eq rfl rfl (by decide) ?_ | refine WX.nil ?_ | refine W.seq ?_ | refine W.region ?_ | refine W.regionD ?_ | refine W.block ?_ | refine W.skip ?_ | refine W.exit ?_ | refine W.ret ?_ | refine W.condT rfl ?_ | refine W.condF rfl ?_ | refine WX.skip rfl ?_)
  obtain ⟨g', rfl⟩ : ∃ g', g = g' + 1 := ⟨g - 1, by omega⟩
  have htop3 : g' * v1 + (r + v1) = u3 * 1000000000 + u2 := by rw [Nat.add_mul, Nat.one_mul] at htop2; omega
  repeat (first | refine WX.step tab_eq rfl rfl trivial ?_ | refine WX.step tab_eq rfl rfl (by decide) ?_ | refine WX.nil ?_ | refine W.seq ?_ | refine W.region ?_ | refine W.regionD ?_ | refine W.block ?_ | refine W.skip ?_ | refine W.exit ?_ | refine W.ret ?_ | refine W.condT rfl ?_ | refine W.condF rfl ?_ | refine WX.skip rfl ?_)
  rw [wrap_u64 (x := ((g' + 1 : Nat) : Int) - 1) (by omega) (by omega), show ((g' + 1 : Nat) : Int) - 1 = (g' : Int) by omega, wrap_u64 (x := (r : Int) + v1) (by omega) (by omega), show (r : Int) + v1 = ((r + v1 : Nat) : Int) by omega]
  refine W.cond rfl (fun hr2 => ?_) (fun hr2 => ?_)
  · have hr2 := of_decide_eq_true hr2
    obtain ⟨hgB, k2⟩ := guess_break htop3 htop b2 b5 (u1 := u1) (by omega)
    have hqg : lval u / lval v ≤ g' := by omega
    have hg1 := hle g' (by omega) hgB (guess_final htop3 k2)
    clear hgt hle htop2 htop3 hq hr hqlt k2 g3 g5
    have hUlt := lval_lt ou
    have hVle := Nat.le_trans (Nat.le_of_lt (lval_lt ov)) (Nat.pow_le_pow_right (n := 1000000000) (by omega) (show v.length ≤ u.length by omega))
    repeat (first | refine WX.step tab_eq rfl rfl trivial ?_ | refine WX.step tab_eq rfl rfl (by decide) ?_ | refine WX.nil ?_ | refine W.seq ?_ | refine W.region ?_ | refine W.regionD ?_ | refine W.block ?_ | refine W.skip ?_ | refine W.exit ?_ | refine W.ret ?_ | refine W.condT rfl ?_ | refine W.condF rfl ?_ | refine WX.skip rfl ?_)
    refine WX.callW tab_eq rfl rfl rfl rfl rfl rfl rfl rfl rfl (viaX (sub_X ou ov luv lvm hgB) (by rw [mid_win]; rfl)) rfl rfl hfl (by rw [row_len, limbsN_len]; exact ⟨mid_le _ _ _, hpos, rfl⟩) (row_flat _) ?_
    rw [mid_new]
    repeat (first | refine WX.step tab_eq rfl rfl trivial ?_ | refine WX.step tab_eq rfl rfl (by decide) ?_ | refine WX.nil ?_ | refine W.seq ?_ | refine W.region ?_ | refine W.regionD ?_ | refine W.block ?_ | refine W.skip ?_ | refine W.exit ?_ | refine W.ret ?_ | refine W.condT rfl ?_ | refine W.condF rfl ?_ | refine WX.skip rfl ?_)
    refine W.cond rfl (fun hs => ?_) (fun hs => ?_)
    · have hs : lval u < g' * lval v := of_decide_eq_true hs
      obtain ⟨rfl, k1, k2⟩ := red_over hqg hg1 hs hUlt hVle
      rw [if_pos hs]
      obtain ⟨x, hx⟩ : ∃ x, x = limbsN u.length (lval u + 1000000000 ^ u.length - (lval u / lval v + 1) * lval v) := ⟨_, rfl⟩
      have lx : x.length = u.length := by rw [hx, limbsN_len]
      have ox : okL x = true := by rw [hx]; exact okL_limbsN _ _
      have e : (lval x + lval v) % 1000000000 ^ x.length = lval u % lval v := by rw [lx, hx, lval_limbsN _ _ k1]; exact k2
      rw [← hx]
      clear hUlt hVle k1 k2 hx hs hqg hg1
      repeat (first | refine WX.step tab_eq rfl rfl trivial ?_ | refine WX.step tab_eq rfl rfl (by decide) ?_ | refine WX.nil ?_ | refine W.seq ?_ | refine W.region ?_ | refine W.regionD ?_ | refine W.block ?_ | refine W.skip ?_ | refine W.exit ?_ | refine W.ret ?_ | refine W.condT rfl ?_ | refine W.condF rfl ?_ | refine WX.skip rfl ?_)
      rw [dec1 hgB]
      refine WX.callW tab_eq rfl rfl rfl rfl rfl rfl rfl rfl rfl (viaX (rest_X ox ov (by omega) (by omega)) (by rw [← lx, mid_win]; rfl)) rfl rfl (flat_mid hfl x) (by rw [row_len, limbsN_len, ← lx]; exact ⟨mid_le _ _ _, lx ▸ hpos, rfl⟩) (row_flat _) ?_
      rw [← lx, mid_new, e]
      repeat (first | refine WX.step tab_eq rfl rfl trivial ?_ | refine WX.step tab_eq rfl rfl (by decide) ?_ | refine WX.nil ?_ | refine W.seq ?_ | refine W.region ?_ | refine W.regionD ?_ | refine W.block ?_ | refine W.skip ?_ | refine W.exit ?_ | refine W.ret ?_ | refine W.condT rfl ?_ | refine W.condF rfl ?_ | refine WX.skip rfl ?_)
      rw [wrap_lt (Nat.lt_of_succ_lt hgB)]
      repeat (first | refine WX.step tab_eq rfl rfl trivial ?_ | refine WX.step tab_eq rfl rfl (by decide) ?_ | refine WX.nil ?_ | refine W.seq ?_ | refine W.region ?_ | refine W.regionD ?_ | refine W.block ?_ | refine W.skip ?_ | refine W.exit ?_ | refine W.ret ?_ | refine W.condT rfl ?_ | refine W.condF rfl ?_ | refine WX.skip rfl ?_)
      show (∃ st, _) ∧ _
      exact ⟨⟨(0, 0), by rw [← lx]; rfl⟩, rfl⟩
    · have hs : ¬ lval u < g' * lval v := of_decide_eq_false hs
      obtain ⟨rfl, e⟩ := red_fit hqg hg1 hs hVp
      rw [if_neg hs, e]
      clear hUlt hVle hs hqg hg1 e
      repeat (first | refine WX.step tab_eq rfl rfl trivial ?_ | refine WX.step tab_eq rfl rfl (by decide) ?_ | refine WX.nil ?_ | refine W.seq ?_ | refine W.region ?_ | refine W.regionD ?_ | refine W.block ?_ | refine W.skip ?_ | refine W.exit ?_ | refine W.ret ?_ | refine W.condT rfl ?_ | refine W.condF rfl ?_ | refine WX.skip rfl ?_)
      rw [wrap_lt hgB]
      repeat (first | refine WX.step tab_eq rfl rfl trivial ?_ | refine WX.step tab_eq rfl rfl (by decide) ?_ | refine WX.nil ?_ | refine W.seq ?_ | refine W.region ?_ | refine W.regionD ?_ | refine W.block ?_ | refine W.skip ?_ | refine W.exit ?_ | refine W.ret ?_ | refine W.condT rfl ?_ | refine W.condF rfl ?_ | refine WX.skip rfl ?_)
      show (∃ st, _) ∧ _
      exact ⟨⟨(0, 0), rfl⟩, rfl⟩
  · have hr2 := of_decide_eq_false hr2
    repeat (first | refine WX.step tab_eq rfl rfl trivial ?_ | refine WX.step tab_eq rfl rfl (by decide) ?_ | refine WX.nil ?_ | refine W.seq ?_ | refine W.region ?_ | refine W.regionD ?_ | refine W.block ?_ | refine W.skip ?_ | refine W.exit ?_ | refine W.ret ?_ | refine W.condT rfl ?_ | refine W.condF rfl ?_ | refine WX.skip rfl ?_)
    show ∃ m', _
    exact ⟨g', by omega, r + v1, rfl, htop3, by omega, by omega⟩
end Go.PE
