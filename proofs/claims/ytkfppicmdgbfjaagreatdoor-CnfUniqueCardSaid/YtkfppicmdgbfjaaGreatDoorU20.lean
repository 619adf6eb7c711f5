/-
  A part of the proof that the law's function returns true and leaves its arguments as they were, for every input (no condition): own lemmas of the proof, in the order of their use.
-/
import Derived.Test.YtkfppicmdgbfjaaGreatDoorU18
import Derived.Test.YtkfppicmdgbfjaaGreatDoorU19
set_option linter.all false
namespace Go.PE
open Go.RowKit Go.Proofs.Tryz
set_option maxRecDepth 100000
/-! ### The functions that are given a row of limbs -/
def noF : FuncId → List PV → Option (PV × List (List PV)) := fun _ _ => none
theorem noF_meets : ∀ g, Meets prog g (noF g) := fun g => none_meets g (bk_meets g)
theorem mid_get {pre post : List (List PV)} {x : List Nat} {i : Nat} (h : i < x.length) : (pre ++ row x ++ post)[pre.length + i]? = some [.int .u32 (x.getD i 0 : Nat)] := by
  rw [List.append_assoc, List.getElem?_append_right (by omega), Nat.add_sub_cancel_left, List.getElem?_append_left (by rw [row_len]; exact h)]
  exact row_get h
theorem mid_set {pre post : List (List PV)} {x : List Nat} {i y : Nat} (h : i < x.length) : (pre ++ row x ++ post).set (pre.length + i) [.int .u32 (y : Int)] = pre ++ row (x.set i y) ++ post := by
  rw [List.append_assoc, List.set_append_right _ _ (by omega), Nat.add_sub_cancel_left, List.set_append_left _ _ (by rw [row_len]; exact h), row_set, List.append_assoc]
theorem parts {xs : List (List PV)} {off len : Nat} {u : List Nat} (h : (xs.drop off).take len = row u) (hf : off + len ≤ xs.length) :
    ∃ pre post, xs = pre ++ row u ++ post ∧ pre.length = off ∧ u.length = len ∧ ∀ new, xs.take off ++ new ++ xs.drop (off + len) = pre ++ new ++ post := by
  refine ⟨xs.take off, xs.drop (off + len), ?_, by simp; omega, ?_, fun _ => rfl⟩
  · rw [← h, List.append_assoc, ← List.drop_drop, List.take_append_drop, List.take_append_drop]
  · rw [← row_len u, ← h]; simp; omega
theorem set_take {l : List Nat} {i x : Nat} (h : i < l.length) : (l.set i x).take (i + 1) = l.take i ++ [x] := by
  rw [take_succ_getD (by simp; omega), List.take_set_of_le (Nat.le_refl _)]
  simp [List.getD, h]
theorem set_drop {l : List Nat} {i x : Nat} : (l.set i x).drop (i + 1) = l.drop (i + 1) := List.drop_set_of_lt (Nat.lt_succ_self i)
theorem getD_drop {l m : List Nat} {i : Nat} (h : l.drop i = m.drop i) : l.getD i 0 = m.getD i 0 := by
  have := congrArg (fun l => l.getD 0 0) h
  simpa [List.getD] using this
theorem drop_succ {l m : List Nat} {i : Nat} (h : l.drop i = m.drop i) : l.drop (i + 1) = m.drop (i + 1) := by
  rw [← List.drop_drop, ← List.drop_drop, h]
/-! ### subtract -/
def subF (avs : List PV) : Option (PV × List (List PV)) :=
  match avs with
  | [.own (0, 0) 1 xs, .imm 1 ys, .int .u64 t] => match unrow xs, unrow ys with
    | some u, some v => if okL u = true ∧ okL v = true ∧ u.length = v.length + 1 ∧ v.length ≤ 16777216 ∧ 0 ≤ t ∧ t < 1000000000 then
        some (.bool (decide (lval u < t.toNat * lval v)), row (limbsN u.length (lval u + (if lval u < t.toNat * lval v then 1000000000 ^ u.length else 0) - t.toNat * lval v))) else none
    | _, _ => none
  | _ => none
theorem sub_arith {L t V U c b p d x y c' b' : Nat} (h0 : L + t * V = U + (c + b) * p) (h : c + b + d + t * x = y + (c' + b') * 1000000000) : L + p * d + t * (V + p * x) = U + p * y + (c' + b') * (p * 1000000000) := by
  have h1 : p * (c + b + d + t * x) = p * (y + (c' + b') * 1000000000) := by rw [h]
  rw [Nat.mul_add, Nat.mul_add p y, Nat.mul_add p (c + b) d] at h1
  rw [Nat.mul_add t V, Nat.mul_left_comm t p x, Nat.mul_left_comm (c' + b') p]
  rw [Nat.mul_comm (c + b) p] at h0
  omega
theorem sub_end {W t V U b P : Nat} (hW : W < P) (hb : b ≤ 1) (h : W + t * V = U + (0 + b) * P) : decide (0 < b) = decide (U < t * V) ∧ W = U + (if U < t * V then P else 0) - t * V := by
  generalize t * V = X at *
  rcases Nat.lt_or_ge b 1 with hb' | hb'
  · have : b = 0 := by omega
    subst this
    rw [Nat.add_zero, Nat.zero_mul, Nat.add_zero] at h
    have : ¬ U < X := by omega
    rw [decide_eq_false this, if_neg this]
    exact ⟨rfl, by omega⟩
  · have : b = 1 := by omega
    subst this
    rw [Nat.zero_add, Nat.one_mul] at h
    have : U < X := by omega
    rw [decide_eq_true this, if_pos this]
    exact ⟨rfl, by omega⟩
def subI (u v : List Nat) (t i c b : Nat) (y : List Nat) : Prop :=
  i ≤ u.length ∧ y.length = u.length ∧ okL y = true ∧ y.drop i = u.drop i ∧ c ≤ t ∧ b ≤ 1 ∧ (v.length < i → c = 0) ∧ lval (y.take i) + t * lval (v.take i) = lval (u.take i) + (c + b) * 1000000000 ^ i
theorem subI_step {u v y : List Nat} {t i c b d b' : Nat} (h : subI u v t i c b y) (hi : i < u.length) (luv : u.length = v.length + 1) (ht : t < 1000000000) (ov : okL v = true) (hd : d < 1000000000) (hb' : b' ≤ 1)
    (he : (c + t * v.getD i 0) % 1000000000 + b + d = u.getD i 0 + b' * 1000000000) : subI u v t (i + 1) ((c + t * v.getD i 0) / 1000000000) b' (y.set i d) := by
  obtain ⟨h1, h2, h3, h4, h5, h6, h7, h8⟩ := h
  have hx := okL_getD ov i
  refine ⟨hi, by simp [h2], okL_set h3 _ hd, by rw [set_drop]; exact drop_succ h4, ?_, hb', fun hl => ?_, ?_⟩
  · have := Nat.mul_le_mul_left t (show v.getD i 0 ≤ 999999999 by omega)
    have e : (c + t * v.getD i 0) / 1000000000 ≤ (t * 1000000000) / 1000000000 := Nat.div_le_div_right (by omega)
    omega
  · have : v.getD i 0 = 0 := getD_ge (by omega)
    rw [this]; omega
  · rw [set_take (by omega), lval_append, lval_step, lval_step, List.length_take, Nat.min_eq_left (by omega), Nat.pow_succ]
    simp only [lval, Nat.mul_zero, Nat.add_zero]
    refine sub_arith h8 ?_
    have := Nat.mod_add_div (c + t * v.getD i 0) 1000000000
    generalize v.getD i 0 = x at *
    generalize t * x = z at *
    omega
theorem sub_meets : Meets prog 243 subF := by
  refine meetsW_of tab_eq mixed_ok noF_meets func243 rfl (by decide) [6] (fun b => VS :: lvF 243 b) NN rfl rfl rfl (by kernel_rfl) ?_
  intro sz xs off len avs r new hF hfit hpos hmx hfl
  unfold subF at hF
  split at hF
  · rename_i xs0 ys t heq
    split at hF
    · rename_i u v hu hv
      split at hF
      · rename_i hc
        obtain ⟨ou, ov, luv, lv, ht0, ht⟩ := hc
        cases hF
        simp only [List.cons.injEq, PV.own.injEq, true_and] at heq
        obtain ⟨⟨rfl, hwin⟩, rfl⟩ := heq
        obtain rfl := row_unrow hv
        have hxs := row_unrow hu
        rw [← hwin] at hxs
        obtain ⟨pre, post, rfl, rfl, rfl, hnew⟩ := parts hxs hfit
        rw [hnew]
        clear hnew hxs hu hv hwin
        obtain ⟨t, rfl⟩ : ∃ n : Nat, t = n := ⟨t.toNat, by omega⟩
        rw [Int.toNat_natCast]
        simp only [List.length_append, row_len] at hmx
        refine ⟨Nat.le_of_ble_eq_true rfl, rfl, ?_⟩
        show W _ _ _ _ _ _ _ (0, [(VS, _), (0, _), (1, _), (2, _)]) _
        refine zs0 ?_
        refine W.loop (fun e m => ∃ (i c b : Nat) (y : List Nat), e = [(VS, .own (0, 0) 1 (pre ++ row y ++ post)), (0, .snap VS none (0, 0) pre.length u.length), (1, .imm 1 (row v)), (2, .int .u64 t), (7, .int .u64 c), (8, .int .i64 b), (12, .int .i64 u.length), (13, .int .i64 i)] ∧
          subI u v t i c b y ∧ m = u.length - i) u.length ?_ ?_ ?_
        · exact ⟨0, 0, 0, u, rfl, ⟨by omega, rfl, ou, rfl, by omega, by omega, fun _ => rfl, by simp [lval]⟩, by omega⟩
        · show _ < 4611686018427387904; omega
        · rintro e m ⟨i, c, b, y, rfl, hI, rfl⟩
          have hI2 := hI
          obtain ⟨hi, hlen, oy, hdr, hct, hb, hc0, hv⟩ := hI2
          refine zs0 ?_
          refine W.cond rfl (fun hlt => ?_) (fun hlt => ?_)
          · have hlt := of_decide_eq_true hlt
            have hy := getD_drop hdr
            have gy := okL_getD oy i
            rw [hy] at gy
            have gv := okL_getD ov i
            have hst := fun d b' => @subI_step u v y t i c b d b' hI (by omega) luv (by omega) ov
            have gm := mid_get (pre := pre) (post := post) (x := y) (i := i) (by omega)
            rw [hy] at gm
            refine zs0 ?_
            rw [row_len]
            refine W.cond rfl (fun hin => ?_) (fun hin => ?_)
            · have hin := of_decide_eq_true hin
              have g := row_get (l := v) (i := i) (by omega)
              refine zs0 ?_
              refine wI te rfl rfl rfl rfl rfl rfl (by omega) (g) ?_
              refine zs0 ?_
              obtain ⟨z, hz⟩ : ∃ z, z = t * v.getD i 0 := ⟨_, rfl⟩
              have hzI : (t : Int) * ((v.getD i 0 : Nat) : Int) = (z : Int) := by rw [hz]; exact (Int.natCast_mul _ _).symm
              have hzB : z ≤ t * 999999999 := by rw [hz]; exact Nat.mul_le_mul_left t (by omega)
              rw [wrap_u64 (x := ((v.getD i 0 : Nat) : Int)) (by omega) (by omega), hzI, wrap_u64 (x := (z : Int)) (by omega) (by omega), wrap_u64 (x := (c : Int) + z) (by omega) (by omega), show (c : Int) + z = ((c + z : Nat) : Int) by omega]
              obtain ⟨c1, hc1⟩ : ∃ c1, c1 = c + z := ⟨_, rfl⟩
              rw [← hc1]
              rw [← hz, ← hc1] at hst
              refine wS te rfl rfl (by omega) ?_
              refine WX.ldElem tab_eq rfl rfl rfl (by rw [Int.toNat_natCast]; exact gm) rfl rfl rfl rfl ?_
              refine zs0 ?_
              rw [wrap_i64 (x := ((u.getD i 0 : Nat) : Int)) (by omega) (by omega), tmodB, wrap_i64 (x := ((c1 % 1000000000 : Nat) : Int)) (by omega) (by omega), wrap_i64 (x := ((u.getD i 0 : Nat) : Int) - b) (by omega) (by omega), wrap_i64 (x := ((u.getD i 0 : Nat) : Int) - b - (c1 % 1000000000 : Nat)) (by omega) (by omega), tdivB, wrap_u64 (x := ((c1 / 1000000000 : Nat) : Int)) (by omega) (by omega)]
              refine W.cond rfl (fun hneg => ?_) (fun hneg => ?_)
              · have hneg := of_decide_eq_true hneg
                refine zs0 ?_
                rw [wrap_i64 (x := ((u.getD i 0 : Nat) : Int) - b - (c1 % 1000000000 : Nat) + 1000000000) (by omega) (by omega), show ((u.getD i 0 : Nat) : Int) - b - (c1 % 1000000000 : Nat) + 1000000000 = ((u.getD i 0 + 1000000000 - b - c1 % 1000000000 : Nat) : Int) by omega, wrap_u32 (by omega) (by omega)]
                refine wS te rfl rfl (by omega) ?_
                refine WX.stElem tab_eq rfl rfl rfl (by rw [Int.toNat_natCast]; exact gm) rfl rfl rfl ?_
                refine zs0 ?_
                rw [Int.toNat_natCast, wrap_i64 (x := (i : Int) + 1) (by omega) (by omega)]
                show ∃ m', _
                refine ⟨u.length - (i + 1), by omega, i + 1, c1 / 1000000000, 1, y.set i (u.getD i 0 + 1000000000 - b - c1 % 1000000000), ?_, ?_, rfl⟩
                · rw [mid_set (by omega)]; rfl
                · have h := hst (u.getD i 0 + 1000000000 - b - c1 % 1000000000) 1 (by omega) (by omega) (by skip; omega)
                  skip
                  exact h
              · have hneg := of_decide_eq_false hneg
                refine zs0 ?_
                rw [show ((u.getD i 0 : Nat) : Int) - b - (c1 % 1000000000 : Nat) = ((u.getD i 0 - b - c1 % 1000000000 : Nat) : Int) by omega, wrap_u32 (by omega) (by omega)]
                refine wS te rfl rfl (by omega) ?_
                refine WX.stElem tab_eq rfl rfl rfl (by rw [Int.toNat_natCast]; exact gm) rfl rfl rfl ?_
                refine zs0 ?_
                rw [Int.toNat_natCast, wrap_i64 (x := (i : Int) + 1) (by omega) (by omega)]
                show ∃ m', _
                refine ⟨u.length - (i + 1), by omega, i + 1, c1 / 1000000000, 0, y.set i (u.getD i 0 - b - c1 % 1000000000), ?_, ?_, rfl⟩
                · rw [mid_set (by omega)]; rfl
                · have h := hst (u.getD i 0 - b - c1 % 1000000000) 0 (by omega) (by omega) (by skip; omega)
                  skip
                  exact h
            · have hin := of_decide_eq_false hin
              have hv0 : v.getD i 0 = 0 := getD_ge (by omega)
              rw [hv0, Nat.mul_zero, Nat.add_zero] at hst
              refine zs0 ?_
              refine wS te rfl rfl (by omega) ?_
              refine WX.ldElem tab_eq rfl rfl rfl (by rw [Int.toNat_natCast]; exact gm) rfl rfl rfl rfl ?_
              refine zs0 ?_
              rw [wrap_i64 (x := ((u.getD i 0 : Nat) : Int)) (by omega) (by omega), tmodB, wrap_i64 (x := ((c % 1000000000 : Nat) : Int)) (by omega) (by omega), wrap_i64 (x := ((u.getD i 0 : Nat) : Int) - b) (by omega) (by omega), wrap_i64 (x := ((u.getD i 0 : Nat) : Int) - b - (c % 1000000000 : Nat)) (by omega) (by omega), tdivB, wrap_u64 (x := ((c / 1000000000 : Nat) : Int)) (by omega) (by omega)]
              refine W.cond rfl (fun hneg => ?_) (fun hneg => ?_)
              · have hneg := of_decide_eq_true hneg
                refine zs0 ?_
                rw [wrap_i64 (x := ((u.getD i 0 : Nat) : Int) - b - (c % 1000000000 : Nat) + 1000000000) (by omega) (by omega), show ((u.getD i 0 : Nat) : Int) - b - (c % 1000000000 : Nat) + 1000000000 = ((u.getD i 0 + 1000000000 - b - c % 1000000000 : Nat) : Int) by omega, wrap_u32 (by omega) (by omega)]
                refine wS te rfl rfl (by omega) ?_
                refine WX.stElem tab_eq rfl rfl rfl (by rw [Int.toNat_natCast]; exact gm) rfl rfl rfl ?_
                refine zs0 ?_
                rw [Int.toNat_natCast, wrap_i64 (x := (i : Int) + 1) (by omega) (by omega)]
                show ∃ m', _
                refine ⟨u.length - (i + 1), by omega, i + 1, c / 1000000000, 1, y.set i (u.getD i 0 + 1000000000 - b - c % 1000000000), ?_, ?_, rfl⟩
                · rw [mid_set (by omega)]; rfl
                · have h := hst (u.getD i 0 + 1000000000 - b - c % 1000000000) 1 (by omega) (by omega) (by skip; omega)
                  skip
                  exact h
              · have hneg := of_decide_eq_false hneg
                refine zs0 ?_
                rw [show ((u.getD i 0 : Nat) : Int) - b - (c % 1000000000 : Nat) = ((u.getD i 0 - b - c % 1000000000 : Nat) : Int) by omega, wrap_u32 (by omega) (by omega)]
                refine wS te rfl rfl (by omega) ?_
                refine WX.stElem tab_eq rfl rfl rfl (by rw [Int.toNat_natCast]; exact gm) rfl rfl rfl ?_
                refine zs0 ?_
                rw [Int.toNat_natCast, wrap_i64 (x := (i : Int) + 1) (by omega) (by omega)]
                show ∃ m', _
                refine ⟨u.length - (i + 1), by omega, i + 1, c / 1000000000, 0, y.set i (u.getD i 0 - b - c % 1000000000), ?_, ?_, rfl⟩
                · rw [mid_set (by omega)]; rfl
                · have h := hst (u.getD i 0 - b - c % 1000000000) 0 (by omega) (by omega) (by skip; omega)
                  skip
                  exact h
          · have hlt := of_decide_eq_false hlt
            have hie : i = u.length := by omega
            subst hie
            have := hc0 (by omega)
            subst this
            rw [List.take_of_length_le (show y.length ≤ u.length by omega), List.take_of_length_le (show v.length ≤ u.length by omega), List.take_length] at hv
            have h1 := lval_lt oy
            rw [hlen] at h1
            obtain ⟨k1, k2⟩ := sub_end h1 hb hv
            refine zs0 ?_
            show (∃ st, _) ∧ _
            refine ⟨⟨(0, 0), ?_⟩, ?_⟩
            · rw [← k2, ← hlen, limbsN_lval oy]; rfl
            · have e : decide ((0 : Int) < (b : Int)) = decide (0 < b) := decide_eq_decide.2 (by omega)
              rw [← k1, ← e]
              rfl
      · cases hF
    · cases hF
  · cases hF
end Go.PE
namespace Go.PE
open Go.RowKit Go.Proofs.Tryz
set_option maxRecDepth 100000
/-! ### restore, trim -/
noncomputable def Tn : FuncId → List PV → Option (PV × List (List PV)) := lvl prog noF keepF lvF NN 1
theorem Tn_meets : ∀ g, Meets prog g (Tn g) := lvl_meets mixed_ok noF_meets keepF lvF NN 1
theorem at_Tn {l : List Nat} (i : Nat) (hl : l.length < 1099511627776) : Tn 227 [.imm 1 (row l), .int .i64 i] = some (.int .u32 (l.getD i 0 : Nat), []) := by
  refine lvl_enter tab_eq rfl func227 rfl (by decide) (by kernel_rfl) (Nat.le_of_ble_eq_true rfl) (Nat.le_of_ble_eq_true rfl) rfl ?_
  refine zs0 ?_
  refine W.cond rfl (fun hc => ?_) (fun hc => ?_)
  · have hc := of_decide_eq_true hc
    rw [row_len] at hc
    refine zs0 ?_
    have : l.getD i 0 = 0 := by rw [List.getD, List.getElem?_eq_none (by omega)]; rfl
    rw [this]
    rfl
  · have hc := of_decide_eq_false hc
    rw [row_len] at hc
    have hg := row_get (l := l) (i := i) (by omega)
    refine zs0 ?_
    refine wI te rfl rfl rfl rfl rfl rfl (by omega) (hg) ?_
    refine zs0 ?_
    rfl
def restF (avs : List PV) : Option (PV × List (List PV)) :=
  match avs with
  | [.own (0, 0) 1 xs, .imm 1 ys] => match unrow xs, unrow ys with
    | some u, some v => if okL u = true ∧ okL v = true ∧ v.length ≤ u.length ∧ u.length ≤ 16777217 then
        some (.tup [], row (limbsN u.length ((lval u + lval v) % 1000000000 ^ u.length))) else none
    | _, _ => none
  | _ => none
def restI (u v : List Nat) (i c : Nat) (y : List Nat) : Prop :=
  i ≤ u.length ∧ y.length = u.length ∧ okL y = true ∧ y.drop i = u.drop i ∧ c ≤ 1 ∧ lval (y.take i) + c * 1000000000 ^ i = lval (u.take i) + lval (v.take i)
theorem rest_arith {L V U c p d x y c' : Nat} (h0 : L + c * p = U + V) (h : c' * 1000000000 + d = y + x + c) : L + p * d + c' * (p * 1000000000) = U + p * y + (V + p * x) := by
  have h1 : p * (c' * 1000000000 + d) = p * (y + x + c) := by rw [h]
  rw [Nat.mul_add, Nat.mul_add p (y + x) c, Nat.mul_add p y x] at h1
  rw [Nat.mul_left_comm c' p]
  rw [Nat.mul_comm c p] at h0
  omega
theorem restI_step {u v y : List Nat} {i c : Nat} (h : restI u v i c y) (hi : i < u.length) (ou : okL u = true) (ov : okL v = true) :
    restI u v (i + 1) ((u.getD i 0 + v.getD i 0 + c) / 1000000000) (y.set i ((u.getD i 0 + v.getD i 0 + c) % 1000000000)) := by
  obtain ⟨h1, h2, h3, h4, h5, h6⟩ := h
  have gu := okL_getD ou i
  have gv := okL_getD ov i
  refine ⟨hi, by simp [h2], okL_set h3 _ (Nat.mod_lt _ (by omega)), by rw [set_drop]; exact drop_succ h4, by omega, ?_⟩
  rw [set_take (by omega), lval_append, lval_step, lval_step, List.length_take, Nat.min_eq_left (by omega), Nat.pow_succ]
  simp only [lval, Nat.mul_zero, Nat.add_zero]
  exact rest_arith h6 (by omega)
theorem rest_meets : Meets prog 244 restF := by
  refine meetsW_of tab_eq mixed_ok Tn_meets func244 rfl (by decide) [] (fun b => VS :: lvF 244 b) NN rfl rfl rfl (by kernel_rfl) ?_
  intro sz xs off len avs r new hF hfit hpos hmx hfl
  unfold restF at hF
  split at hF
  · rename_i xs0 ys heq
    split at hF
    · rename_i u v hu hv
      split at hF
      · rename_i hc
        obtain ⟨ou, ov, lvu, lu⟩ := hc
        cases hF
        simp only [List.cons.injEq, PV.own.injEq, true_and] at heq
        obtain ⟨⟨rfl, hwin⟩, rfl⟩ := heq
        obtain rfl := row_unrow hv
        have hxs := row_unrow hu
        rw [← hwin] at hxs
        obtain ⟨pre, post, rfl, rfl, rfl, hnew⟩ := parts hxs hfit
        rw [hnew]
        clear hnew hxs hu hv hwin
        refine ⟨Nat.le_of_ble_eq_true rfl, rfl, ?_⟩
        show W _ _ _ _ _ _ _ (0, [(VS, _), (0, _), (1, _)]) _
        refine zs0 ?_
        refine W.loop (fun e m => ∃ (i c : Nat) (y : List Nat), e = [(VS, .own (0, 0) 1 (pre ++ row y ++ post)), (0, .snap VS none (0, 0) pre.length u.length), (1, .imm 1 (row v)), (4, .int .u32 c), (8, .int .i64 u.length), (9, .int .i64 i)] ∧
          restI u v i c y ∧ m = u.length - i) u.length ?_ ?_ ?_
        · exact ⟨0, 0, u, rfl, ⟨by omega, rfl, ou, rfl, by omega, by simp [lval]⟩, by omega⟩
        · show _ < 4611686018427387904; omega
        · rintro e m ⟨i, c, y, rfl, hI, rfl⟩
          have hI2 := hI
          obtain ⟨hi, hlen, oy, hdr, hc, hv⟩ := hI2
          refine zs0 ?_
          refine W.cond rfl (fun hlt => ?_) (fun hlt => ?_)
          · have hlt := of_decide_eq_true hlt
            have hy := getD_drop hdr
            have gu := okL_getD ou i
            have gv := okL_getD ov i
            have hst := restI_step hI (by omega) ou ov
            have gm := mid_get (pre := pre) (post := post) (x := y) (i := i) (by omega)
            rw [hy] at gm
            refine zd8 ?_
            refine wD te rfl rfl (by omega) ?_
            refine WX.ldElemD tab_eq rfl rfl rfl (by rw [Int.toNat_natCast]; exact gm) rfl rfl rfl rfl ?_
            refine zd0 ?_
            refine wG te rfl rfl rfl rfl rfl (at_Tn i (by omega)) rfl rfl ?_
            refine zd0 ?_
            refine WX.nilD (by kernel_rfl) ?_
            rw [wrap_u32 (x := ((u.getD i 0 : Nat) : Int) + ((v.getD i 0 : Nat) : Int)) (by omega) (by omega), wrap_u32 (x := ((u.getD i 0 : Nat) : Int) + ((v.getD i 0 : Nat) : Int) + c) (by omega) (by omega),
              show ((u.getD i 0 : Nat) : Int) + ((v.getD i 0 : Nat) : Int) + c = ((u.getD i 0 + v.getD i 0 + c : Nat) : Int) by omega]
            refine zs0 ?_
            rw [tmodB, tdivB, wrap_u32 (x := (((u.getD i 0 + v.getD i 0 + c) / 1000000000 : Nat) : Int)) (by omega) (by omega)]
            refine wS te rfl rfl (by omega) ?_
            refine WX.stElem tab_eq rfl rfl rfl (by rw [Int.toNat_natCast]; exact gm) rfl rfl rfl ?_
            refine zs0 ?_
            rw [Int.toNat_natCast, wrap_i64 (x := (i : Int) + 1) (by omega) (by omega)]
            show ∃ m', _
            refine ⟨u.length - (i + 1), by omega, i + 1, (u.getD i 0 + v.getD i 0 + c) / 1000000000, y.set i ((u.getD i 0 + v.getD i 0 + c) % 1000000000), ?_, hst, rfl⟩
            rw [mid_set (by omega)]; rfl
          · have hlt := of_decide_eq_false hlt
            have hie : i = u.length := by omega
            subst hie
            rw [List.take_of_length_le (show y.length ≤ u.length by omega), List.take_of_length_le (show v.length ≤ u.length by omega), List.take_length] at hv
            have h1 := lval_lt oy
            rw [hlen] at h1
            have h2 : lval y = (lval u + lval v) % 1000000000 ^ u.length := by
              rw [← hv, Nat.add_mul_mod_self_right, Nat.mod_eq_of_lt h1]
            refine zs0 ?_
            show (∃ st, _) ∧ _
            refine ⟨⟨(0, 0), ?_⟩, rfl⟩
            rw [← h2, ← hlen, limbsN_lval oy]; rfl
      · cases hF
    · cases hF
  · cases hF
theorem trim_meets : Meets prog 199 trimF := by
  refine meetsP_of mixed_ok noF_meets func199 rfl (by decide) [2] (fun b => VS :: lvF 199 b) NN rfl rfl rfl rfl rfl (by kernel_rfl) ?_
  intro sz xs off len m hF hfit h0 hm hfl
  unfold trimF at hF
  split at hF
  · rename_i xs0 heq
    split at hF
    · rename_i l hl
      split at hF
      · rename_i hc
        cases hF
        simp only [List.cons.injEq, PV.own.injEq, true_and, and_true] at heq
        obtain ⟨rfl, hwin⟩ := heq
        have hxs := row_unrow hl
        rw [← hwin] at hxs
        obtain ⟨pre, post, rfl, rfl, rfl, _⟩ := parts hxs hfit
        clear hxs hl hwin
        show W _ _ _ _ _ _ _ (0, [(VS, _), (0, _)]) _
        refine zs0 ?_
        refine W.loop (fun e m => ∃ (n : Nat), e = [(VS, .own (0, 0) 1 (pre ++ row l ++ post)), (0, .snap VS none (0, 0) pre.length l.length), (3, .int .i64 n)] ∧ n ≤ l.length ∧ trimL l l.length = trimL l n ∧ m = n) l.length ?_ ?_ ?_
        · exact ⟨l.length, rfl, Nat.le_refl _, rfl, rfl⟩
        · show _ < 4611686018427387904; omega
        · rintro e m ⟨n, rfl, hn, ht, rfl⟩
          refine zs0 ?_
          refine WX.boolM rfl rfl (fun hb => ?_) (fun hb => ?_)
          · have hb := of_decide_eq_true hb
            obtain ⟨j, rfl⟩ : ∃ j, m = j + 1 := ⟨m - 1, by omega⟩
            have gm := mid_get (pre := pre) (post := post) (x := l) (i := j) (by omega)
            refine zs0 ?_
            rw [wrap_i64 (x := ((j + 1 : Nat) : Int) - 1) (by omega) (by omega), show ((j + 1 : Nat) : Int) - 1 = (j : Int) by omega]
            refine wS te rfl rfl (by omega) ?_
            refine WX.ldElem tab_eq rfl rfl rfl (by rw [Int.toNat_natCast]; exact gm) rfl rfl rfl rfl ?_
            refine zs0 ?_
            refine W.cond rfl (fun hz => ?_) (fun hz => ?_)
            · have hz : l.getD j 0 = 0 := by
                have : decide (((l.getD j 0 : Nat) : Int) = 0) = true := hz
                have := of_decide_eq_true this
                omega
              refine zs0 ?_
              rw [wrap_i64 (x := ((j + 1 : Nat) : Int) - 1) (by omega) (by omega), show ((j + 1 : Nat) : Int) - 1 = (j : Int) by omega]
              show ∃ m', _
              exact ⟨j, by omega, j, rfl, by omega, by rw [ht, trimL, if_pos hz], rfl⟩
            · have hz : ¬ l.getD j 0 = 0 := by
                have : decide (((l.getD j 0 : Nat) : Int) = 0) = false := hz
                have := of_decide_eq_false this
                omega
              have ht2 : trimL l l.length = j + 1 := by rw [ht, trimL, if_neg hz]
              rw [ht2]
              refine zs0 ?_
              refine wS te rfl rfl (by omega) ?_
              refine zs0 ?_
              exact ⟨(0, 0), 2, rfl, rfl, rfl⟩
          · have hb := of_decide_eq_false hb
            have : m = 0 := by omega
            subst this
            have ht2 : trimL l l.length = 0 := ht
            rw [ht2]
            refine zs0 ?_
            refine wS te rfl rfl (by omega) ?_
            refine zs0 ?_
            exact ⟨(0, 0), 2, rfl, rfl, rfl⟩
      · cases hF
    · cases hF
  · cases hF
end Go.PE
namespace Go.PE
open Go.RowKit Go.Proofs.Tryz
set_option maxRecDepth 100000
variable {k : Nat}
theorem cmp_T (a b : Nat) (ha : ln a < 549755813888) (hb : ln b < 549755813888) : ∃ r : Int, T (k + 1) 209 [.imm 1 (row (limbs a)), .imm 1 (row (limbs b))] = some (.int .i64 r, []) ∧ (r < 0 ↔ a < b) ∧ (r = 0 ↔ a = b) := by
  by_cases hl : ln a = ln b
  · have key : ∀ j, j ≤ ln a → (limbs a).drop j = (limbs b).drop j → ∃ r : Int, (∃ i, i < j ∧ r = ((limbs a).getD i 0 : Int) - (limbs b).getD i 0 ∧ r ≠ 0 ∧ (limbs a).drop (i + 1) = (limbs b).drop (i + 1)) ∨ (limbs a = limbs b ∧ r = 0) := by
      intro j
      induction j with
      | zero => intro _ h; simp only [List.drop_zero] at h; exact ⟨0, .inr ⟨h, rfl⟩⟩
      | succ j ih =>
        intro hj h
        by_cases he : (limbs a).getD j 0 = (limbs b).getD j 0
        · have : (limbs a).drop j = (limbs b).drop j := by
            unfold ln at hj hl; rw [drop_getD (l := limbs a) (i := j) (by omega), drop_getD (l := limbs b) (i := j) (by omega), h, he]
          obtain ⟨r, h1 | h1⟩ := ih (by omega) this
          · obtain ⟨i, h2, h3⟩ := h1
            exact ⟨r, .inl ⟨i, by omega, h3⟩⟩
          · exact ⟨r, .inr h1⟩
        · exact ⟨((limbs a).getD j 0 : Int) - (limbs b).getD j 0, .inl ⟨j, by omega, rfl, by omega, h⟩⟩
    obtain ⟨r, hr⟩ := key (ln a) (Nat.le_refl _) (by rw [List.drop_of_length_le (show (limbs a).length ≤ ln a from Nat.le_refl _), List.drop_of_length_le (show (limbs b).length ≤ ln a by unfold ln at hl ⊢; omega)])
    refine ⟨r, ?_, ?_⟩
    · unfold ln at ha hb hl
      have oa := okL_limbs a
      have ob := okL_limbs b
      refine enter rfl func209 rfl (by decide) (by kernel_rfl) rfl rfl ?_
      refine zs0 ?_
      refine W.cond rfl (fun hne => ?_) (fun hne => ?_)
      · have := of_decide_eq_true hne
        rw [row_len, row_len] at this
        omega
      · clear hne
        refine zs0 ?_
        rw [row_len, wrap_i64 (x := ((limbs a).length : Int) - 1) (by omega) (by omega)]
        refine W.loop (fun e m => ∃ j : Nat, e = [(0, .imm 1 (row (limbs a))), (1, .imm 1 (row (limbs b))), (5, .int .i64 ((j : Int) - 1))] ∧ j ≤ (limbs a).length ∧ (limbs a).drop j = (limbs b).drop j ∧ m = j) (limbs a).length ?_ ?_ ?_
        · exact ⟨(limbs a).length, rfl, by omega, by rw [List.drop_of_length_le (Nat.le_refl _), List.drop_of_length_le (by omega)], rfl⟩
        · show _ < 4611686018427387904; omega
        · rintro e m ⟨j, rfl, hj, hd, rfl⟩
          refine zs0 ?_
          refine W.cond rfl (fun hge => ?_) (fun hge => ?_)
          · have hge := of_decide_eq_true hge
            obtain ⟨i, rfl⟩ : ∃ i, m = i + 1 := ⟨m - 1, by omega⟩
            rw [show ((i + 1 : Nat) : Int) - 1 = (i : Int) by omega]
            have g1 := row_get (l := limbs a) (i := i) (by omega)
            have g2 := row_get (l := limbs b) (i := i) (by omega)
            refine zd8 ?_
            refine WX.idxImmD tab_eq rfl rfl rfl rfl rfl rfl (by omega) (g1) ?_
            refine zd0 ?_
            refine WX.idxImmD tab_eq rfl rfl rfl rfl rfl rfl (by omega) (g2) ?_
            refine zd7 ?_
            refine W.cond rfl (fun hd2 => ?_) (fun hd2 => ?_)
            · have hd2 := of_decide_eq_true hd2
              refine zd8 ?_
              refine WX.idxImmD tab_eq rfl rfl rfl rfl rfl rfl (by omega) (g1) ?_
              refine zd0 ?_
              refine WX.idxImmD tab_eq rfl rfl rfl rfl rfl rfl (by omega) (g2) ?_
              refine zd7 ?_
              have b1 := okL_getD oa i
              have b2 := okL_getD ob i
              have hd2 : ((limbs a).getD i 0 : Int) ≠ (limbs b).getD i 0 := hd2
              rw [wrap_i64 (x := ((limbs a).getD i 0 : Nat)) (by omega) (by omega), wrap_i64 (x := ((limbs b).getD i 0 : Nat)) (by omega) (by omega), wrap_i64 (by omega) (by omega)]
              have : r = ((limbs a).getD i 0 : Int) - (limbs b).getD i 0 := by
                rcases hr with ⟨i2, h1, h2, h3, h4⟩ | ⟨h1, _⟩
                · rcases Nat.lt_trichotomy i2 i with h | h | h
                  · exfalso
                    have e1 : (limbs a).getD i 0 = (limbs b).getD i 0 := by
                      have := congrArg (fun l => l.getD (i - (i2 + 1)) 0) h4
                      simpa [List.getD, List.getElem?_drop, show i2 + 1 + (i - (i2 + 1)) = i by omega] using this
                    omega
                  · subst h; exact h2
                  · exfalso
                    apply h3
                    have e1 : (limbs a).getD i2 0 = (limbs b).getD i2 0 := by
                      have := congrArg (fun l => l.getD (i2 - (i + 1)) 0) hd
                      simpa [List.getD, List.getElem?_drop, show i + 1 + (i2 - (i + 1)) = i2 by omega] using this
                    omega
                · exfalso
                  rw [h1] at hd2
                  exact hd2 rfl
              rw [this]
              rfl
            · have hd2 := of_decide_eq_false hd2
              have hd2 : (limbs a).getD i 0 = (limbs b).getD i 0 := by
                have : ¬ (((limbs a).getD i 0 : Nat) : Int) ≠ ((limbs b).getD i 0 : Nat) := hd2
                omega
              refine zs0 ?_
              rw [wrap_i64 (by omega) (by omega)]
              show ∃ m', _
              refine ⟨i, by omega, i, rfl, by omega, ?_, rfl⟩
              rw [drop_getD (l := limbs a) (i := i) (by omega), drop_getD (l := limbs b) (i := i) (by omega), hd, hd2]
          · have hge := of_decide_eq_false hge
            have : m = 0 := by omega
            subst this
            refine zs0 ?_
            simp only [List.drop_zero] at hd
            have : r = 0 := by
              rcases hr with ⟨i2, h1, h2, h3, h4⟩ | ⟨_, h⟩
              · exfalso; rw [hd] at h2; omega
              · exact h
            rw [this]
            rfl
    · rcases hr with ⟨i, h1, h2, h3, h4⟩ | ⟨h1, h2⟩
      · have oa := okL_limbs a
        have ob := okL_limbs b
        have va := lval_limbs a
        have vb := lval_limbs b
        unfold ln at h1 hl
        rw [lval_take_drop (limbs a) i (by omega), drop_getD (by omega), lval, h4] at va
        rw [lval_take_drop (limbs b) i (by omega), drop_getD (by omega), lval] at vb
        have b1 := lval_lt (okL_take oa i)
        have b2 := lval_lt (okL_take ob i)
        rw [List.length_take, Nat.min_eq_left (by omega)] at b1 b2
        generalize (limbs a).getD i 0 = x at *
        generalize (limbs b).getD i 0 = y at *
        generalize lval ((limbs b).drop (i + 1)) = z at *
        generalize lval ((limbs a).take i) = ta at *
        generalize lval ((limbs b).take i) = tb at *
        generalize 1000000000 ^ i = p at *
        have e1 : p * (x + 1000000000 * z) = p * x + p * (1000000000 * z) := Nat.mul_add ..
        have e2 : p * (y + 1000000000 * z) = p * y + p * (1000000000 * z) := Nat.mul_add ..
        rcases Nat.lt_trichotomy x y with h | h | h
        · have := Nat.mul_le_mul_left p (show x + 1 ≤ y by omega)
          rw [Nat.mul_add, Nat.mul_one] at this
          exact ⟨⟨fun _ => by omega, fun _ => by omega⟩, ⟨fun _ => by omega, fun _ => by omega⟩⟩
        · omega
        · have := Nat.mul_le_mul_left p (show y + 1 ≤ x by omega)
          rw [Nat.mul_add, Nat.mul_one] at this
          exact ⟨⟨fun _ => by omega, fun _ => by omega⟩, ⟨fun _ => by omega, fun _ => by omega⟩⟩
      · have : a = b := by rw [← lval_limbs a, h1, lval_limbs]
        subst this h2
        simp
  · refine ⟨(ln a : Int) - ln b, ?_, ?_, ?_⟩
    · refine enter rfl func209 rfl (by decide) (by kernel_rfl) rfl rfl ?_
      refine zs0 ?_
      refine W.cond rfl (fun hne => ?_) (fun hne => ?_)
      · refine zs0 ?_
        rw [row_len, row_len, wrap_i64 (by unfold ln at ha hb; omega) (by unfold ln at ha hb; omega)]
        rfl
      · have := of_decide_eq_false hne
        rw [row_len, row_len] at this
        unfold ln at hl
        omega
    · constructor
      · intro h; exact lt_of_ln_lt (by omega)
      · intro h
        have := ln_mono (Nat.le_of_lt h)
        omega
    · constructor
      · intro h; omega
      · intro h; subst h; omega
end Go.PE
namespace Go.PE
open Go.RowKit Go.Proofs.Tryz
set_option maxRecDepth 100000
variable {k : Nat}
theorem lval_set : ∀ (l : List Nat) (i x : Nat), i < l.length → lval (l.set i x) + 1000000000 ^ i * l.getD i 0 = lval l + 1000000000 ^ i * x
  | [], i, x, h => by simp at h
  | a :: l, 0, x, h => by simp [lval]; omega
  | a :: l, i + 1, x, h => by
    have := lval_set l i x (by simpa using h)
    rw [List.set_cons_succ, lval, lval, List.getD_cons_succ, Nat.pow_succ]
    rw [Nat.mul_comm (1000000000 ^ i) 1000000000, Nat.mul_assoc, Nat.mul_assoc]
    omega
theorem getD_set_ne {l : List Nat} {i j x : Nat} (h : i ≠ j) : (l.set i x).getD j 0 = l.getD j 0 := by
  simp only [List.getD, List.getElem?_set, if_neg h]
theorem getD_rep (n j : Nat) : (List.replicate n 0).getD j 0 = 0 := by
  simp only [List.getD, List.getElem?_replicate]
  split <;> rfl
theorem mul_T (a b : Nat) (ha : ln a < 274877906944) (hb : ln b < 274877906944) : T (k + 2) 206 [.imm 1 (row (limbs a)), .imm 1 (row (limbs b))] = some (.own (0, 0) 1 (row (limbs (a * b))), []) := by
  unfold ln at ha hb
  generalize hla : limbs a = la at ha
  generalize hlb : limbs b = lb at hb
  have oa : okL la = true := hla ▸ okL_limbs a
  have ob : okL lb = true := hlb ▸ okL_limbs b
  have va : lval la = a := hla ▸ lval_limbs a
  have vb : lval lb = b := hlb ▸ lval_limbs b
  refine enter rfl func206 rfl (by decide) (by kernel_rfl) rfl rfl ?_
  refine zs0 ?_
  rw [row_len, row_len, wrap_i64 (x := (la.length : Int) + lb.length) (by omega) (by omega), show (la.length : Int) + lb.length = ((la.length + lb.length : Nat) : Int) by omega]
  refine wS te rfl rfl (by refine ⟨by omega, by omega, by omega, by omega⟩) ?_
  refine zs0 ?_
  rw [Int.toNat_natCast]
  refine W.loop (fun e m => ∃ (i : Nat) (out : List Nat), e = [(0, .imm 1 (row la)), (1, .imm 1 (row lb)), (5, .own (0, 0) 1 (row out)), (18, .imm 1 (row la)), (19, .int .i64 la.length), (20, .int .i64 i)] ∧
    i ≤ la.length ∧ out.length = la.length + lb.length ∧ okL out = true ∧ lval out = lval (la.take i) * lval lb ∧ (∀ j, i + lb.length ≤ j → out.getD j 0 = 0) ∧ m = la.length - i) la.length ?_ ?_ ?_
  · refine ⟨0, List.replicate (la.length + lb.length) 0, ?_, by omega, by simp, okL_rep _, by rw [lval_rep]; simp [lval], fun j _ => getD_rep _ _, by omega⟩
    rw [← row_len la, ← row_rep]
    rfl
  · show _ < 4611686018427387904; omega
  · rintro e m ⟨i, out, rfl, hi, hlen, ho, hv, hz, rfl⟩
    refine zs0 ?_
    refine W.cond rfl (fun hlt => ?_) (fun hlt => ?_)
    · have hlt := of_decide_eq_true hlt
      have hg := row_get (l := la) (i := i) (by omega)
      have gx := okL_getD oa i
      refine zs0 ?_
      refine wI te rfl rfl rfl rfl rfl rfl (by omega) (hg) ?_
      refine zs0 ?_
      generalize hx : la.getD i 0 = x at *
      rw [row_len]
      refine W.loop (fun e m => ∃ (t c : Nat) (o2 : List Nat), e = [(0, .imm 1 (row la)), (1, .imm 1 (row lb)), (5, .own (0, 0) 1 (row o2)), (6, .int .i64 i), (7, .int .u32 x), (8, .int .u64 c), (18, .imm 1 (row la)), (19, .int .i64 la.length), (20, .int .i64 i), (25, .imm 1 (row lb)), (26, .int .i64 lb.length), (27, .int .i64 t)] ∧
        t ≤ lb.length ∧ o2.length = la.length + lb.length ∧ okL o2 = true ∧ c < 1000000000 ∧ lval o2 + c * 1000000000 ^ (i + t) = lval (la.take i) * lval lb + 1000000000 ^ i * (x * lval (lb.take t)) ∧ (∀ j, i + lb.length ≤ j → o2.getD j 0 = 0) ∧ m = lb.length - t) lb.length ?_ ?_ ?_
      · exact ⟨0, 0, out, rfl, by omega, hlen, ho, by omega, by simp [lval, hv], hz, by omega⟩
      · show _ < 4611686018427387904; omega
      · rintro e m ⟨t, c, o2, rfl, ht, hlen2, ho2, hc, hv2, hz2, rfl⟩
        refine zs0 ?_
        refine W.cond rfl (fun hlt2 => ?_) (fun hlt2 => ?_)
        · have hlt2 := of_decide_eq_true hlt2
          have hg2 := row_get (l := lb) (i := t) (by omega)
          have gy := okL_getD ob t
          have gz := okL_getD ho2 (i + t)
          refine zs0 ?_
          refine wI te rfl rfl rfl rfl rfl rfl (by omega) (hg2) ?_
          refine zs0 ?_
          generalize hy : lb.getD t 0 = y at *
          have hidx : IntKind.i64.wrap ((i : Int) + t) = ((i + t : Nat) : Int) := by rw [wrap_i64 (by omega) (by omega)]; omega
          have hidx2 : 0 + ((i + t : Nat) : Int).toNat = i + t := by omega
          rw [hidx]
          refine wS te rfl rfl (by rw [row_len, hlen2]; omega) ?_
          rw [hidx2]
          have hg3 := row_get (l := o2) (i := i + t) (by omega)
          refine WX.ldElem tab_eq rfl rfl rfl (hg3) rfl rfl rfl rfl ?_
          refine zs0 ?_
          generalize hzz : o2.getD (i + t) 0 = z at *
          have hxy : x * y ≤ 999999999 * 999999999 := Nat.mul_le_mul (by omega) (by omega)
          rw [wrap_u64 (x := (z : Int)) (by omega) (by omega), wrap_u64 (x := (x : Int)) (by omega) (by omega), wrap_u64 (x := (y : Int)) (by omega) (by omega)]
          rw [show (x : Int) * (y : Int) = ((x * y : Nat) : Int) from (Int.natCast_mul x y).symm, wrap_u64 (x := ((x * y : Nat) : Int)) (by omega) (by omega)]
          rw [wrap_u64 (x := (z : Int) + ((x * y : Nat) : Int)) (by omega) (by omega), wrap_u64 (x := (z : Int) + ((x * y : Nat) : Int) + c) (by omega) (by omega), show (z : Int) + ((x * y : Nat) : Int) + c = ((z + x * y + c : Nat) : Int) by omega]
          rw [hidx, tmodB, tdivB, wrap_u32 (x := ((z + x * y + c) % 1000000000 : Nat)) (by omega) (by omega), wrap_u64 (x := ((z + x * y + c) / 1000000000 : Nat)) (by omega) (by omega)]
          refine wS te rfl rfl (by rw [row_len, hlen2]; omega) ?_
          rw [hidx2]
          refine WX.stElem tab_eq rfl rfl rfl (hg3) rfl rfl rfl ?_
          refine zs0 ?_
          rw [row_set]
          rw [wrap_i64 (x := (t : Int) + 1) (by omega) (by omega)]
          show ∃ m', _
          have hdm := Nat.mod_add_div (z + x * y + c) 1000000000
          refine ⟨lb.length - (t + 1), by omega, t + 1, (z + x * y + c) / 1000000000, o2.set (i + t) ((z + x * y + c) % 1000000000), rfl, by omega, by simp [hlen2], okL_set ho2 _ (by omega), by omega, ?_, ?_, rfl⟩
          · have hs := lval_set o2 (i + t) ((z + x * y + c) % 1000000000) (by omega)
            rw [hzz] at hs
            rw [lval_step, hy, show i + (t + 1) = i + t + 1 by omega, Nat.pow_succ]
            have e1 : 1000000000 ^ i * (x * (lval (lb.take t) + 1000000000 ^ t * y)) = 1000000000 ^ i * (x * lval (lb.take t)) + 1000000000 ^ (i + t) * (x * y) := by
              rw [Nat.pow_add, Nat.mul_add, Nat.mul_add]
              congr 1
              rw [Nat.mul_assoc, Nat.mul_left_comm x]
            rw [e1]
            generalize 1000000000 ^ (i + t) = p at *
            generalize (z + x * y + c) / 1000000000 = q at *
            generalize (z + x * y + c) % 1000000000 = r at *
            have e2 : q * (p * 1000000000) = p * (1000000000 * q) := by rw [Nat.mul_comm q, Nat.mul_assoc]
            rw [e2]
            have e3 : p * r + p * (1000000000 * q) = p * z + p * (x * y) + p * c := by
              rw [← Nat.mul_add, ← Nat.mul_add, ← Nat.mul_add, hdm]
            rw [Nat.mul_comm c p] at hv2
            omega
          · intro j hj
            rw [getD_set_ne (by omega)]
            exact hz2 j hj
        · have hlt2 := of_decide_eq_false hlt2
          have hte : t = lb.length := by omega
          subst hte
          refine zs0 ?_
          have hidx : IntKind.i64.wrap ((i : Int) + lb.length) = ((i + lb.length : Nat) : Int) := by rw [wrap_i64 (by omega) (by omega)]; omega
          have hidx2 : 0 + ((i + lb.length : Nat) : Int).toNat = i + lb.length := by omega
          rw [row_len, hidx, wrap_u32 (x := (c : Int)) (by omega) (by omega)]
          refine wS te rfl rfl (by rw [row_len, hlen2]; omega) ?_
          rw [hidx2]
          have hg3 := row_get (l := o2) (i := i + lb.length) (by omega)
          refine WX.stElem tab_eq rfl rfl rfl (hg3) rfl rfl rfl ?_
          refine zs0 ?_
          rw [row_set]
          rw [wrap_i64 (x := (i : Int) + 1) (by omega) (by omega)]
          show ∃ m', _
          refine ⟨la.length - (i + 1), by omega, i + 1, o2.set (i + lb.length) c, rfl, by omega, by simp [hlen2], okL_set ho2 _ hc, ?_, ?_, rfl⟩
          · have hs := lval_set o2 (i + lb.length) c (by omega)
            rw [hz2 _ (Nat.le_refl _), Nat.mul_zero, Nat.add_zero] at hs
            rw [hs, lval_step, hx, Nat.mul_comm _ c, hv2, lval_take_ge (Nat.le_refl _), Nat.add_mul, Nat.mul_assoc]
          · intro j hj
            rw [getD_set_ne (by omega)]
            exact hz2 j (by omega)
    · have hlt := of_decide_eq_false hlt
      have hie : i = la.length := by omega
      subst hie
      refine zs0 ?_
      refine WX.callP rfl rfl rfl rfl rfl rfl rfl (row_sc _) (by have := trimL_le (out) (out).length; rw [row_len]; omega) (viaA (trim_X (l := out) (by first | omega | (simp <;> omega))) (by simp only [List.drop_zero, List.take_length])) ?_
      refine zs0 ?_
      rw [Int.toNat_natCast, row_take, trim_limbs ho, hv, lval_take_ge (Nat.le_refl _), va, vb]
      rfl
end Go.PE
namespace Go.PE
open Go.RowKit Go.Proofs.Tryz
set_option maxRecDepth 100000
variable {k : Nat}
theorem drop_set_lt {l : List Nat} {i j x : Nat} (h : i < j) : (l.set i x).drop j = l.drop j := by
  rw [List.drop_set, if_pos h]
theorem getD_set_eq {l : List Nat} {i x : Nat} (h : i < l.length) : (l.set i x).getD i 0 = x := by
  simp [List.getD, List.getElem?_set, h]
theorem tdivN (a b : Nat) : ((a : Int)).tdiv (b : Int) = ((a / b : Nat) : Int) := rfl
theorem tmodN (a b : Nat) : ((a : Int)).tmod (b : Int) = ((a % b : Nat) : Int) := rfl
theorem quoLimb_T (a b : Nat) (ha : ln a < 274877906944) (hb0 : 0 < b) (hb : b < 1000000000) : T (k + 2) 224 [.imm 1 (row (limbs a)), .int .u32 b] = some (.tup [.imm 1 (row (limbs (a / b))), .imm 1 (row (limbs (a % b)))], []) := by
  unfold ln at ha
  generalize hla : limbs a = la at ha
  have oa : okL la = true := hla ▸ okL_limbs a
  have va : lval la = a := hla ▸ lval_limbs a
  refine enter rfl func224 rfl (by decide) (by kernel_rfl) rfl rfl ?_
  refine zs0 ?_
  rw [row_len]
  refine wS te rfl rfl (by refine ⟨by omega, by omega, by omega, by omega⟩) ?_
  refine zs0 ?_
  rw [row_len, Int.toNat_natCast, wrap_i64 (x := (la.length : Int) - 1) (by omega) (by omega)]
  refine W.loop (fun e m => ∃ (j c : Nat) (q : List Nat), e = [(0, .imm 1 (row la)), (1, .int .u32 b), (6, .own (0, 0) 1 (row q)), (7, .int .u64 c), (8, .int .i64 ((j : Int) - 1))] ∧
    j ≤ la.length ∧ q.length = la.length ∧ okL q = true ∧ c < b ∧ lval (la.drop j) = lval (q.drop j) * b + c ∧ m = j) la.length ?_ ?_ ?_
  · refine ⟨la.length, 0, List.replicate la.length 0, ?_, by omega, by simp, okL_rep _, hb0, ?_, rfl⟩
    · rw [← row_rep]; rfl
    · rw [List.drop_of_length_le (Nat.le_refl _), List.drop_of_length_le (by simp)]; simp [lval]
  · show _ < 4611686018427387904; omega
  · rintro e m ⟨j, c, q, rfl, hj, hlen, ho, hc, hv, rfl⟩
    refine zs0 ?_
    refine W.cond rfl (fun hge => ?_) (fun hge => ?_)
    · have hge := of_decide_eq_true hge
      obtain ⟨i, rfl⟩ : ∃ i, m = i + 1 := ⟨m - 1, by omega⟩
      rw [show ((i + 1 : Nat) : Int) - 1 = (i : Int) by omega]
      have g1 := row_get (l := la) (i := i) (by omega)
      have b1 := okL_getD oa i
      refine zs0 ?_
      refine wI te rfl rfl rfl rfl rfl rfl (by omega) (g1) ?_
      refine zs0 ?_
      generalize hx : la.getD i 0 = x at *
      have hcB : c * 1000000000 + x < b * 1000000000 := by
        have := Nat.mul_le_mul_right 1000000000 (show c + 1 ≤ b by omega)
        omega
      rw [show (c : Int) * 1000000000 = ((c * 1000000000 : Nat) : Int) by omega, wrap_u64 (x := ((c * 1000000000 : Nat) : Int)) (by omega) (by omega), wrap_u64 (x := (x : Int)) (by omega) (by omega),
        wrap_u64 (x := ((c * 1000000000 : Nat) : Int) + x) (by omega) (by omega), show ((c * 1000000000 : Nat) : Int) + x = ((c * 1000000000 + x : Nat) : Int) by omega]
      have hq : (c * 1000000000 + x) / b < 1000000000 := by rw [Nat.div_lt_iff_lt_mul hb0]; omega
      have hr : (c * 1000000000 + x) % b < b := Nat.mod_lt _ hb0
      have hdm := Nat.div_add_mod (c * 1000000000 + x) b
      refine zd0 ?_
      rw [wrap_u64 (x := (b : Int)) (by omega) (by omega)]
      refine wD te rfl rfl (by omega) ?_
      rw [tdivN]
      generalize (c * 1000000000 + x) / b = dd at *
      rw [wrap_u64 (x := (dd : Int)) (by omega) (by omega)]
      refine zd0 ?_
      rw [wrap_u64 (x := (b : Int)) (by omega) (by omega), wrap_u32 (x := (dd : Int)) (by omega) (by omega)]
      refine wD te rfl rfl (by omega) ?_
      rw [tmodN]
      generalize (c * 1000000000 + x) % b = rr at *
      refine wD te rfl rfl (by rw [row_len]; omega) ?_
      have g2 := row_get (l := q) (i := 0 + (i : Int).toNat) (by omega)
      refine WX.stElemD tab_eq rfl rfl rfl (g2) rfl rfl rfl ?_
      refine zd7 ?_
      rw [wrap_i64 (x := (i : Int) - 1) (by omega) (by omega), row_set, show 0 + (i : Int).toNat = i by omega]
      show ∃ m', _
      refine ⟨i, by omega, i, rr, q.set i dd, rfl, by omega, by simp [hlen], okL_set ho _ hq, hr, ?_, rfl⟩
      rw [drop_getD (l := la) (i := i) (by omega), drop_getD (l := q.set i dd) (i := i) (by simp; omega), drop_set_lt (by omega), getD_set_eq (by omega), hx, lval, lval, hv]
      have e1 : (dd + 1000000000 * lval (q.drop (i + 1))) * b = b * dd + 1000000000 * (lval (q.drop (i + 1)) * b) := by rw [Nat.add_mul, Nat.mul_comm dd, Nat.mul_assoc]
      rw [e1]
      omega
    · have hge := of_decide_eq_false hge
      have : m = 0 := by omega
      subst this
      simp only [List.drop_zero] at hv
      rw [va] at hv
      have h1 : a / b = lval q := by
        rw [hv, Nat.mul_comm, Nat.mul_add_div hb0, Nat.div_eq_of_lt hc]; rfl
      have h2 : a % b = c := by
        rw [hv, Nat.mul_comm, Nat.mul_add_mod, Nat.mod_eq_of_lt hc]
      refine zs0 ?_
      refine WX.callP rfl rfl rfl rfl rfl rfl rfl (row_sc _) (by have := trimL_le (q) (q).length; rw [row_len]; omega) (viaA (trim_X (l := q) (by first | omega | (simp <;> omega))) (by simp only [List.drop_zero, List.take_length])) ?_
      refine zs0 ?_
      rw [wrap_u32 (x := (c : Int)) (by omega) (by omega)]
      rw [show [[PV.int .u32 (c : Int)]] = row [c] from rfl]
      refine WX.callO rfl rfl rfl rfl rfl (row_sc _) (by have := trimL_le ([c]) ([c]).length; rw [row_len]; omega) (trim_X (l := [c]) (by first | omega | (simp <;> omega))) ?_
      refine zs0 ?_
      rw [Int.toNat_natCast, Int.toNat_natCast, row_take, row_take, trim_limbs ho, trim_limbs (l := [c]) (okL_cons.2 ⟨by omega, rfl⟩), h1, h2]
      rfl
end Go.PE
namespace Go.PE
open Go.RowKit Go.Proofs.Tryz
set_option maxRecDepth 100000
variable {k : Nat}
theorem bytes_get {s : Bs} {i : Nat} (h : i < s.length) : (bytesPV s)[i]? = some [.int .u8 ((s.getD i 0).toNat : Nat)] := by
  unfold bytesPV
  rw [List.getElem?_map, List.getElem?_eq_getElem h]
  simp [List.getD, List.getElem?_eq_getElem h]
theorem bytes_len (s : Bs) : (bytesPV s).length = s.length := by simp [bytesPV]
theorem val_take_succ {s : Bs} {i : Nat} (h : i < s.length) : val (s.take (i + 1)) = val (s.take i) * 10 + dv (s.getD i 0) := by
  rw [List.take_succ_eq_append_getElem h, val_snoc]
  simp [List.getD, List.getElem?_eq_getElem h]
theorem all_getD {s : Bs} (h : s.all isDg = true) {i : Nat} (hi : i < s.length) : isDg (s.getD i 0) = true := by
  rw [List.all_eq_true] at h
  simp only [List.getD, List.getElem?_eq_getElem hi]
  exact h _ (List.getElem_mem hi)
theorem all_take {s : Bs} (h : s.all isDg = true) (n : Nat) : (s.take n).all isDg = true := by
  rw [List.all_eq_true] at h ⊢; exact fun a ha => h a (List.mem_of_mem_take ha)
theorem all_drop {s : Bs} (h : s.all isDg = true) (n : Nat) : (s.drop n).all isDg = true := by
  rw [List.all_eq_true] at h ⊢; exact fun a ha => h a (List.mem_of_mem_drop ha)
theorem isDg_nat {c : UInt8} (h : isDg c = true) : 48 ≤ c.toNat ∧ c.toNat ≤ 57 := by
  unfold isDg at h
  rwa [Bool.and_eq_true, decide_eq_true_eq, decide_eq_true_eq] at h
theorem nat_chunk {s : Bs} {n : Nat} (hn : n ≤ s.length) : val (s.take n) = 1000000000 * val (s.take (n - 9)) + val ((s.drop (n - 9)).take (n - (n - 9))) := by
  rcases Nat.lt_or_ge n 9 with h | h
  · have : n - 9 = 0 := by omega
    rw [this]
    simp [val_nil]
  · obtain ⟨m, rfl⟩ : ∃ m, n = m + 9 := ⟨n - 9, by omega⟩
    have e1 : m + 9 - 9 = m := by omega
    have e2 : m + 9 - m = 9 := by omega
    rw [e1, e2, List.take_add, val_append]
    have hl : ((s.drop m).take 9).length = 9 := by simp; omega
    rw [hl, Nat.mul_comm]
theorem natOf_arith (a p x v : Nat) : a + p * v + p * 1000000000 * x = a + p * (1000000000 * x + v) := by
  rw [Nat.mul_add, Nat.mul_assoc]; omega
theorem natOf_T (s : Bs) (hs : s.all isDg = true) (hl : s.length < 274877906944) : T (k + 2) 167 [.str s] = some (.own (0, 0) 1 (row (limbs (val s))), []) := by
  refine enter rfl func167 rfl (by decide) (by kernel_rfl) rfl rfl ?_
  refine zs0 ?_
  refine W.loop (fun e m => ∃ (j : Int) (out : List Nat), e = [(0, .str s), (3, .own (0, 0) 1 (row out)), (4, .int .i64 j)] ∧ -9 < j ∧ j ≤ s.length ∧ okL out = true ∧ (out.length : Int) * 9 + j ≤ s.length + 9 ∧
    lval out + 1000000000 ^ out.length * val (s.take j.toNat) = val s ∧ m = (j + 9).toNat) (s.length + 9) ?_ ?_ ?_
  · exact ⟨s.length, [], rfl, by omega, by omega, rfl, (by simp; omega), by simp [lval], by omega⟩
  · show _ < 4611686018427387904; omega
  · rintro e m ⟨j, out, rfl, hj0, hj, ho, hlen, hv, rfl⟩
    refine zs0 ?_
    refine W.cond rfl (fun hpos => ?_) (fun hpos => ?_)
    · have hpos := of_decide_eq_true hpos
      obtain ⟨n, rfl⟩ : ∃ n : Nat, j = n := ⟨j.toNat, by omega⟩
      rw [Int.toNat_natCast] at hv
      refine zs0 ?_
      have hw : IntKind.i64.wrap ((n : Int) - 9) = (n : Int) - 9 := wrap_i64 (by omega) (by omega)
      rw [hw, show max ((n : Int) - 9) 0 = ((n - 9 : Nat) : Int) by omega]
      refine wS te rfl rfl (by omega) ?_
      rw [show (((n - 9 : Nat) : Int)).toNat = n - 9 by omega, show ((n : Int)).toNat = n by omega]
      obtain ⟨ch, hch⟩ : ∃ ch, (s.drop (n - 9)).take (n - (n - 9)) = ch := ⟨_, rfl⟩
      rw [hch]
      have hcl : ch.length = n - (n - 9) := by rw [← hch]; simp; omega
      have hcd : ch.all isDg = true := hch ▸ all_take (all_drop hs _) _
      refine wS te rfl rfl (by omega) ?_
      refine zs0 ?_
      rw [bytes_len]
      refine W.loop (fun e m => ∃ (i v : Nat), e = [(0, .str s), (3, .own (0, 0) 1 (row out)), (4, .int .i64 n), (5, .int .u32 v), (20, .imm 1 (bytesPV ch)), (21, .int .i64 ch.length), (22, .int .i64 i)] ∧
        i ≤ ch.length ∧ v = val (ch.take i) ∧ m = ch.length - i) ch.length ?_ ?_ ?_
      · exact ⟨0, 0, rfl, by omega, rfl, by omega⟩
      · show _ < 4611686018427387904; omega
      · rintro e m ⟨i, v, rfl, hi, hvv, rfl⟩
        have hvl : v < 10 ^ i := by
          have := val_lt (all_take hcd i)
          rw [List.length_take, Nat.min_eq_left hi] at this
          rw [hvv]; exact this
        refine zs0 ?_
        refine W.cond rfl (fun hlt => ?_) (fun hlt => ?_)
        · have hlt := of_decide_eq_true hlt
          have hg := bytes_get (s := ch) (i := i) (by omega)
          have hd := isDg_nat (all_getD hcd (i := i) (by omega))
          have hvl2 : v < 100000000 := Nat.lt_of_lt_of_le hvl (Nat.pow_le_pow_right (n := 10) (by omega) (show i ≤ 8 by omega))
          refine zs0 ?_
          refine wI te rfl rfl rfl rfl rfl rfl (by omega) (hg) ?_
          refine zs0 ?_
          have hdv : dv (ch.getD i 0) = (ch.getD i 0).toNat - 48 := rfl
          have hts := val_take_succ (s := ch) (i := i) (by omega)
          generalize (ch.getD i 0).toNat = c at *
          rw [wrap_u32 (x := (v : Int) * 10) (by omega) (by omega), wrap_u8 (x := (c : Int) - 48) (by omega) (by omega), wrap_u32 (x := (c : Int) - 48) (by omega) (by omega), wrap_u32 (x := (v : Int) * 10 + (c - 48)) (by omega) (by omega),
            wrap_i64 (x := (i : Int) + 1) (by omega) (by omega), show (v : Int) * 10 + (c - 48) = ((v * 10 + (c - 48) : Nat) : Int) by omega]
          show ∃ m', _
          refine ⟨ch.length - (i + 1), by omega, i + 1, v * 10 + (c - 48), rfl, by omega, ?_, rfl⟩
          rw [hts, ← hvv, hdv]
        · have hlt := of_decide_eq_false hlt
          have hie : i = ch.length := by omega
          subst hie
          rw [List.take_length] at hvv
          have hvb : v < 1000000000 := Nat.lt_of_lt_of_le hvl (Nat.pow_le_pow_right (n := 10) (by omega) (show ch.length ≤ 9 by omega))
          refine zs0 ?_
          refine wS te rfl rfl (by simp only [List.length_take, row_len, List.length_cons, List.length_nil]; omega) ?_
          rw [List.take_length, row_snoc]
          refine zs0 ?_
          rw [hw]
          show ∃ m', _
          refine ⟨((n : Int) - 9 + 9).toNat, by omega, (n : Int) - 9, out ++ [v], rfl, by omega, by omega, okL_append.2 ⟨ho, okL_cons.2 ⟨hvb, rfl⟩⟩, by simp; omega, ?_, rfl⟩
          have hnc := nat_chunk (s := s) (n := n) (by omega)
          rw [hch, ← hvv] at hnc
          rw [lval_append, List.length_append, List.length_singleton, Nat.pow_succ, ← hv, hnc, show ((n : Int) - 9).toNat = n - 9 by omega]
          simp only [lval, Nat.mul_zero, Nat.add_zero]
          exact natOf_arith _ _ _ _
    · have hpos := of_decide_eq_false hpos
      have : j.toNat = 0 := by omega
      rw [this] at hv
      simp only [List.take_zero, val_nil, Nat.mul_zero, Nat.add_zero] at hv
      refine zs0 ?_
      refine WX.callP rfl rfl rfl rfl rfl rfl rfl (row_sc _) (by have := trimL_le (out) (out).length; rw [row_len]; omega) (viaA (trim_X (l := out) (by first | omega | (simp <;> omega))) (by simp only [List.drop_zero, List.take_length])) ?_
      refine zs0 ?_
      rw [Int.toNat_natCast, row_take, trim_limbs ho, hv]
      rfl
end Go.PE
