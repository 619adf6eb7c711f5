/-
  A part of the proof that the law's function returns true and leaves its arguments as they were, for every input (no condition): own lemmas of the proof, in the order of their use.
-/
import Derived.Test.YtggpmnlmbfogeaaGreatDoorX30
import Derived.Test.YtggpmnlmbfogeaaGreatDoorX21
set_option linter.all false
namespace Go.PE
open Go.RowKit Go.Proofs.Tryz
set_option maxRecDepth 100000
variable {k : Nat}
theorem addE_T {kd : Int} {us vs : List QT} {c d : Rat} (hk : kd = 2 ∨ kd = 3) (hu : okU us) (hv : okU vs) {L : Nat} (hs : ∀ u ∈ us, szQ u.2 L) (ht : ∀ u ∈ vs, szQ u.2 L) (hc : szQ c L) (hd : szQ d L) (hL : L ≤ 400000) (hn : us.length < 268435456) (hm : vs.length < 268435456) :
  T (k + 11) 36 [linP kd us c, linP kd vs d] = some (.tup [linP kd (addU us vs) (c + d), .int .i64 0], []) := by
 have h1 := linV_T (k := k + 3) hk hu hs hc hL (by omega)
 have h2 := linV_T (k := k + 3) hk hv ht hd hL (by omega)
 have h3 := addC_T (k := k + 9) 109 53 (.inl ⟨rfl, rfl⟩) kd kd us vs c d (add_Q (k := k) c d hc hd (by omega)) (fun u hu v hv => add_Q (k := k) u.2 v.2 (hs u hu) (ht v hv) (by omega)) hn hm
 refine enter rfl func36 rfl (by decide) (by kernel_rfl) rfl rfl ?_
 refine zs1 h1 ?_
 refine zs2 h2 ?_
 refine W.cond rfl (fun c1 => ?_) (fun c1 => ?_)
 ·exact absurd rfl (of_decide_eq_true c1)
 ·refine zs1 h3 ?_
  rfl
theorem linG_ex (c : Ch) : ∃ (us : List QT) (q : Rat), ((linG c).1 = rs q ∧ (linG c).2.2 = tx us) ∧ okU us ∧ us.length ≤ 4 ∧ (∀ u ∈ us, szQ u.2 100) ∧ szQ q 100 := by
 obtain ⟨us, q, h1, h2, _, hu⟩ := linB_ex (linG_lin 2 (.inl rfl) c)
 have l4 := linG_len c
 have l5 := linG_c c
 have l6 := (linG_ok2 c).2
 rw [h1] at l4 l6
 rw [h2] at l5
 rw [tx_len] at l4
 exact ⟨us, q, ⟨h2, h1⟩, hu, l4, fun u h => sz_of_len (by omega) (l6 (u.1, rs u.2) (List.mem_map.2 ⟨u, h, rfl⟩)).2, sz_of_len (by omega) l5⟩
theorem rs_m1 : rs (-1) = [45, 49] := by
 rw [show (-1 : Rat) = ((-1 : Int) : Rat) from rfl, rs_int]
 show qt true 1 1 = _
 unfold qt
 rw [decOne]
 rfl
theorem m1_sz : szQ (-1) 100 := ⟨by show (dec 1).length ≤ _; rw [dec1_len]; omega, by show (dec 1).length ≤ _; rw [dec1_len]; omega⟩
def LinIs (l : List Int) (kd : Int) (us : List QT) (q : Rat) (C : Ch) : Prop := ∀ k : Nat, T (k + 10) 21 [.box (0, 0) (chC (l.take 400, 0)), .int .i64 kd] = some (linP kd us q, [chC C])
theorem numQ_sz (c : Ch) : szQ (numQ c) 100 := sz_of_len (by omega) (numQ_len c)
end Go.PE
namespace Go.PE
open Go.RowKit Go.Proofs.Tryz
set_option maxRecDepth 100000
variable {k : Nat}
theorem linS_T (l : List Int) (kd : Int) : ∃ (ts : List Trm) (c : Bs) (C : Ch), smL ts c ∧ T 20 21 [.box (0, 0) (chC (l.take 400, 0)), .int .i64 kd] = some (linA kd (trow ts) c, [chC C]) := by
 have hc0 : okCh (l.take 400, 0) := ⟨by simp only [List.length_take]; omega, by simp only; omega⟩
 generalize (l.take 400, 0) = C0 at *
 have h := linear_T (k := 10) C0 hc0 kd
 have h1 := linG_len C0
 have h2 := (linG_ok2 C0).2
 have h3 := linG_c C0
 have hv : ∀ a ∈ vars, a.length ≤ 1000 := by decide
 exact ⟨(linG C0).2.2, (linG C0).1, (linG C0).2.1, ⟨by omega, fun t ht => ⟨hv _ (h2 t ht).1, by have := (h2 t ht).2; omega⟩, by omega⟩, h⟩
def five (n : Bs) : List Bs := [[117], [118], [120], [121], n]
theorem five_get (n : Bs) (hn : n.length ≤ 60) {x : Int} (h0 : 0 ≤ x) (h5 : x < 5) : ∃ (j : Nat) (v : Bs), x = (j : Int) ∧ j < 5 ∧ ((five n).map fun w => [PV.str w])[j]? = some [.str v] ∧ v.length ≤ 60 := by
 have : x = 0 ∨ x = 1 ∨ x = 2 ∨ x = 3 ∨ x = 4 := by omega
 rcases this with rfl | rfl | rfl | rfl | rfl
 ·exact ⟨0, [117], rfl, by omega, rfl, by simp⟩
 ·exact ⟨1, [118], rfl, by omega, rfl, by simp⟩
 ·exact ⟨2, [120], rfl, by omega, rfl, by simp⟩
 ·exact ⟨3, [121], rfl, by omega, rfl, by simp⟩
 ·exact ⟨4, n, rfl, by omega, rfl, hn⟩
set_option maxHeartbeats 3200000 in
theorem law7_T (l m : List Int) (kr : Int) (tr : List Trm) (cr s n : Bs) (y : Int) (hl : l.length ≤ 4611686018427387000) (hm : m.length ≤ 4611686018427387000) (aw : T 20 18 [] = some (.bool true, [])) :
  T 21 7 [.imm 1 (zrow l), .imm 1 (zrow m), .agg [.int .i64 kr, .imm 2 (trow tr), .str cr], .str s, .str n, .int .i64 y] = some (.bool true, []) := by
 have s1 := small_T (k := 19) kr tr cr
 have hB := @smB_spec tr cr
 have hB2 : smB tr cr = true → ∀ t ∈ tr, t.1.length ≤ 60 ∧ t.2.length ≤ 40 := by
  intro h
  unfold smB at h
  simp only [Bool.and_eq_true, decide_eq_true_eq, List.all_eq_true, List.mem_range] at h
  intro t ht
  obtain ⟨i, hi, rfl⟩ := List.mem_iff_getElem.1 ht
  have := h.2.2 i hi
  unfold smT at this
  simpa only [List.getD, List.getElem?_eq_getElem hi, Option.getD_some, Bool.and_eq_true, decide_eq_true_eq] using this
 generalize smB tr cr = B at *
 cases B
 ·refine enter rfl func7 rfl (by decide) (by kernel_rfl) rfl rfl ?_
  refine zs1 s1 ?_
  refine zs2 aw ?_
  rfl
 ·obtain ⟨e1, e2, e3⟩ := hB rfl
  have sr : smL tr cr := ⟨e1, fun t ht => ⟨by have := (hB2 rfl t ht).1; omega, by have := (hB2 rfl t ht).2; omega⟩, by omega⟩
  refine enter rfl func7 rfl (by decide) (by kernel_rfl) rfl rfl ?_
  refine zs1 s1 ?_
  refine WX.boolM rfl rfl (fun c1 => ?_) (fun c1 => ?_)
  ·refine zs1 aw ?_
   rfl
  ·have c1 := of_decide_eq_false c1
   refine zs0 ?_
   refine W.cond rfl (fun c2 => ?_) (fun c2 => ?_)
   ·refine zs1 aw ?_
    rfl
   ·have c2 := of_decide_eq_false c2
    have hs : s.length ≤ 40 := by omega
    have hn : n.length ≤ 60 := by omega
    have b1 := modV_lt y 2 (by omega) (by omega)
    have b2 := modV_lt (IntKind.i64.wrap (y.tdiv 2)) 2 (by omega) (by omega)
    have b3 := modV_lt y 5 (by omega) (by omega)
    have m1 := mod_T (k := 19) y 2 (by omega) (by omega)
    have m2 := mod_T (k := 19) (IntKind.i64.wrap (y.tdiv 2)) 2 (by omega) (by omega)
    have m3 := mod_T (k := 19) y 5 (by omega) (by omega)
    obtain ⟨j, v, ej, hj5, hg, hv⟩ := five_get n hn b3.1 b3.2
    rw [ej] at m3
    generalize modV y 2 = x1 at *
    generalize modV (IntKind.i64.wrap (y.tdiv 2)) 2 = x2 at *
    have g1 := new_T (k := 19) l (by omega)
    have g2 := new_T (k := 19) m (by omega)
    obtain ⟨ta, ca, Ca, sa, la⟩ := linS_T l (2 + x1)
    obtain ⟨tb, cb, Cb, sb, lb⟩ := linS_T m (2 + x2)
    obtain ⟨r1, w1, q1, f1, h1, p1, p1'⟩ := both_add (k := 9) (2 + x1) (2 + x2) ta tb ca cb sa sb
    obtain ⟨r2, w2, q2, f2, h2, p2, p2'⟩ := both_add (k := 9) kr (2 + x1) tr ta cr ca sr sa
    obtain ⟨r3, w3, q3, f3, h3, p3, p3'⟩ := both_scale (k := 9) (2 + x1) ta ca s sa (by omega)
    obtain ⟨r4, w4, q4, f4, h4, p4, p4'⟩ := both_repl (k := 9) (2 + x1) (2 + x2) ta tb ca cb v sa sb (by omega)
    have i1 := same_T (k := 19) r1 w1 q1 (by omega)
    have i2 := same_T (k := 19) r2 w2 q2 (by omega)
    have i3 := same_T (k := 19) r3 w3 q3 (by omega)
    have i4 := same_T (k := 19) r4 w4 q4 (by omega)
    unfold linA at *
    refine zs1 g1 ?_
    refine zs2 m1 ?_
    rw [wrap_i64 (x := 2 + x1) (by omega) (by omega)]
    refine zs2 la ?_
    refine zs2 g2 ?_
    refine zs2 m2 ?_
    rw [wrap_i64 (x := 2 + x2) (by omega) (by omega)]
    refine zs2 lb ?_
    refine zs2 m3 ?_
    refine WX.step tab_eq rfl rfl (by simp only [List.length_cons, List.length_nil]; omega) ?_
    refine WX.ldElem tab_eq rfl rfl rfl (by rw [Int.toNat_natCast, Nat.zero_add]; exact hg) rfl rfl rfl rfl ?_
    refine zs1 p1 ?_
    refine zs2 (p1') ?_
    refine zs2 p2 ?_
    refine zs2 (p2') ?_
    refine zs2 p3 ?_
    refine zs2 (p3') ?_
    refine zs2 p4 ?_
    refine zs2 (p4') ?_
    refine WX.boolM rfl rfl (fun d1 => ?_) (fun d1 => ?_)
    ·refine zs1 i1 ?_
     refine WX.boolM rfl rfl (fun d2 => ?_) (fun d2 => ?_)
     ·refine zs1 i2 ?_
      refine WX.boolM rfl rfl (fun d3 => ?_) (fun d3 => ?_)
      ·refine zs1 i3 ?_
       refine WX.boolM rfl rfl (fun d4 => ?_) (fun d4 => ?_)
       ·refine zs1 i4 ?_
        refine zs2 aw ?_
        rfl
       ·exact absurd rfl (of_decide_eq_false d4)
      ·exact absurd rfl (of_decide_eq_false d3)
     ·exact absurd rfl (of_decide_eq_false d2)
    ·exact absurd rfl (of_decide_eq_false d1)
end Go.PE
namespace Go.PE
open Go.RowKit Go.Proofs Go.Proofs.Tryz Go.ChangeShapes Go.WideShapes Go.ChangeAt
set_option maxRecDepth 100000
theorem imm_len {w : World} {Fz : Nat → Prop} {A : Option Addr} {n c sz : Nat} {xs : List (List PV)} (h : Rep w Fz (.slice A n c) (.imm sz xs) []) : xs.length = n := by
 cases h with
 | plain h => cases h with
  | imm _ _ _ _ _ _ hn => exact hn
theorem slice_wt {H : Type} {enc : TypeId × Value → H} {P : Program} {w : World} {base : Nat} {spare : Nat → Bool} {held : Bool} {t e : TypeId} {A : Option Addr} {n c : Nat} {d : DataW H} {ps : List MemPlace} (ht : P.underlying t = some (.slice e))
  (hd : DataW.Trod enc P w base spare held t (.slice A n c) d ps) (hwt : (d.weights P t).all (· ≤ reachBytes) = true) : n * P.bytesOf e ≤ reachBytes := by
 obtain ⟨fuel, hd⟩ := hd
 rcases DataW.trod_slice ht hd with ⟨h1, h2⟩ | ⟨a, n', c', elems, rest, m, rfl, h1, h2, _, _, _, hlen, _⟩
 ·have e1 : [Value.slice A n c] = [.slice none 0 0] := h1
  simp only [List.cons.injEq, Value.slice.injEq, and_true] at e1
  rw [e1.2.1, Nat.zero_mul]
  exact Nat.zero_le _
 ·have e1 : [Value.slice A n c] = [.slice (some a) n' c'] := h1
  simp only [List.cons.injEq, Value.slice.injEq, and_true] at e1
  have e2 : d = .slice (elems.map (·.1)) (rest.map (·.1)) := congrArg Prod.fst h2
  subst e2
  simp only [DataW.weights, ht, List.all_cons, Bool.and_eq_true, decide_eq_true_eq, List.length_map] at hwt
  have := Nat.mul_le_mul_right (P.bytesOf e) (show n ≤ elems.length + rest.length by omega)
  omega
theorem bytes3 : prog.bytesOf 3 = 8 := by kernel_rfl
end Go.PE
