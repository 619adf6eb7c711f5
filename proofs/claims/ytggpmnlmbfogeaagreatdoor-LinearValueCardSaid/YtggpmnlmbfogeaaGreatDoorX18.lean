/-
  A part of the proof that the law's function returns true and leaves its arguments as they were, for every input (no condition): own lemmas of the proof, in the order of their use.
-/
import Derived.Test.YtggpmnlmbfogeaaGreatDoorX17
import Derived.Test.YtggpmnlmbfogeaaGreatDoorX15
import Derived.Shelf.Strconv.Itoa3
import Derived.Lib.AppendIntMem
import Derived.Lib.Walk
import Derived.Lib.ItoaMem
import Derived.WalkKit
import Derived.BigCall
import Derived.BigGuard
import Derived.Test.YtggpmnlmbfogeaaGreatDoorX13
import Derived.Shelf.Strings.BuilderK
import Derived.RangeFuncBox
import Derived.RangeFuncFrom
import Derived.RangeFuncLeaves
import Derived.RangeFuncCalls
import Derived.Shelf.Abstract
import Derived.OwnWalkIn
import Derived.TacticsInMore
import Derived.LoopNIn
import Derived.LoopIn
import Derived.BigFrameIn
import Derived.CallsIn
import Derived.Lib.ItoaLen
import Derived.ControlIn
set_option linter.all false
namespace Go.PE
open Go.RowKit Go.Proofs.Tryz
set_option maxRecDepth 100000
variable {pre post : List (List PV)} {u v : List Nat} {m u1 u2 u3 v1 v2 : Nat}
theorem reduce_meets : Meets prog 279 reduceF := by
 refine meetsW_of tab_eq mixed_ok X1_meets func279 rfl (by decide) [4] lvR NN rfl rfl (by kernel_rfl) ?_
 intro sz xs off len avs r new hF hfit hpos hmx hfl
 unfold reduceF at hF
 split at hF
 ·rename_i xs0 ys heq
  split at hF
  ·rename_i u v hu hv
   split at hF
   ·rename_i hc
    obtain ⟨ou, ov, luv, lv2, lvm, hnorm, hUV⟩ := hc
    cases hF
    simp only [List.cons.injEq, PV.own.injEq, true_and] at heq
    obtain ⟨⟨rfl, hwin⟩, rfl⟩ := heq
    obtain rfl := row_unrow hv
    have hxs := row_unrow hu
    rw [← hwin] at hxs
    obtain ⟨pre, post, rfl, rfl, rfl, hnew⟩ := parts hxs hfit
    rw [hnew]
    clear hnew hxs hu hv hwin hfit
    obtain ⟨m, hm⟩ : ∃ m, v.length = m + 2 := ⟨v.length - 2, by omega⟩
    have lu : u.length = m + 3 := by omega
    obtain ⟨hV, hV'⟩ := split2 ov hm
    obtain ⟨hU, hU'⟩ := split3 ou lu
    have htop := top_le ou ov lu hm hUV
    rw [hm, show m + 2 - 1 = m + 1 by omega] at hnorm
    have g1 := mid_get (pre := pre) (post := post) (x := u) (i := m + 2) (by omega)
    have g2 := mid_get (pre := pre) (post := post) (x := u) (i := m + 1) (by omega)
    have g3 := mid_get (pre := pre) (post := post) (x := u) (i := m) (by omega)
    have g4 := row_get (l := v) (i := m + 1) (by omega)
    have g5 := row_get (l := v) (i := m) (by omega)
    have b1 := okL_getD ou (m + 2)
    have b2 := okL_getD ou (m + 1)
    have b3 := okL_getD ou m
    have b4 := okL_getD ov (m + 1)
    have b5 := okL_getD ov m
    have hgt := fun g => @guess_gt g _ _ _ _ _ _ _ _ hV hU hU'
    have hle := fun g => @guess_le g _ _ _ _ _ _ _ _ hV hU hV'
    have hqB : lval u / lval v < 1000000000 := by
     apply Nat.div_lt_of_lt_mul
     rw [Nat.mul_comm]; exact hUV
    simp only [List.length_append, row_len] at hmx
    generalize u.getD (m + 2) 0 = u3 at *
    generalize u.getD (m + 1) 0 = u2 at *
    generalize u.getD m 0 = u1 at *
    generalize v.getD (m + 1) 0 = v1 at *
    generalize v.getD m 0 = v2 at *
    clear hV hU hU' hV'
    have hVp : 0 < lval v := by
     rcases Nat.eq_zero_or_pos (lval v) with h | h
     ·rw [h] at hUV; omega
     ·exact h
    refine ⟨Nat.le_of_ble_eq_true rfl, rfl, ?_⟩
    show W _ _ _ _ _ _ _ (0, [(VS, _), (0, _), (1, _)]) _
    refine zs0 ?_
    rw [row_len, hm]
    refine zd0 ?_
    refine wD te rfl rfl (by omega) ?_
    refine WX.ldElemD tab_eq rfl rfl rfl (by rw [Int.toNat_natCast]; exact g1) rfl rfl rfl rfl ?_
    refine zd0 ?_
    have hidx : IntKind.i64.wrap (((m + 2 : Nat) : Int) - 1) = ((m + 1 : Nat) : Int) := by rw [wrap_i64 (by omega) (by omega)]; omega
    refine wD te rfl rfl (by rw [hidx]; omega) ?_
    refine WX.ldElemD tab_eq rfl rfl rfl (by rw [hidx, Int.toNat_natCast]; exact g2) rfl rfl rfl rfl ?_
    refine zd0 ?_
    refine WX.idxImmD tab_eq rfl rfl rfl rfl rfl rfl (by rw [hidx]; omega) (by rw [hidx]; exact g4) ?_
    refine zd0 ?_
    refine WX.nilD (by kernel_rfl) ?_
    rw [wrap_u64 (x := (u3 : Int)) (by omega) (by omega), wrap_u64 (x := (u3 : Int) * 1000000000) (by omega) (by omega), wrap_u64 (x := (u2 : Int)) (by omega) (by omega), wrap_u64 (x := (u3 : Int) * 1000000000 + u2) (by omega) (by omega), wrap_u64 (x := (v1 : Int)) (by omega) (by omega),
     show (u3 : Int) * 1000000000 + u2 = ((u3 * 1000000000 + u2 : Nat) : Int) by omega]
    have hv1 : ((v1 : Nat) : Int) ≠ 0 := by omega
    refine zd8 ?_
    refine wD te rfl rfl (by exact hv1) ?_
    refine zd0 ?_
    refine wD te rfl rfl (by exact hv1) ?_
    refine zd0 ?_
    refine WX.nilD (by kernel_rfl) ?_
    have hg0 := Nat.div_le_self (u3 * 1000000000 + u2) v1
    have hdm : (u3 * 1000000000 + u2) / v1 * v1 + (u3 * 1000000000 + u2) % v1 = u3 * 1000000000 + u2 := by rw [Nat.mul_comm]; exact Nat.div_add_mod _ _
    have hr0 := Nat.mod_lt (u3 * 1000000000 + u2) (show 0 < v1 by omega)
    have hq0 : lval u / lval v ≤ (u3 * 1000000000 + u2) / v1 := by
     have h1 : lval u / lval v * (v1 * 1000000000 + v2) ≤ (u3 * 1000000000 + u2) * 1000000000 + u1 := by
      rcases Nat.lt_or_ge ((u3 * 1000000000 + u2) * 1000000000 + u1) (lval u / lval v * (v1 * 1000000000 + v2)) with h | h
      ·exact absurd (hgt _ h) (Nat.lt_irrefl _)
      ·exact h
     exact (Nat.le_div_iff_mul_le (by omega)).2 (guess_init h1 b3)
    rw [show ((u3 * 1000000000 + u2 : Nat) : Int).tdiv (v1 : Int) = (((u3 * 1000000000 + u2) / v1 : Nat) : Int) from rfl, show ((u3 * 1000000000 + u2 : Nat) : Int).tmod (v1 : Int) = (((u3 * 1000000000 + u2) % v1 : Nat) : Int) from rfl]
    generalize (u3 * 1000000000 + u2) / v1 = g0 at *
    generalize (u3 * 1000000000 + u2) % v1 = r0 at *
    rw [wrap_u64 (x := (g0 : Int)) (by omega) (by omega)]
    refine zs0 ?_
    have H : RedH pre post u v m u1 u2 u3 v1 v2 := ⟨ou, ov, luv, lvm, hfl, hpos, hm, lu, hVp, hqB, g3, g5, b1, b2, b3, b4, b5, hnorm, htop, hgt, hle⟩
    refine W.loop (redI pre post u v m v1 u2 u3) g0 ?_ ?_ ?_
    ·exact ⟨r0, rfl, hdm, hq0, by omega⟩
    ·show _ < 4611686018427387904
     omega
    ·rintro e g ⟨r, rfl, htop2, hq, hr⟩
     by_cases hb : 1000000000 ≤ g
     ·exact redA H htop2 hq hr hb
     ·by_cases hgr : r * 1000000000 + u1 < g * v2
      ·exact redB H htop2 hq hr hb hgr
      ·exact redC H htop2 hq hr hb hgr
   ·cases hF
  ·cases hF
 ·cases hF
end Go.PE
namespace Go.PE
open Go.RowKit Go.Proofs.Tryz
set_option maxRecDepth 100000
theorem pow10_tab {w : World} {Fz : Nat → Prop} (hg : Glob w Fz) (hn : prog.globalNamed "internal/strconv.uint64pow10" = some 0) : Lib.TabIs prog w "internal/strconv.uint64pow10" .u64 Lib.pow10Tab := by
 obtain ⟨h1, _, cs, e, r, h2, h3⟩ := hg
 obtain ⟨ad, vs, hv, hl, hc, hL⟩ := (h1 0 rfl).ptr
 cases hv
 have hl : vs.length = 20 := by rw [hl]; rfl
 unfold Lib.TabIs World.var?
 rw [hn, Option.bind_some, h2]
 simp only [Option.some.injEq]
 apply Array.ext_getElem?
 intro j
 by_cases hj : j < 20
 ·have hu : vs[j]? = some vs[j] := List.getElem?_eq_getElem (by omega)
  have hcell := hc j _ hu
  rw [add_lit, Nat.zero_add] at hcell
  have hcs : cs[j]? = some vs[j] := by
   rw [← hcell]
   simp [World.cell?, h2]
  have hp : ((List.range 20).map fun k => PV.int .u64 (10 ^ k : Nat))[j]? = some (.int .u64 (10 ^ j : Nat)) := by
   simp [hj]
  have hi := hL.2 j _ _ hu hp
  rw [hcs]
  generalize vs[j] = u at hi ⊢
  cases hi
  simp [Lib.pow10Tab, hj]
 ·rw [Array.getElem?_eq_none (by omega), Array.getElem?_eq_none (by simp [Lib.pow10Tab]; omega)]
theorem grow_post {w : World} {Fz : Nat → Prop} {k : Nat} {os : Array Obj} {boxes : List Value} {u : Value} {s : ByteArray} (hu : u = .string s) (hb : boxes = []) {bs : List Nat} :
  Post w Fz bs boxes (.str s.data.toList) [] u (Sort.grow (w.drewN k) os) := by
 subst hu hb
 refine ⟨rfl, rfl, rfl, by simp [Sort.grow, World.drewN], fun b hb _ => ?_, rfl, Fz, [], [], fun _ h => h, fun _ h => .inl h, by simp, by simp, .plain (.str s), .nil⟩
 simp only [Sort.grow, World.drewN]
 rw [Array.getElem?_append_left hb]
theorem args2 {w : World} {Fz : Nat → Prop} {args : Array Value} {k1 k2 : IntKind} {n1 n2 : Int} {bs : List Nat} (h : Reps w Fz args.toList [.int k1 n1, .int k2 n2] bs) : args = #[.int k1 n1, .int k2 n2] := by
 obtain ⟨l, hl⟩ : ∃ l, args.toList = l := ⟨_, rfl⟩
 rw [hl] at h
 cases h with
 | cons h1 h2 =>
  cases h2 with
  | cons h3 h4 =>
   cases h4
   have i1 := h1.imm rfl
   have i3 := h3.imm rfl
   cases i1
   cases i3
   rw [← Array.toArray_toList (xs := args), hl]
def ren246 : Shelf.Ren := ⟨fun | 246 => 237 | 283 => 274 | 284 => 275 | 285 => 276 | 286 => 277 | 129 => 292 | 317 => 309 | 318 => 310 | 319 => 311 | 320 => 312 | 337 => 331 | 338 => 332 | n => n, fun | 2 => 2 | 3 => 3 | 9 => 9 | 4 => 4 | 171 => 270 | 0 => 0 | 53 => 233 | 37 => 108 | 5 => 5 | 173 => 273 | 212 => 301 | 51 => 229 | 20 => 20 | 213 => 302 | 46 => 109 | 232 => 326 | 233 => 327 | n => n, fun | 17 => 0 | 18 => 4 | 19 => 5 | n => n⟩
theorem lays246 : Proofs.LaysM.n246 prog ren246 where
 mixed := by kernel_rfl
 f129 := func292.trans (congrArg some (by kernel_rfl))
 f246 := func237.trans (congrArg some (by kernel_rfl))
 f283 := func274.trans (congrArg some (by kernel_rfl))
 f284 := func275.trans (congrArg some (by kernel_rfl))
 f285 := func276.trans (congrArg some (by kernel_rfl))
 f286 := func277.trans (congrArg some (by kernel_rfl))
 f317 := func309.trans (congrArg some (by kernel_rfl))
 f318 := func310.trans (congrArg some (by kernel_rfl))
 f319 := func311.trans (congrArg some (by kernel_rfl))
 f320 := func312.trans (congrArg some (by kernel_rfl))
 f337 := func331.trans (congrArg some (by kernel_rfl))
 f338 := func332.trans (congrArg some (by kernel_rfl))
 t0 := underlying0
 a0 := isAgg0
 z0 := sizeOf0
 v0 := zeroValue0
 t2 := underlying2
 a2 := isAgg2
 z2 := sizeOf2
 v2 := zeroValue2
 t3 := underlying3
 a3 := isAgg3
 z3 := sizeOf3
 v3 := zeroValue3
 t4 := underlying4
 a4 := isAgg4
 z4 := sizeOf4
 v4 := zeroValue4
 t5 := underlying5
 a5 := isAgg5
 z5 := sizeOf5
 v5 := zeroValue5
 t9 := underlying9
 a9 := isAgg9
 z9 := sizeOf9
 v9 := zeroValue9
 t20 := underlying20
 a20 := isAgg20
 z20 := sizeOf20
 v20 := zeroValue20
 t37 := underlying108
 a37 := isAgg108
 z37 := sizeOf108
 v37 := zeroValue108
 t46 := underlying109
 a46 := isAgg109
 z46 := sizeOf109
 v46 := zeroValue109
 t51 := underlying229
 a51 := isAgg229
 z51 := sizeOf229
 v51 := zeroValue229
 t53 := underlying233
 a53 := isAgg233
 z53 := sizeOf233
 v53 := zeroValue233
 t171 := underlying270
 a171 := isAgg270
 z171 := sizeOf270
 v171 := zeroValue270
 t173 := underlying273
 a173 := isAgg273
 z173 := sizeOf273
 v173 := zeroValue273
 t212 := underlying301
 a212 := isAgg301
 z212 := sizeOf301
 v212 := zeroValue301
 t213 := underlying302
 a213 := isAgg302
 z213 := sizeOf302
 t232 := underlying326
 a232 := isAgg326
 z232 := sizeOf326
 v232 := zeroValue326
 t233 := underlying327
 a233 := isAgg327
 z233 := sizeOf327
 v233 := zeroValue327
 g17 := by kernel_rfl
 g18 := by kernel_rfl
 g19 := by kernel_rfl
 i0 := by kernel_rfl
 i2 := by kernel_rfl
 i3 := by kernel_rfl
 i4 := by kernel_rfl
 i5 := by kernel_rfl
 i9 := by kernel_rfl
 i20 := by kernel_rfl
 i37 := by kernel_rfl
 i46 := by kernel_rfl
 i51 := by kernel_rfl
 i53 := by kernel_rfl
 i171 := by kernel_rfl
 i173 := by kernel_rfl
 i212 := by kernel_rfl
 i232 := by kernel_rfl
 i233 := by kernel_rfl
 m17 := by kernel_rfl
 m18 := by kernel_rfl
 m19 := by kernel_rfl
theorem fmtInt_meets0 {ρ : Shelf.Ren} (L : Proofs.LaysM.n246 prog ρ) (hρ : ρ.f 246 = 237) (hn : prog.globalNamed "internal/strconv.uint64pow10" = some 0) {fn : Func} (hf : prog.funcs[237]? = some fn) {c : Code} (hc : fn.body = some c) (hname : fn.name ≠ "runtime.NumGoroutine") : Meets prog 237 fmtIntF := by
 refine ⟨fun _ _ => ?_, fun h => (by cases h), fun _ h => (by cases h)⟩
 intro w Fz args avs bs r outs hgl hfz hnd hbs hreps hF o a next Q hnext
 unfold fmtIntF at hF
 split at hF
 ·rename_i n
  split at hF
  ·rename_i hr
   cases hF
   have ha := args2 hreps
   subst ha
   have henter : (callFunc 237 #[.int .i64 n, .int .i64 10]).run prog w = .ok (.enter 237 #[.int .i64 n, .int .i64 10]) w := by
    simp [callFunc, hf, hname, hc]
   rw [henter, Oper.upon_enter]
   have h := Proofs.Any.internal_strconv_FormatInt_10 L n hr.1 hr.2 w (pow10_tab hgl hn)
   rw [hρ] at h
   refine h.mono ?_
   rintro e w' ⟨rfl, k, os, rfl⟩
   refine hnext _ _ ?_
   have := grow_post (w := w) (Fz := Fz) (k := k) (os := os) (boxes := boxVals (#[.int .i64 n, .int .i64 10] : Array Value).toList [.int .i64 n, .int .i64 10]) (bs := bs) (u := .string ⟨(Lib.itoa n).toArray⟩) rfl rfl
   have e : (if n < 0 then 45 :: decN n.natAbs else decN n.toNat) = Lib.itoa n := by
    rw [decN_eq, decN_eq]; rfl
   rw [e]
   exact this
  ·cases hF
 ·cases hF
theorem fmtInt_meets : Meets prog 237 fmtIntF := fmtInt_meets0 lays246 rfl (by kernel_rfl) func237 rfl (by decide)
end Go.PE
namespace Go.PE
open Go.Shelf Go.RowKit Go.Sort Go.Lib Go.Proofs Go.Proofs.Tryz
set_option maxHeartbeats 6400000 in
set_option maxRecDepth 100000 in
theorem fmtUint_calls (u : Nat) (hu64 : u < 18446744073709551616) (w : World) (htab : Lib.TabIs prog w "internal/strconv.uint64pow10" .u64 Lib.pow10Tab) :
  Calls prog 281 #[.int .u64 u, .int .i64 10] w fun e w' => e = .returned (.string ⟨(Lib.decDigits u).toArray⟩) ∧ ∃ k os, w' = grow (w.drewN k) os := by
 have mixed := lays246.mixed
 have t2 := underlying2; have a2 := isAgg2; have z2 := sizeOf2; have v2 := zeroValue2
 have t3 := underlying3; have a3 := isAgg3; have z3 := sizeOf3; have v3 := zeroValue3
 have t9 := underlying9; have a9 := isAgg9; have z9 := sizeOf9; have v9 := zeroValue9
 have t4 := underlying4; have a4 := isAgg4; have z4 := sizeOf4; have v4 := zeroValue4
 have t270 := underlying270; have a270 := isAgg270; have z270 := sizeOf270; have v270 := zeroValue270
 have t0 := underlying0; have a0 := isAgg0; have z0 := sizeOf0; have v0 := zeroValue0
 have t233 := underlying233; have a233 := isAgg233; have z233 := sizeOf233; have v233 := zeroValue233
 have t108 := underlying108; have a108 := isAgg108; have z108 := sizeOf108; have v108 := zeroValue108
 have t5 := underlying5; have a5 := isAgg5; have z5 := sizeOf5; have v5 := zeroValue5
 have e283 : ∀ args w, (callFunc 274 args).run prog w = .ok (.enter 274 args) w := enters_of func274 (by kernel_rfl) rfl
 have e284 : ∀ args w, (callFunc 275 args).run prog w = .ok (.enter 275 args) w := enters_of func275 (by kernel_rfl) rfl
 have e285 : ∀ args w, (callFunc 276 args).run prog w = .ok (.enter 276 args) w := enters_of func276 (by kernel_rfl) rfl
 by_cases hs : u < 100
 ·go_enter func281, ntmps281
  go_wp2_with (go_at_fn 274; refine (Any.internal_strconv_small (ρ := ren246) { lays246 with } u hs _).mono ?_; rintro e w' ⟨rfl, rfl⟩)
  go_ret
  exact ⟨rfl, 0, #[], by simp [World.drewN_zero]⟩
 ·have hu1 : 1 ≤ u := by omega
  have hnd20 : Lib.nDigits u ≤ 20 := by have := Lib.numDigits_eq u hu1 hu64; split at this <;> omega
  have hb3 : Lib.nDigits u ≤ 23 := by omega
  have hal : prog.arrayLen 270 = 24 := by simp [Program.arrayLen, underlying270]
  have hsl1 : ∀ W, (Instr.sliceAt 270 (.pointer (some ⟨w.heap.size, 0, none⟩)) none (some (.int .i64 (Lib.nDigits u : Int))) none).run prog W = .ok (.slice (some ⟨w.heap.size, 0, none⟩) (Lib.nDigits u) 24) W := fun W => by
   rw [run_sliceAt_array_h W 270 ⟨w.heap.size, 0, none⟩ (by simp [Program.arrayLen, Program.elem, underlying270]) .i64 (Lib.nDigits u : Int) (by omega) (by rw [hal]; omega)]
   go_simp
  have hH0 := Lib.holds_zero0 w 270 (Lib.nDigits u) (by omega)
  have hfmt := Any.internal_strconv_formatBase10 (P := prog) (ρ := ren246) { lays246 with } w.heap.size 0 24 u (Array.replicate (Lib.nDigits u) 0) (w.alloc (.cells Lib.zeros24 270)) hH0 (by rw [Array.size_replicate]; exact Lib.lt_pow_nDigits u) hu64 (by rw [Array.size_replicate]; omega)
  rw [Array.size_replicate] at hfmt
  have HH0 := Lib.hid hH0
  clear hH0 hal
  go_enter func281, ntmps281
  go_wp2_with (first
   | (go_at_fn 275; refine (Any.internal_strconv_numDigits (ρ := ren246) { lays246 with } u hu1 hu64 _ (Lib.tabIs_alloc htab _)).mono ?_; rintro e w' ⟨rfl, rfl⟩))
  go_at_fn 276
  refine hfmt.mono ?_
  rintro e w' ⟨rfl, k, v', dk, rfl, hF⟩
  have hcv : (convert 108 9 (.slice (some ⟨w.heap.size, 0, none⟩) (Lib.nDigits u) 24)).run prog ((putRow (fun (b : UInt8) => Value.int .u8 (b.toNat : Int)) (w.alloc (.cells Lib.zeros24 270)) w.heap.size 0 dk).drewN k) = .ok (.string ⟨(Lib.decDigits u).toArray⟩) ((putRow (fun (b : UInt8) => Value.int .u8 (b.toNat : Int)) (w.alloc (.cells Lib.zeros24 270)) w.heap.size 0 dk).drewN k) := by
   have h := run_convert_bytes_back (P := prog) ((putRow (fun (b : UInt8) => Value.int .u8 (b.toNat : Int)) (w.alloc (.cells Lib.zeros24 270)) w.heap.size 0 dk).drewN k) 108 9 5 ⟨w.heap.size, 0, none⟩ 24 (Lib.decDigits u) underlying108 underlying5 underlying9 (fun j hj => by
    rw [Lib.row_is_numeral hF j hj, Lib.add_plain, World.cell?_drewN]
    exact cell?_putRow (fun (b : UInt8) => Value.int .u8 (b.toNat : Int)) _ w.heap.size 0 _ dk HH0.out (by rw [hF.size, Array.size_replicate]) j (by rw [hF.size]; rw [Lib.decDigits_length] at hj; exact hj))
   rw [Lib.decDigits_length] at h
   exact h
  go_wp2
  go_ret
  obtain ⟨os, eo⟩ := Lib.fin_at w (.cells Lib.zeros24 270) dk k 0
  exact ⟨rfl, k, os, eo⟩
end Go.PE
namespace Go.PE
open Go.Shelf Go.Proofs Go.Proofs.Tryz
set_option maxRecDepth 100000
def renB : Shelf.Ren := ⟨fun | 166 => 240 | 240 => 280 | 276 => 315 | 169 => 243 | n => n, fun | 70 => 235 | 72 => 237 | 37 => 108 | 3 => 3 | 4 => 4 | 9 => 9 | 5 => 5 | 0 => 0 | 20 => 20 | 75 => 225 | 164 => 305 | 127 => 278 | 80 => 48 | n => n, fun n => n⟩
theorem lays166 : Proofs.Lays.n166 prog renB where
 mixed := by kernel_rfl
 f166 := func240.trans (congrArg some (by kernel_rfl))
 f240 := func280.trans (congrArg some (by kernel_rfl))
 f276 := func315.trans (congrArg some (by kernel_rfl))
 t0 := underlying0
 a0 := isAgg0
 z0 := sizeOf0
 v0 := zeroValue0
 t3 := underlying3
 a3 := isAgg3
 z3 := sizeOf3
 v3 := zeroValue3
 t4 := underlying4
 a4 := isAgg4
 z4 := sizeOf4
 v4 := zeroValue4
 t9 := underlying9
 a9 := isAgg9
 z9 := sizeOf9
 v9 := zeroValue9
 t20 := underlying20
 a20 := isAgg20
 z20 := sizeOf20
 v20 := zeroValue20
 t37 := underlying108
 a37 := isAgg108
 z37 := sizeOf108
 v37 := zeroValue108
 t70 := underlying235
 a70 := isAgg235
 z70 := sizeOf235
 v70 := zeroValue235
 t72 := underlying237
 a72 := isAgg237
 z72 := sizeOf237
 v72 := zeroValue237
 t75 := underlying225
 a75 := isAgg225
 z75 := sizeOf225
 v75 := zeroValue225
 t164 := underlying305
 a164 := isAgg305
 z164 := sizeOf305
 v164 := zeroValue305
theorem lays169 : Proofs.Lays.n169 prog renB where
 mixed := by kernel_rfl
 f169 := func243.trans (congrArg some (by kernel_rfl))
 t0 := underlying0
 a0 := isAgg0
 z0 := sizeOf0
 v0 := zeroValue0
 t3 := underlying3
 a3 := isAgg3
 z3 := sizeOf3
 v3 := zeroValue3
 t9 := underlying9
 a9 := isAgg9
 z9 := sizeOf9
 v9 := zeroValue9
 t37 := underlying108
 a37 := isAgg108
 z37 := sizeOf108
 v37 := zeroValue108
 t70 := underlying235
 a70 := isAgg235
 z70 := sizeOf235
 v70 := zeroValue235
 t72 := underlying237
 a72 := isAgg237
 z72 := sizeOf237
 v72 := zeroValue237
 t127 := underlying278
 a127 := isAgg278
 z127 := sizeOf278
 v127 := zeroValue278
theorem extraB : Proofs.Builder.Extra prog renB where
 sizeBuilder := by kernel_rfl
 liesBuilder := by kernel_rfl
 t5 := underlying5
 a5 := isAgg5
 z5 := sizeOf5
 v5 := zeroValue5
 infoByte := by kernel_rfl
 cellsByte := by kernel_rfl
 sizeByte := by kernel_rfl
 neB5 := by decide
end Go.PE
namespace Go.PE
open Go.RowKit Go.Shelf Go.Proofs Go.Proofs.Tryz
def backL (xs : List Nat) (j : Nat) : List (Int × Nat) := ((List.range xs.length).drop j).reverse.map fun (i : Nat) => ((i : Int), xs[i]?.getD 0)
theorem backL_step (xs : List Nat) {j : Nat} (h : j < xs.length) : backL xs j = backL xs (j + 1) ++ [((j : Int), xs[j]?.getD 0)] := by
 unfold backL
 rw [List.drop_eq_getElem_cons (by simpa using h), List.reverse_cons, List.map_append]
 simp
theorem backL_len (xs : List Nat) (j : Nat) : (backL xs j).length = xs.length - j := by simp [backL]
theorem backL_top (xs : List Nat) : backL xs xs.length = [] := by simp [backL]
structure KB (bx B : Nat) (W W' : World) : Prop where
 size : W.heap.size ≤ W'.heap.size
 box : ∀ o, W.heap[bx]? = some o → W'.heap[bx]? = some o
 low : ∀ k, k < B → W'.heap[k]? = W.heap[k]?
theorem KB.refl (bx B : Nat) (W : World) : KB bx B W W := ⟨Nat.le_refl _, fun _ h => h, fun _ _ => rfl⟩
theorem KB.trans {bx B : Nat} {U V W : World} (h : KB bx B U V) (k : KB bx B V W) : KB bx B U W :=
 ⟨Nat.le_trans h.size k.size, fun o ho => k.box o (h.box o ho), fun i hi => (k.low i hi).trans (h.low i hi)⟩
theorem KB.cellB {bx B : Nat} {W W' : World} (h : KB bx B W W') {i : Nat} {v : Value} (hc : W.cell? ⟨bx, i, none⟩ = some v) : W'.cell? ⟨bx, i, none⟩ = some v := by
 unfold World.cell? at hc ⊢
 simp only at hc ⊢
 cases ho : W.heap[bx]? with
 | none => rw [ho] at hc; cases hc
 | some o => rw [ho] at hc; rw [h.box o ho]; exact hc
theorem KB.cellL {bx B : Nat} {W W' : World} (h : KB bx B W W') {b i : Nat} (hb : b < B) {v : Value} (hc : W.cell? ⟨b, i, none⟩ = some v) : W'.cell? ⟨b, i, none⟩ = some v := by
 unfold World.cell? at hc ⊢
 simp only at hc ⊢
 rw [h.low b hb]; exact hc
set_option maxRecDepth 100000 in
set_option maxHeartbeats 2000000 in
theorem back1_in (F : Fence) (n : Nat) (hF : F.fn 282) (hro : F.round = none) (hn : 1 ≤ n) (l bx B b off cap : Nat) (xs : List Nat) (hlen : xs.length ≤ 1099511627776) (hb : b < B) (hxs : ∀ x ∈ xs, x < 1000000000) (J Jx : List (Int × Nat) → World → Prop)
  (hY : ∀ (pre : List (Int × Nat)) (x : Int × Nat) W, x.2 < 1000000000 → J pre W → pre.length < xs.length → YieldAt F (n - 1) prog l #[.int .i64 x.1, .int .u32 (x.2 : Nat)] W fun e W' =>
   (e = .returned (.bool true) ∧ J (pre ++ [x]) W' ∧ KB bx B W W') ∨ (e = .returned (.bool false) ∧ Jx (pre ++ [x]) W'))
  (W : World) (hbx : W.cell? ⟨bx, 0, none⟩ = some (.slice (some ⟨b, off, none⟩) xs.length cap)) (hc : ∀ j, j < xs.length → W.cell? ⟨b, off + j, none⟩ = some (.int .u32 (xs[j]?.getD 0 : Nat))) (h0 : J [] W) :
  CallsIn F n prog 282 #[.func (.yield l) #[] #[], .pointer (some ⟨bx, 0, none⟩)] W fun e W' => (∃ v, e = .returned v) ∧ (J (backL xs 0) W' ∨ ∃ pre, Jx pre W') := by
 refine callsIn_of_wp func282 rfl hF ?_ hro
 simp only [ntmps282, List.size_toArray, List.length_cons, List.length_nil, Nat.reduceAdd, Nat.reduceSub, Array.replicate_succ, Array.replicate_zero, List.push_toArray, List.append_toArray, List.nil_append, List.cons_append]
 gi_wp2
 gi_loopw [3] (fun i wr => ∃ j : Nat, j ≤ xs.length ∧ i = .int .i64 ((j : Int) - 1) ∧ J (backL xs j) wr ∧ KB bx B W wr)
  (fun i _ => (intOf i + 1).toNat)
 case atStart => exact ⟨xs.length, Nat.le_refl _, rfl, by rw [backL_top]; exact h0, KB.refl _ _ _⟩
 case round =>
  obtain ⟨j, hj, rfl, hJs, hnx⟩ := hrel
  have hbx' := hnx.cellB hbx
  cases j with
  | zero =>
   gi_wp2
   go_end0
   exact ⟨⟨_, rfl⟩, .inl hJs⟩
  | succ j =>
   rw [show ((j + 1 : Nat) : Int) - 1 = (j : Int) by omega]
   have hcx := hnx.cellL hb (hc j (by omega))
   obtain ⟨fn, tmps, assign, body, hy, hR⟩ := hY _ ((j : Int), xs[j]?.getD 0) wr (by rw [List.getElem?_eq_getElem (show j < xs.length by omega)]; exact hxs _ (List.getElem_mem _)) hJs (by rw [backL_len]; omega)
   dsimp only at hy
   gi_wp2
   refine hR.mono ?_
   rintro e W3 (⟨rfl, hJ3, hk3⟩ | ⟨rfl, hx3⟩)
   ·gi_wp2
    go_roundw
    case rel => exact ⟨j, by omega, by simp, by rw [backL_step xs (show j < xs.length by omega)]; exact hJ3, hnx.trans hk3⟩
    case measure => simp [intOf]
   ·gi_wp2
    refine bodyPost_ret (results_none rfl _ _ _) rfl ?_
    exact ⟨⟨_, rfl⟩, .inr ⟨_, hx3⟩⟩
set_option maxRecDepth 100000 in
set_option maxHeartbeats 1000000 in
theorem back0_in (F : Fence) (n : Nat) (hF : F.fn 282) (hro : F.round = none) (l bx cap : Nat) (A : Option Addr) (J : List (Int × Nat) → World → Prop) (W : World) (hbx : W.cell? ⟨bx, 0, none⟩ = some (.slice A 0 cap)) (h0 : J [] W) :
  CallsIn F n prog 282 #[.func (.yield l) #[] #[], .pointer (some ⟨bx, 0, none⟩)] W fun e W' => (∃ v, e = .returned v) ∧ J [] W' := by
 refine callsIn_of_wp func282 rfl hF ?_ hro
 simp only [ntmps282, List.size_toArray, List.length_cons, List.length_nil, Nat.reduceAdd, Nat.reduceSub, Array.replicate_succ, Array.replicate_zero, List.push_toArray, List.append_toArray, List.nil_append, List.cons_append]
 gi_wp2
 gi_loopw [3] (fun i wr => i = .int .i64 (-1) ∧ J [] wr) (fun _ _ => 0)
 case atStart => exact ⟨rfl, h0⟩
 case round =>
  obtain ⟨rfl, hJs⟩ := hrel
  gi_wp2
  go_end0
  exact ⟨⟨_, rfl⟩, hJs⟩
set_option maxHeartbeats 1000000 in
theorem backward_in (F : Fence) (n : Nat) (hF : F.fn 242) (hro : F.round = none) (A : Option Addr) (len cap : Nat) (w : World) :
  CallsIn F n prog 242 #[.slice A len cap] w fun e w' => e = .returned (.func (.func 282) #[] #[.pointer (some ⟨w.heap.size, 0, none⟩)]) ∧ w' = w.alloc (.cells #[.slice A len cap] 116) := by
 refine callsIn_of_wp func242 rfl hF ?_ hro
 simp only [ntmps242, List.size_toArray, List.length_cons, List.length_nil, Nat.reduceAdd, Nat.reduceSub, Array.replicate_succ, Array.replicate_zero, List.push_toArray, List.append_toArray, List.nil_append, List.cons_append]
 gi_wp2
 go_ret
 exact ⟨rfl, rfl⟩
def LimbsAt (B : Nat) (W : World) (A : Option Addr) (xs : List Nat) : Prop :=
 xs = [] ∨ ∃ b off, A = some ⟨b, off, none⟩ ∧ b < B ∧ ∀ j, j < xs.length → W.cell? ⟨b, off + j, none⟩ = some (.int .u32 (xs[j]?.getD 0 : Nat))
theorem LimbsAt.below {B : Nat} {W W' : World} {A : Option Addr} {xs : List Nat} (h : LimbsAt B W A xs) (hb : ∀ k, k < B → W'.heap[k]? = W.heap[k]?) : LimbsAt B W' A xs := by
 rcases h with h | ⟨b, off, hA, hlt, hc⟩
 ·exact .inl h
 ·refine .inr ⟨b, off, hA, hlt, fun j hj => ?_⟩
  rw [← hc j hj]
  unfold World.cell?
  simp only
  rw [hb b hlt]
theorem back_stops (F : Fence) (n : Nat) (hF : F.fn 282) (hro : F.round = none) (hn : 1 ≤ n) (bx B cap : Nat) (A : Option Addr) (xs : List Nat) (hlen : xs.length ≤ 1099511627776) (hxs : ∀ x ∈ xs, x < 1000000000) (w : World) (hbx : bx < w.heap.size) (hB : B ≤ w.heap.size)
  (hc : w.cell? ⟨bx, 0, none⟩ = some (.slice A xs.length cap)) (hL : LimbsAt B w A xs) :
  SeqStopsK F n prog 282 #[.pointer (some ⟨bx, 0, none⟩)] (fun x : Int × Nat => #[Value.int .i64 x.1, Value.int .u32 ((x.2 % 1000000000 : Nat) : Int)]) (KB bx B) (fun ys => ys = backL xs 0) (fun _ => True) xs.length w := fun l J Jx W hW _ _ hY h0 => by
 have hc' := (hW.cell (p := ⟨bx, 0, none⟩) hbx).trans hc
 have hL' := hL.below (W' := W) (fun k hk => hW.block k (by omega))
 rcases hL' with rfl | ⟨b, off, rfl, hb, hcs⟩
 ·refine (back0_in F n hF hro l bx cap A J W hc' h0).mono ?_
  rintro e W' ⟨h1, h2⟩
  exact ⟨h1, .inl ⟨_, rfl, h2⟩⟩
 ·refine (back1_in F n hF hro hn l bx B b off cap xs hlen hb hxs J Jx (fun pre x W1 hx h1 h2 => by have := hY pre x W1 h1 h2; simp only [Nat.mod_eq_of_lt hx] at this; exact this) W hc' hcs h0).mono ?_
  rintro e W' ⟨h1, h2 | ⟨pre, h2⟩⟩
  ·exact ⟨h1, .inl ⟨_, rfl, h2⟩⟩
  ·exact ⟨h1, .inr ⟨pre, trivial, h2⟩⟩
end Go.PE
namespace Go.PE
open Go.RowKit Go.Shelf Go.Sort Go.Proofs Go.Proofs.Tryz
set_option maxRecDepth 100000 in
set_option maxHeartbeats 2000000 in
theorem fmtUint241 (u : Nat) (hu64 : u < 18446744073709551616) (w : World) (htab : Lib.TabIs prog w "internal/strconv.uint64pow10" .u64 Lib.pow10Tab) :
  Calls prog 241 #[.int .u64 u, .int .i64 10] w fun e w' => e = .returned (.string ⟨(Lib.decDigits u).toArray⟩) ∧ ∃ k os, w' = grow (w.drewN k) os := by
 have e281 : ∀ args w, (callFunc 281 args).run prog w = .ok (.enter 281 args) w := enters_of func281 (by kernel_rfl) rfl
 go_enter func241, ntmps241
 go_wp2_with (go_at_fn 281; refine (fmtUint_calls u hu64 _ htab).mono ?_; rintro e w' ⟨rfl, k, os, rfl⟩)
 go_ret
 exact ⟨rfl, k, os, rfl⟩
def pad9 (x : Nat) : List UInt8 := ([48, 48, 48, 48, 48, 48, 48, 48, 48] : List UInt8).drop (Lib.decDigits x).length ++ Lib.decDigits x
def outB (top : Nat) (pre : List (Int × Nat)) : List UInt8 := Lib.decDigits top ++ pre.flatMap fun q => pad9 q.2
theorem bAtF_kept {T e : TypeId} {B b : Nat} {p : Value} {bs : List Value} {w w' : World} {row : Option Nat} (h : Lib.BuilderAtF T e B b p bs w) (hg : w.grownBy w' row) (hr : ∀ r, row = some r → ∃ o : Obj, w.heap[r]? = some o ∧ o.isCells = false) :
  Lib.BuilderAtF T e B b p bs w' := by
 obtain ⟨hB, v, hb, hown, hne⟩ := h
 have hk : ∀ (k : Nat) (o : Obj), w.heap[k]? = some o → o.isCells = true → w'.heap[k]? = some o := fun k o ho hc => by
  refine (hg.block k (Array.getElem?_eq_some_iff.1 ho).1 ?_).trans ho
  intro hrk
  obtain ⟨o', ho', hc'⟩ := hr k hrk.symm
  rw [ho] at ho'
  cases ho'
  rw [hc] at hc'; cases hc'
 refine ⟨hB, v, hk b _ hb rfl, hown.kept hg ?_, hne⟩
 cases hv : v.ownBlock with
 | none => exact .inl rfl
 | some g =>
  refine .inr fun hrow => ?_
  obtain ⟨c, fz, hgc⟩ := Lib.ownsRowF_kind hown g hv
  obtain ⟨o', ho', hc'⟩ := hr g hrow.symm
  rw [hgc] at ho'
  cases ho'
  cases hc'
theorem wrStr (B b : Nat) (bs : List Value) (s : ByteArray) (w : World) (h : Lib.IsBuilderF 237 5 B b bs w) (hlen : bs.length + s.size ≤ 140737488355328) (hBw : B ≤ w.heap.size) :
  Calls prog 240 #[.pointer (some ⟨b, 0, none⟩), .string s] w fun e w' => e = .returned (.tuple #[.int .i64 s.size, .nilIface]) ∧ (Lib.BuilderAtF 237 5 B b (.pointer (some ⟨b, 0, none⟩)) (bs ++ Lib.strCells s) w' ∧ RowKit.Below B w w' ∧ Lib.OthersKept 5 (some b) w w') :=
 Any.Builder_WriteString_k (ρ := renB) lays166 extraB B b bs s w h hlen hBw
theorem strB (B b : Nat) (l : List UInt8) (w : World) (h : Lib.IsBuilderF 237 5 B b (Lib.byteCells l) w) (hBw : B ≤ w.heap.size) :
  Calls prog 243 #[.pointer (some ⟨b, 0, none⟩)] w fun e w' => e = .returned (.string ⟨l.toArray⟩) ∧ (Lib.IsBuilderF 237 5 B b (Lib.byteCells l) w' ∧ RowKit.Below B w w' ∧ Lib.OthersKept 5 (some b) w w') :=
 Any.Builder_String_any_k (ρ := renB) lays169 extraB B b l w h hBw
theorem grow_grownBy (w : World) (k : Nat) (os : Array Obj) : w.grownBy (grow (w.drewN k) os) none :=
 ⟨rfl, rfl, rfl, by simp [grow, World.drewN], fun i hi _ => by
  simp only [grow, World.drewN]
  rw [Array.getElem?_append_left hi]⟩
theorem grow_below (B : Nat) (w : World) (hB : B ≤ w.heap.size) (k : Nat) (os : Array Obj) : RowKit.Below B w (grow (w.drewN k) os) :=
 ⟨rfl, rfl, rfl, by simp [grow, World.drewN], fun i hi => by
  simp only [grow, World.drewN]
  rw [Array.getElem?_append_left (by omega)]⟩
theorem pad9_len (x : Nat) (h : x < 1000000000) : (pad9 x).length = 9 := by
 have := dec_len_le (n := x) (k := 9) (by omega) (by omega)
 have h2 : (Lib.decDigits x).length ≤ 9 := this
 simp [pad9]; omega
theorem outB_len (top : Nat) (pre : List (Int × Nat)) (h : top < 1000000000) : (outB top (pre.map fun q => (q.1, q.2 % 1000000000))).length ≤ 9 + 9 * pre.length := by
 have h1 : (Lib.decDigits top).length ≤ 9 := dec_len_le (n := top) (k := 9) (by omega) (by omega)
 have h2 : ∀ l : List (Int × Nat), ((l.map fun q => (q.1, q.2 % 1000000000)).flatMap fun q => pad9 q.2).length = 9 * l.length := by
  intro l
  induction l with
  | nil => rfl
  | cons q l ih =>
   simp only [List.map_cons, List.flatMap_cons, List.length_append, List.length_cons] at ih ⊢
   rw [ih, pad9_len _ (Nat.mod_lt _ (by omega))]
   omega
 rw [outB, List.length_append, h2]
 omega
theorem ext9 {n : Nat} (h : n ≤ 9) : Lib.strCells ((⟨#[48, 48, 48, 48, 48, 48, 48, 48, 48]⟩ : ByteArray).extract n 9) = Lib.byteCells (([48, 48, 48, 48, 48, 48, 48, 48, 48] : List UInt8).drop n) ∧ ((⟨#[48, 48, 48, 48, 48, 48, 48, 48, 48]⟩ : ByteArray).extract n 9).size = 9 - n := by
 match n, h with
 | 0, _ | 1, _ | 2, _ | 3, _ | 4, _ | 5, _ | 6, _ | 7, _ | 8, _ | 9, _ => exact ⟨rfl, rfl⟩
theorem tab_below {w W : World} (h : Lib.TabIs prog w "internal/strconv.uint64pow10" .u64 Lib.pow10Tab) (hb : RowKit.Below w.heap.size w W) : Lib.TabIs prog W "internal/strconv.uint64pow10" .u64 Lib.pow10Tab := by
 have hn : prog.globalNamed "internal/strconv.uint64pow10" = some 0 := by kernel_rfl
 unfold Lib.TabIs World.var? at *
 rw [hn, Option.bind_some] at h ⊢
 have h0 : 0 < w.heap.size := by
  rcases Nat.lt_or_ge 0 w.heap.size with h' | h'
  ·exact h'
  ·rw [Array.getElem?_eq_none h'] at h; cases h
 rw [hb.block 0 h0]
 exact h
set_option maxRecDepth 100000 in
set_option maxHeartbeats 4000000 in
theorem text_in (A : Option Addr) (xs : List Nat) (top cap : Nat) (hlen : xs.length ≤ 16777216) (htop : top < 1000000000) (hxs : ∀ x ∈ xs, x < 1000000000) (w : World) (b off : Nat) (hA : A = some ⟨b, off, none⟩) (hb : b < w.heap.size) (hcap : xs.length + 1 ≤ cap)
  (hcells : ∀ j, j < xs.length + 1 → w.cell? ⟨b, off + j, none⟩ = some (.int .u32 ((xs ++ [top])[j]?.getD 0 : Nat))) (htab : Lib.TabIs prog w "internal/strconv.uint64pow10" .u64 Lib.pow10Tab) :
  CallsIn Fence.wide 6 prog 190 #[.slice A (xs.length + 1) cap] w fun e w' => e = .returned (.string ⟨(outB top (backL xs 0)).toArray⟩) ∧ Below w.heap.size w w' := by
 subst hA
 refine callsIn_of_wp_marks func190 rfl trivial ?_ rfl
 simp only [ntmps190, List.size_toArray, List.length_cons, List.length_nil, Nat.reduceAdd, Nat.reduceSub, Array.replicate_succ, Array.replicate_zero, List.push_toArray, List.append_toArray, List.nil_append, List.cons_append]
 have hlast := hcells xs.length (by omega)
 simp only [List.getElem?_append_right (Nat.le_refl _), Nat.sub_self, List.getElem?_cons_zero, Option.getD_some] at hlast
 have htab1 := Lib.tabIs_alloc htab (.cells #[.pointer none, .slice none 0 0] 237)
 gi_wp2_with (first
  | (refine ⟨trivial, ?_⟩; gi_at_call 241; refine (callsIn_wide.2 (fmtUint241 top (by omega) _ htab1)).mono ?_; rintro e w1 ⟨rfl, k1, os1, rfl⟩))
 have hb0 : Lib.BuilderAtF 237 5 w.heap.size w.heap.size (.pointer none) [] (grow ((w.alloc (.cells #[.pointer none, .slice none 0 0] 237)).drewN k1) os1) := by
  refine bAtF_kept ?_ (grow_grownBy _ k1 os1) (fun r h => by cases h)
  exact ⟨Nat.le_refl _, .slice none 0 0, World.alloc_heap_new w _, World.ownsRowF_nil _ _ _ _, by simp [Value.ownBlock]⟩
 generalize hw1 : grow ((w.alloc (.cells #[.pointer none, .slice none 0 0] 237)).drewN k1) os1 = w1 at *
 have hw1B : RowKit.Below w.heap.size w w1 := by
  rw [← hw1]
  exact ((RowKit.Below.refl _ w).alloc (Nat.le_refl _) _).trans (grow_below _ _ (by simp) k1 os1)
 have hdl := Lib.decDigits_length top
 have hsz : (⟨(Lib.decDigits top).toArray⟩ : ByteArray).size = (Lib.decDigits top).length := by simp [ByteArray.size]
 have hnd := Lib.nDigits_le20 top (by omega)
 refine ⟨trivial, (callsIn_wide.2 (wrStr w.heap.size w.heap.size [] _ w1 (.inl hb0) (by rw [hsz]; simp only [List.length_nil]; omega) hw1B.size)).mono ?_⟩
 rintro e w2 ⟨rfl, hb2, hw2B, hk2⟩
 have hw2 : RowKit.Below w.heap.size w w2 := hw1B.trans hw2B
 gi_wp2_with (refine ⟨trivial, ?_⟩; gi_at_call 242; refine (backward_in Fence.wide _ trivial rfl _ _ _ _).mono ?_; rintro e w3 ⟨rfl, rfl⟩)
 generalize hB0 : w.heap.size = B at *
 have hBw2 : B ≤ w2.heap.size := by have := hw2.size; omega
 have hlow : ∀ k, k < B → (w2.alloc (.cells #[.slice (some ⟨b, off, none⟩) xs.length cap] 116)).heap[k]? = w.heap[k]? := fun k hk =>
  (Lib.alloc_old w2 _ k (by omega)).trans (hw2.block k hk)
 have hL : LimbsAt B (w2.alloc (.cells #[.slice (some ⟨b, off, none⟩) xs.length cap] 116)) (some ⟨b, off, none⟩) xs := by
  refine .inr ⟨b, off, rfl, hb, fun j hj => ?_⟩
  have h1 := hcells j (by omega)
  rw [List.getElem?_append_left hj] at h1
  rw [← h1]
  unfold World.cell?
  simp only
  rw [hlow b hb]
 refine wpIn_rangeFunc_ownF rfl (by omega) (gf := 282) (lb := #[.pointer (some ⟨w2.heap.size, 0, none⟩)]) rfl trivial (enters_of func282 (by kernel_rfl) rfl)
  (back_stops Fence.wide _ trivial rfl (by omega) w2.heap.size B cap (some ⟨b, off, none⟩) xs (by omega) hxs (w2.alloc (.cells #[.slice (some ⟨b, off, none⟩) xs.length cap] 116)) (by simp) (by simp; omega) (by rw [World.cell?_alloc_new]; rfl) hL)
  (fun h k => h.trans k) (fun W l o o' hl ho _ _ => ⟨by simp, fun o2 ho2 => (World.putObj_heap_other (by simp at hl; omega)).trans ho2, fun k hk => World.putObj_heap_other (by simp at hl; omega)⟩)
  (RowKit.Below.refl _ _) (fun _ => rfl)
  (fun pre W => Lib.BuilderAtF 237 5 B B (.pointer (some ⟨B, 0, none⟩)) (Lib.byteCells (outB top (pre.map fun q => (q.1, q.2 % 1000000000)))) W ∧ RowKit.Below B w W ∧ W.heap[w2.heap.size]? = some (.cells #[.slice (some ⟨b, off, none⟩) xs.length cap] 116 (0, 0)))
  (fun _ _ _ => False) ?hI (fun _ _ _ _ _ hs _ _ => hs) ?h0
  (fun x => { tmps := #[.slice (some ⟨b, off, none⟩) (xs.length + 1) cap, undef, .string ⟨#[]⟩, .pointer (some ⟨B, 0, none⟩), undef, .int .u32 ((x.2 % 1000000000 : Nat) : Int), undef, .slice (some ⟨b, off, none⟩) (xs.length + 1) cap, .int .i64 ((xs.length : Int) + 1), .bool false,
   .slice (some ⟨b, off, none⟩) (xs.length + 1) cap, .slice (some ⟨b, off, none⟩) (xs.length + 1) cap, .int .i64 ((xs.length : Int) + 1), .int .i64 (xs.length : Int), .pointer (some ⟨b, off + xs.length, none⟩), .int .u32 (top : Int), .int .u64 (top : Int), .string ⟨(Lib.decDigits top).toArray⟩,
   .tuple #[.int .i64 (Lib.nDigits top : Int), .nilIface], .slice (some ⟨b, off, none⟩) (xs.length + 1) cap, .slice (some ⟨b, off, none⟩) (xs.length + 1) cap, .int .i64 ((xs.length : Int) + 1), .int .i64 (xs.length : Int), .slice (some ⟨b, off, none⟩) xs.length cap, .func (.func 282) #[] #[.pointer (some ⟨w2.heap.size, 0, none⟩)],
   .int .i64 x.1, .int .u32 ((x.2 % 1000000000 : Nat) : Int), undef, undef, undef, undef, undef, undef, undef, undef, undef, undef], defers := [] }) ?assign ?body ?done ?stop
 case hI =>
  rintro s W W' row ⟨h1, h2, h3⟩ hg hr
  have hr2 : ∀ r, row = some r → ∃ o : Obj, W.heap[r]? = some o ∧ o.isCells = false := fun r h => (hr r h).2
  refine ⟨bAtF_kept h1 hg hr2, h2.grown hg (by have := h2.size; omega) (fun k e => by have := (hr k e).1; simp at this; omega), ?_⟩
  refine (hg.block _ (Array.getElem?_eq_some_iff.1 h3).1 ?_).trans h3
  intro e
  obtain ⟨o, ho, hoc⟩ := hr2 _ e.symm
  rw [h3] at ho
  cases ho
  cases hoc
 case h0 =>
  refine ⟨?_, hw2.alloc hBw2 _, World.alloc_heap_new w2 _⟩
  have : Lib.byteCells (outB top []) = [] ++ Lib.strCells ⟨(Lib.decDigits top).toArray⟩ := by simp [outB, Lib.strCells_eq]
  exact (this ▸ hb2).alloc _
 case assign =>
  intro l x W K hK
  gi_wp2_with (rw [Oper.semAt_eq _ _ _ (fun c h => by cases h)]; go_simp; try go_bits)
  exact hK
 case body =>
  rintro l pre ⟨xi, xv⟩ W ⟨h1, h2, h3⟩ hlt
  have hout : outB top ((pre ++ [(xi, xv)]).map fun q => (q.1, q.2 % 1000000000)) = outB top (pre.map fun q => (q.1, q.2 % 1000000000)) ++ pad9 (xv % 1000000000) := by simp [outB]
  have hyB : xv % 1000000000 < 1000000000 := Nat.mod_lt _ (by omega)
  dsimp only
  generalize xv % 1000000000 = y at *
  have hol := outB_len top pre htop
  generalize outB top (pre.map fun q => (q.1, q.2 % 1000000000)) = bs at *
  have hdy : (Lib.decDigits y).length ≤ 9 := dec_len_le (n := y) (k := 9) (by omega) (by omega)
  have htabW := tab_below htab (by rw [hB0]; exact h2)
  gi_wp2_with (first
   | (refine ⟨trivial, ?_⟩; gi_at_call 241; refine (CallsIn.inRound l (callsIn_wide.2 (fmtUint241 y (by omega) _ htabW))).mono ?_; rintro e W1 ⟨rfl, k1, os1, rfl⟩)
   | (rw [Oper.semAt_eq _ _ _ (fun c h => by cases h)]; go_simp; try go_bits))
  obtain ⟨x1, x2⟩ := ext9 hdy
  have hW1B := h2.trans (grow_below B W (by have := h2.size; omega) k1 os1)
  have hK1 : RowKit.Below W.heap.size W (grow (W.drewN k1) os1) := grow_below _ W (Nat.le_refl _) k1 os1
  have hb1 := bAtF_kept h1 (grow_grownBy W k1 os1) (fun r h => by cases h)
  have hbx1 := (hK1.block _ (Array.getElem?_eq_some_iff.1 h3).1).trans h3
  generalize hWg : grow (W.drewN k1) os1 = W1 at *
  have hB1 : B ≤ W1.heap.size := by have := hW1B.size; omega
  refine ⟨trivial, (CallsIn.inRound l (callsIn_wide.2 (wrStr B B _ _ W1 (.inr hb1) (by rw [x2, Lib.byteCells_length]; omega) hB1))).mono ?_⟩
  rintro e W2 ⟨rfl, hb2', hW2B, hk2'⟩
  rw [x1, ← Lib.byteCells_append] at hb2'
  gi_wp2_with (rw [Oper.semAt_eq _ _ _ (fun c h => by cases h)]; go_simp; try go_bits)
  have hB2 : B ≤ W2.heap.size := by have := hW2B.size; omega
  have hsy : (⟨(Lib.decDigits y).toArray⟩ : ByteArray).size = (Lib.decDigits y).length := by simp [ByteArray.size]
  refine ⟨trivial, (CallsIn.inRound l (callsIn_wide.2 (wrStr B B _ _ W2 (.inr hb2') (by rw [hsy, Lib.byteCells_length, List.length_append, List.length_drop]; simp only [List.length_cons, List.length_nil]; omega) hB2))).mono ?_⟩
  rintro e W3 ⟨rfl, hb3', hW3B, hk3'⟩
  gi_wp2_with (rw [Oper.semAt_eq _ _ _ (fun c h => by cases h)]; go_simp; try go_bits)
  have hbxB : w2.heap.size ≠ B := by have := hb2.lt; omega
  have hbl : ∀ (o : Obj), W1.heap[B]? = some o → o.isCells = true := fun o ho => by
   obtain ⟨_, v, hv, _⟩ := hb1
   rw [hv] at ho
   cases ho; rfl
  have hkeep : ∀ (k : Nat) (o : Obj), W.heap[k]? = some o → k ≠ B → (∀ c fz, o ≠ .cells c 5 fz) → W3.heap[k]? = some o := fun k o ho hkB hne => by
   have e1 := (hK1.block k (Array.getElem?_eq_some_iff.1 ho).1).trans ho
   exact hk3' k o (hk2' k o e1 (fun h => hkB (Option.some.inj h)) hne) (fun h => hkB (Option.some.inj h)) hne
  refine ⟨⟨?_, fun k o ho hoc => ?_⟩, ⟨?_, fun o ho => ?_, fun k hk => ?_⟩, ?_, ?_, ?_⟩
  ·have := hK1.size; have := hW2B.size; have := hW3B.size; omega
  ·refine hkeep k o ho ?_ ?_
   ·rintro rfl
    have e1 := (hK1.block _ (Array.getElem?_eq_some_iff.1 ho).1).trans ho
    rw [hbl o e1] at hoc; cases hoc
   ·rintro c fz rfl; cases hoc
  ·have := hK1.size; have := hW2B.size; have := hW3B.size; omega
  ·rw [h3] at ho
   cases ho
   exact hkeep _ _ h3 hbxB (fun c fz h => by cases h)
  ·rw [hW3B.block k hk, hW2B.block k hk, hK1.block k (by have := h2.size; omega)]
  ·show Lib.BuilderAtF 237 5 B B _ (Lib.byteCells (outB top ((pre ++ [(xi, xv)]).map fun q => (q.1, q.2 % 1000000000)))) W3
   rw [hout]
   rw [Lib.strCells_eq, ← Lib.byteCells_append] at hb3'
   have e : bs ++ List.drop (Lib.decDigits y).length [48, 48, 48, 48, 48, 48, 48, 48, 48] ++ Lib.decDigits y = bs ++ pad9 y := by rw [List.append_assoc]; rfl
   rw [← e]
   exact hb3'
  ·exact hW1B.trans (hW2B.trans hW3B)
  ·exact hkeep _ _ h3 hbxB (fun c fz h => by cases h)
 case done =>
  rintro D ys W hD rfl ⟨h1, h2, h3⟩ hK
  have hys : outB top ((backL xs 0).map fun q => (q.1, q.2 % 1000000000)) = outB top (backL xs 0) := by
   congr 1
   have : ∀ q ∈ backL xs 0, q.2 < 1000000000 := by
    intro q hq
    unfold backL at hq
    obtain ⟨i, _, rfl⟩ := List.mem_map.1 hq
    by_cases hi : i < xs.length
    ·simp only [List.getElem?_eq_getElem hi, Option.getD_some]; exact hxs _ (List.getElem_mem _)
    ·have : xs[i]? = none := List.getElem?_eq_none (by omega)
     simp [this]
   conv => rhs; rw [← List.map_id (backL xs 0)]
   exact List.map_congr_left fun q hq => by rw [Nat.mod_eq_of_lt (this q hq)]; rfl
  rw [hys] at h1
  gi_wp2_with (refine ⟨trivial, ?_⟩; gi_at_call 243; refine (callsIn_wide.2 (strB B B _ W (.inr h1) (by have := h2.size; omega))).mono ?_; rintro e W' ⟨rfl, _, hb4, hk4⟩)
  have hDB : D ≠ B := by
   rintro rfl
   obtain ⟨_, v, hv, _⟩ := h1
   rw [hK] at hv; cases hv
  have hK' : W'.heap[D]? = some (.deferred (some [])) := hk4 D _ hK (fun h => hDB (Option.some.inj h)) (fun c fz h => by cases h)
  have hBD : B ≤ D := by simp at hD; omega
  refine ⟨by simp, .inl ⟨_, _, rfl, run_takeDeferred hK', ?_⟩⟩
  refine ⟨_, results_tmp rfl _ _ _, rfl, ?_⟩
  rw [hB0]
  have h5 := h2.trans hb4
  exact h5.grown (grownBy_putObj' W' D _) (by have := h5.size; omega) (fun k e => by cases e; exact hBD)
 case stop =>
  rintro D c pre W _ _ h _
  exact h.elim
end Go.PE
namespace Go.PE
open Go.RowKit Go.Shelf Go.Sort Go.Proofs Go.Proofs.Tryz
set_option maxRecDepth 100000
theorem pad9_val {x : Nat} (h : x < 1000000000) : val (pad9 x) = x ∧ (pad9 x).all isDg = true := by
 have hl : (Lib.decDigits x).length ≤ 9 := dec_len_le (n := x) (k := 9) (by omega) (by omega)
 have hz : ∀ k, k ≤ 9 → val (([48, 48, 48, 48, 48, 48, 48, 48, 48] : List UInt8).drop k) = 0 ∧ (([48, 48, 48, 48, 48, 48, 48, 48, 48] : List UInt8).drop k).all isDg = true := by
  intro k hk
  match k, hk with
  | 0, _ | 1, _ | 2, _ | 3, _ | 4, _ | 5, _ | 6, _ | 7, _ | 8, _ | 9, _ => exact ⟨rfl, rfl⟩
 obtain ⟨h1, h2⟩ := hz _ hl
 refine ⟨?_, ?_⟩
 ·unfold pad9
  rw [val_append, h1, Nat.zero_mul, Nat.zero_add]
  exact val_dec x
 ·unfold pad9
  rw [List.all_append, h2]
  exact dec_all x
theorem out_val (top : Nat) (xs : List Nat) (hxs : ∀ x ∈ xs, x < 1000000000) : ∀ k, k ≤ xs.length → val (outB top (backL xs (xs.length - k))) = lval ((xs ++ [top]).drop (xs.length - k)) ∧ (outB top (backL xs (xs.length - k))).all isDg = true
 | 0, _ => by
  rw [Nat.sub_zero, backL_top, List.drop_append_of_le_length (Nat.le_refl _), List.drop_length, List.nil_append]
  unfold outB
  rw [List.flatMap_nil, List.append_nil]
  refine ⟨?_, dec_all top⟩
  rw [show val (Lib.decDigits top) = top from val_dec top]
  simp [lval]
 | k + 1, h => by
  obtain ⟨h1, h2⟩ := out_val top xs hxs k (by omega)
  obtain ⟨j, hj⟩ : ∃ j, j = xs.length - (k + 1) := ⟨_, rfl⟩
  have hjl : j < xs.length := by omega
  rw [← hj]
  rw [show xs.length - k = j + 1 by omega] at h1 h2
  have hx : xs[j]?.getD 0 < 1000000000 := by
   rw [List.getElem?_eq_getElem hjl]; exact hxs _ (List.getElem_mem _)
  obtain ⟨p1, p2⟩ := pad9_val hx
  have e : outB top (backL xs j) = outB top (backL xs (j + 1)) ++ pad9 (xs[j]?.getD 0) := by
   rw [backL_step xs hjl]
   simp [outB]
  rw [e]
  refine ⟨?_, by rw [List.all_append, h2, p2]; rfl⟩
  rw [val_append, pad9_len _ hx, h1, p1]
  have hd : (xs ++ [top]).drop j = xs[j]?.getD 0 :: (xs ++ [top]).drop (j + 1) := by
   rw [List.drop_eq_getElem_cons (by simp; omega)]
   congr 1
   rw [List.getElem_append_left hjl, List.getElem?_eq_getElem hjl]; rfl
  rw [hd, lval]
  omega
theorem out_dec {top : Nat} {xs : List Nat} (hxs : ∀ x ∈ xs, x < 1000000000) (ht : 0 < top) : outB top (backL xs 0) = dec (lval (xs ++ [top])) := by
 obtain ⟨h1, h2⟩ := out_val top xs hxs xs.length (Nat.le_refl _)
 rw [Nat.sub_self] at h1 h2
 rw [List.drop_zero] at h1
 rw [← h1]
 have hne : outB top (backL xs 0) ≠ [] := by
  unfold outB
  intro h
  exact dec_ne top (List.append_eq_nil_iff.1 h).1
 refine (dec_val_aux _ h2 hne ?_).symm
 unfold outB
 have h3 := dec_head top ht
 have h4 := dec_ne top
 unfold dec at h3 h4
 cases hd : Lib.decDigits top with
 | nil => exact absurd hd h4
 | cons c r => rw [hd] at h3; simpa using h3
theorem below_post {w w' : World} (hb : RowKit.Below w.heap.size w w') {Fz : Nat → Prop} {boxes : List Value} {u : Value} {s : ByteArray} {l : Bs} (hu : u = .string s) (hs : s.data.toList = l) (hbx : boxes = []) {bs : List Nat} :
  Post w Fz bs boxes (.str l) [] u w' := by
 subst hu hbx hs
 exact ⟨hb.os, hb.tape, hb.output, hb.size, fun b hb' _ => hb.block b hb', rfl, Fz, [], [], fun _ h => h, fun _ h => .inl h, by simp, by simp, .plain (.str s), .nil⟩
set_option maxHeartbeats 1000000 in
theorem text0_in (A : Option Addr) (cap : Nat) (w : World) : CallsIn Fence.wide 6 prog 190 #[.slice A 0 cap] w fun e w' => e = .returned (.string ⟨#[48]⟩) ∧ w' = w := by
 refine callsIn_of_wp func190 rfl trivial ?_ rfl
 simp only [ntmps190, List.size_toArray, List.length_cons, List.length_nil, Nat.reduceAdd, Nat.reduceSub, Array.replicate_succ, Array.replicate_zero, List.push_toArray, List.append_toArray, List.nil_append, List.cons_append]
 gi_wp2
 go_ret
 exact ⟨rfl, rfl⟩
theorem fmtUint_meets : Meets prog 281 fmtUintF := by
 refine ⟨fun _ _ => ?_, fun h => (by cases h), fun _ h => (by cases h)⟩
 intro w Fz args avs bs r outs hgl hfz hnd hbs hreps hF o a next Q hnext
 unfold fmtUintF at hF
 split at hF
 ·rename_i n
  split at hF
  ·rename_i hr
   cases hF
   obtain ⟨u, rfl⟩ : ∃ u : Nat, n = u := ⟨n.toNat, by omega⟩
   have ha := args2 hreps
   subst ha
   have henter : (callFunc 281 #[.int .u64 (u : Int), .int .i64 10]).run prog w = .ok (.enter 281 #[.int .u64 (u : Int), .int .i64 10]) w := enters_of func281 (by kernel_rfl) rfl _ _
   rw [henter, Oper.upon_enter]
   refine (fmtUint_calls u (by omega) w (pow10_tab hgl (by kernel_rfl))).mono ?_
   rintro e w' ⟨rfl, k, os, rfl⟩
   refine hnext _ _ (below_post (grow_below _ w (Nat.le_refl _) k os) rfl ?_ rfl)
   rw [decN_eq]; rfl
  ·cases hF
 ·cases hF
theorem text_meets : Meets prog 190 textF := by
 refine ⟨fun _ _ => ?_, fun h => (by cases h), fun _ h => (by cases h)⟩
 intro w Fz args avs bs r outs hgl hfz hnd hbs hreps hF o a next Q hnext
 unfold textF at hF
 split at hF
 ·rename_i ys
  split at hF
  ·rename_i l hl
   split at hF
   ·rename_i hcl
    obtain ⟨hcan, hlen⟩ := hcl
    cases hF
    obtain rfl := row_unrow hl
    obtain ⟨v, hv⟩ : ∃ v, args = #[v] ∧ Imm w Fz v (.imm 1 (row l)) := by
     obtain ⟨al, hal⟩ : ∃ al, args.toList = al := ⟨_, rfl⟩
     rw [hal] at hreps
     cases hreps with
     | cons h1 h2 =>
      cases h2
      exact ⟨_, by rw [← Array.toArray_toList (xs := args), hal], h1.imm rfl⟩
    obtain ⟨rfl, hi⟩ := hv
    have henter : (callFunc 190 #[v]).run prog w = .ok (.enter 190 #[v]) w := enters_of func190 (by kernel_rfl) rfl _ _
    rw [henter, Oper.upon_enter]
    have htab := pow10_tab hgl (by kernel_rfl)
    obtain ⟨A, n, cap, c, rfl, hn, hc, hcell, hr⟩ : ∃ (A : Option Addr) (n cap : Nat) (c : Nat → Nat → Value), v = .slice A n cap ∧ l.length = n ∧ n ≤ cap ∧ (∀ i j p, cell2 (row l) i j = some p → ∃ ad, A = some ad ∧ Fz ad.block ∧ w.cell? (ad.add (i * 1 + j)) = some (c i j)) ∧
      (∀ i j p, cell2 (row l) i j = some p → Imm w Fz (c i j) p) := by
     cases hi with
     | imm A n cap _ _ c hn hc hu hcell hr => exact ⟨A, n, cap, c, rfl, by rw [← hn, row_len], hc, hcell, hr⟩
    subst hn
    have hcan' := hcan
    unfold canonL at hcan'
    rw [Bool.and_eq_true, Bool.not_eq_true', beq_eq_false_iff_ne] at hcan'
    by_cases hl0 : l = []
    ·subst hl0
     refine (callsIn_wide.1 (text0_in A cap w)).mono ?_
     rintro e w' ⟨rfl, rfl⟩
     exact hnext _ _ (below_post (RowKit.Below.refl _ _) rfl rfl rfl)
    ·obtain ⟨xs, top, rfl⟩ : ∃ xs top, l = xs ++ [top] := ⟨l.dropLast, l.getLast hl0, (List.dropLast_concat_getLast hl0).symm⟩
     have hok := okL_append.1 hcan'.1
     have hxs : ∀ x ∈ xs, x < 1000000000 := okL_iff.1 hok.1
     have htop : top < 1000000000 := (okL_cons.1 hok.2).1
     have ht0 : 0 < top := by
      rcases Nat.eq_zero_or_pos top with h | h
      ·exfalso; apply hcan'.2; rw [h]; simp
      ·exact h
     have hlr : (xs ++ [top]).length = xs.length + 1 := by simp
     have hc2 : ∀ j, j < xs.length + 1 → cell2 (row (xs ++ [top])) j 0 = some (.int .u32 ((xs ++ [top])[j]?.getD 0 : Nat)) := by
      intro j hj
      unfold cell2
      rw [row_get (by simp; omega)]
      simp [List.getD]
     obtain ⟨ad, rfl, hFz, hc0⟩ := hcell 0 0 _ (hc2 0 (by omega))
     have hsp : ad = ⟨ad.block, ad.off, none⟩ := by
      have h0 : ad.add (0 * 1 + 0) = ad := by unfold Addr.add; simp
      rw [h0] at hc0
      obtain ⟨b, off, sp⟩ := ad
      cases sp with
      | none => rfl
      | some s =>
       unfold World.cell? at hc0
       simp at hc0
       split at hc0 <;> simp at hc0
     have hcells : ∀ j, j < xs.length + 1 → w.cell? ⟨ad.block, ad.off + j, none⟩ = some (.int .u32 ((xs ++ [top])[j]?.getD 0 : Nat)) := by
      intro j hj
      obtain ⟨ad', h1, _, h2⟩ := hcell j 0 _ (hc2 j hj)
      cases h1
      have h3 := hr j 0 _ (hc2 j hj)
      rw [hsp, add_lit, Nat.mul_one, Nat.add_zero] at h2
      rw [h2]
      generalize c j 0 = u at h3 ⊢
      cases h3
      rfl
     have hx := text_in (some ad) xs top cap (by rw [hlr] at hlen; omega) htop hxs w ad.block ad.off (by rw [← hsp]) (hfz _ hFz) (by rw [hlr] at hc; exact hc) hcells htab
     rw [hlr]
     refine (callsIn_wide.1 hx).mono ?_
     rintro e w' ⟨rfl, hb⟩
     refine hnext _ _ (below_post hb rfl ?_ rfl)
     rw [decN_eq, ← out_dec hxs ht0]
   ·cases hF
  ·cases hF
 ·cases hF
end Go.PE
namespace Go.PE
open Go.RowKit Go.Proofs.Tryz
set_option maxRecDepth 100000
variable {k : Nat}
def eu (a b : Nat) : Nat := if b = 0 then 0 else 1 + 2 * Nat.log2 (a * b) + (if a < b then 1 else 0)
theorem log2_half {x y : Nat} (hx : x ≠ 0) (h : 2 * x ≤ y) : Nat.log2 x < Nat.log2 y := by
 have h1 : 2 ^ Nat.log2 x ≤ x := Nat.log2_self_le hx
 have h2 : 2 ^ (Nat.log2 x + 1) ≤ y := by rw [Nat.pow_succ]; omega
 exact (Nat.le_log2 (by omega)).2 h2
theorem eu_step {a b : Nat} (hb : b ≠ 0) : eu b (a % b) < eu a b := by
 have hlt := Nat.mod_lt a (show 0 < b by omega)
 unfold eu
 rw [if_neg hb]
 by_cases hr : a % b = 0
 ·rw [if_pos hr]; omega
 ·rw [if_neg hr]
  rw [if_neg (show ¬ b < a % b by omega)]
  by_cases hab : a < b
  ·rw [if_pos hab, Nat.mod_eq_of_lt hab, Nat.mul_comm b a]; omega
  ·rw [if_neg hab]
   have h1 : 2 * (a % b) ≤ a := by
    have := Nat.div_add_mod a b
    have h2 : 1 ≤ a / b := Nat.div_pos (by omega) (by omega)
    have := Nat.mul_le_mul_left b h2
    omega
   have : Nat.log2 (b * (a % b)) < Nat.log2 (a * b) := log2_half (Nat.mul_ne_zero hb hr) (by
    have := Nat.mul_le_mul_left b h1
    rw [Nat.mul_comm a b]
    have e : 2 * (b * (a % b)) = b * (2 * (a % b)) := by rw [Nat.mul_left_comm]
    omega)
   omega
theorem log2_lt_ln (a : Nat) : Nat.log2 a ≤ 30 * ln a := by
 by_cases h : a = 0
 ·subst h; simp
 ·have h1 : a < 2 ^ (30 * ln a + 1) := by
   refine Nat.lt_of_lt_of_le (lt_ln a) ?_
   have h2 : (1000000000 : Nat) ^ ln a ≤ (2 ^ 30) ^ ln a := Nat.pow_le_pow_left (by omega) _
   rw [← Nat.pow_mul] at h2
   rw [Nat.pow_succ]
   omega
  have := (Nat.log2_lt h).2 h1
  omega
theorem gcd_T (a b : Nat) (ha : ln a < 16777216) (hb : ln b < 16777216) : T (k + 4) 232 [.imm 1 (row (limbs a)), .imm 1 (row (limbs b))] = some (.imm 1 (row (limbs (Nat.gcd a b))), []) := by
 refine enter rfl func232 rfl (by decide) (by kernel_rfl) rfl rfl ?_
 refine zs0 ?_
 refine W.loop (fun e m => ∃ (x y : Nat), e = [(0, .imm 1 (row (limbs x))), (1, .imm 1 (row (limbs y)))] ∧ ln x < 16777216 ∧ ln y < 16777216 ∧ Nat.gcd x y = Nat.gcd a b ∧ m = eu x y) (eu a b) ?_ ?_ ?_
 ·exact ⟨a, b, rfl, ha, hb, rfl, rfl⟩
 ·have h1 := log2_lt_ln (a * b)
  have h2 := ln_mul a b
  have h3 : eu a b ≤ 2 + 2 * Nat.log2 (a * b) := by
   unfold eu; split
   ·omega
   ·split <;> omega
  show _ < 4611686018427387904; omega
 ·rintro e m ⟨x, y, rfl, hx, hy, hg, rfl⟩
  refine zs0 ?_
  refine W.cond rfl (fun hc => ?_) (fun hc => ?_)
  ·have hc := of_decide_eq_true hc
   rw [row_len] at hc
   have hy0 : y ≠ 0 := by
    rintro rfl
    rw [limbs_zero] at hc
    simp at hc
   refine zs1 (quoRem_T x y hx hy hy0) ?_
   show ∃ m', _
   refine ⟨eu y (x % y), eu_step hy0, y, x % y, rfl, hy, ?_, ?_, rfl⟩
   ·have := ln_mono (Nat.mod_le x y); omega
   ·rw [Nat.gcd_comm, ← Nat.gcd_rec, Nat.gcd_comm]; exact hg
  ·have hc := of_decide_eq_false hc
   rw [row_len] at hc
   have hy0 : y = 0 := by
    have : (limbs y).length = 0 := by omega
    exact limbs_eq_nil.1 (List.length_eq_zero_iff.1 this)
   subst hy0
   refine zs0 ?_
   rw [← hg, Nat.gcd_zero_right]
   rfl
theorem divisor_T (a b : Nat) (ha : a < 4611686018427387904) (hb : b < 4611686018427387904) : T (k + 1) 186 [.int .i64 a, .int .i64 b] = some (.int .i64 (Nat.gcd a b : Nat), []) := by
 refine enter rfl func186 rfl (by decide) (by kernel_rfl) rfl rfl ?_
 refine zs0 ?_
 refine W.loop (fun e m => ∃ (x y : Nat), e = [(0, .int .i64 x), (1, .int .i64 y)] ∧ Nat.gcd x y = Nat.gcd a b ∧ m = y) b ?_ ?_ ?_
 ·exact ⟨a, b, rfl, rfl, rfl⟩
 ·show _ < 4611686018427387904; omega
 ·rintro e m ⟨x, y, rfl, hg, rfl⟩
  refine zs0 ?_
  refine W.cond rfl (fun hc => ?_) (fun hc => ?_)
  ·have hc := of_decide_eq_true hc
   have hy0 : m ≠ 0 := by
    have : (m : Int) ≠ 0 := hc
    omega
   refine zd8 ?_
   refine wD te rfl rfl (by omega) ?_
   rw [tmodN]
   refine zd7 ?_
   show ∃ m', _
   refine ⟨x % m, Nat.mod_lt _ (by omega), m, x % m, rfl, ?_, rfl⟩
   rw [Nat.gcd_comm, ← Nat.gcd_rec, Nat.gcd_comm]; exact hg
  ·have hc := of_decide_eq_false hc
   have hy0 : m = 0 := by
    have : ¬ (m : Int) ≠ 0 := hc
    omega
   subst hy0
   refine zs0 ?_
   rw [← hg, Nat.gcd_zero_right]
   rfl
end Go.PE
