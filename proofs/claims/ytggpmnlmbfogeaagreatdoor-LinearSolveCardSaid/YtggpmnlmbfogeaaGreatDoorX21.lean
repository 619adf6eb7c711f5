/-
  A part of the proof that the law's function returns true and leaves its arguments as they were, for every input (no condition): own lemmas of the proof, in the order of their use.
-/
import Derived.Test.YtggpmnlmbfogeaaGreatDoorX10
import Derived.ChangeArms
import Derived.WideShapes
import Derived.ChangeShapes
import GoSem.ClaimJoined
import Derived.Test.YtggpmnlmbfogeaaGreatDoorX13
import Derived.Lib.ItoaNum
import Derived.Test.YtggpmnlmbfogeaaGreatDoorRows
import Derived.ProofKit
import Derived.LaidMore
import Derived.OpenShut
import Derived.Stop.Joined
import Derived.Lib.LaidTab
import Derived.Carry
import Derived.Test.YtggpmnlmbfogeaaGreatDoorX19
set_option linter.all false
namespace Go.PE
open Go.RowKit
inductive Ty where
 | int (k : IntKind)
 | bool
 | str
 | sl (sz : Nat) (t : Ty)
 | pair (a b : Ty)
 | unit
def Ty.size : Ty → Nat
 | .pair a b => a.size + b.size
 | .unit => 0
 | _ => 1
def shape : Ty → List PV → Prop
 | .int k, ps => ∃ n, ps = [.int k n] ∧ (Lit.int k n).wf = true
 | .bool, ps => ∃ b, ps = [.bool b]
 | .str, ps => ∃ s : List UInt8, ps = [.str s] ∧ s.length ≤ reachBytes
 | .sl sz t, ps => ∃ xs : List (List PV), ps = [.imm sz xs] ∧ xs.length ≤ reachBytes ∧ ∀ x ∈ xs, shape t x
 | .pair a b, ps => ∃ p q, ps = p ++ q ∧ shape a p ∧ shape b q
 | .unit, ps => ps = []
theorem shape_len : ∀ {t : Ty} {ps : List PV}, shape t ps → ps.length = t.size
 | .int _, _, ⟨_, h, _⟩ => by rw [h]; rfl
 | .bool, _, ⟨_, h⟩ => by rw [h]; rfl
 | .str, _, ⟨_, h, _⟩ => by rw [h]; rfl
 | .sl _ _, _, ⟨_, h, _⟩ => by rw [h]; rfl
 | .pair a b, _, ⟨p, q, h, h1, h2⟩ => by rw [h, List.length_append, shape_len h1, shape_len h2]; rfl
 | .unit, _, h => by
  have h : _ = [] := h
  rw [h]; rfl
section
variable (P : Program)
def fitF (g : TypeId → Ty → Bool) : List Field → Nat → Nat → Ty → Bool
 | [], off, tot, .unit => off == tot
 | f :: l, off, tot, .pair a b => f.offset == off && P.cellsOf f.type == a.size && g f.type a && fitF g l (off + a.size) tot b
 | _, _, _, _ => false
def fits : Nat → TypeId → Ty → Bool
 | 0, _, _ => false
 | n + 1, t, ty => match P.underlying t, ty with
  | some .bool, .bool => true
  | some (.int k), .int k' => decide (k = k')
  | some .string, .str => true
  | some (.slice e), .sl sz a => P.cellsOf e == sz && a.size == sz && Nat.blt 0 (P.bytesOf e) && fits n e a
  | some (.struct fs), ty => fitF P (fits n) fs.toList 0 (P.cellsOf t) ty
  | _, _ => false
end
theorem ImmL.append {w : World} {Fz : Nat → Prop} {a b : List Value} {p q : List PV} (h1 : ImmL w Fz a p) (h2 : ImmL w Fz b q) : ImmL w Fz (a ++ b) (p ++ q) := by
 refine ⟨by rw [List.length_append, List.length_append, h1.1, h2.1], fun i v x hv hx => ?_⟩
 by_cases hi : i < a.length
 ·rw [List.getElem?_append_left hi] at hv
  rw [List.getElem?_append_left (by rw [← h1.1]; exact hi)] at hx
  exact h1.2 i v x hv hx
 ·rw [List.getElem?_append_right (by omega)] at hv
  rw [List.getElem?_append_right (by rw [← h1.1]; omega), ← h1.1] at hx
  exact h2.2 _ v x hv hx
theorem ImmL.sg {w : World} {Fz : Nat → Prop} {v : Value} {q : PV} (h : Imm w Fz v q) : ImmL w Fz [v] [q] := by
 refine ⟨rfl, fun i v' p hv hp => ?_⟩
 cases i with
 | zero => simp only [List.getElem?_cons_zero, Option.some.injEq] at hv hp; subst hv hp; exact h
 | succ i => simp at hv
theorem list_choose {α : Type} {Q : Nat → α → Prop} : ∀ (n : Nat), (∀ i, i < n → ∃ x, Q i x) → ∃ xs : List α, xs.length = n ∧ ∀ i x, xs[i]? = some x → Q i x
 | 0, _ => ⟨[], rfl, fun i x h => by simp at h⟩
 | n + 1, h => by
  obtain ⟨xs, hl, hx⟩ := list_choose n fun i hi => h i (by omega)
  obtain ⟨y, hy⟩ := h n (by omega)
  refine ⟨xs ++ [y], by simp [hl], fun i x hi => ?_⟩
  by_cases hin : i < n
  ·rw [List.getElem?_append_left (by omega)] at hi
   exact hx i x hi
  ·rw [List.getElem?_append_right (by omega)] at hi
   have : i - xs.length = 0 := by
    have := (List.getElem?_eq_some_iff.1 hi).1
    simp at this; omega
   rw [this] at hi
   simp only [List.getElem?_cons_zero, Option.some.injEq] at hi
   have : i = n := by omega
   subst this hi
   exact hy
theorem cell_lt {w : World} {a : Addr} {v : Value} (h : w.cell? a = some v) : a.block < w.heap.size := by
 unfold World.cell? at h
 by_cases hb : a.block < w.heap.size
 ·exact hb
 ·rw [Array.getElem?_eq_none (by omega)] at h
  cases h
section
variable {H : Type} {enc : TypeId × Value → H} {P : Program} {w : World} {base : Nat} {spare : Nat → Bool} {held : Bool}
theorem all_sub {a b : List Nat} (h : ∀ n ∈ a, n ∈ b) (hb : b.all (· ≤ reachBytes) = true) : a.all (· ≤ reachBytes) = true := by
 rw [List.all_eq_true] at hb ⊢
 exact fun n hn => hb n (h n hn)
theorem weightsAll_mem {e : TypeId} : ∀ {l : List (DataW H)} {d : DataW H}, d ∈ l → ∀ n ∈ d.weights P e, n ∈ DataW.weightsAll P e l
 | x :: l, d, h, n, hn => by
  rw [DataW.weightsAll, List.mem_append]
  rcases List.mem_cons.1 h with rfl | h
  ·exact .inl hn
  ·exact .inr (weightsAll_mem h n hn)
theorem tr_imm : ∀ (fuel : Nat) (t : TypeId) (cs : List Value) (x : DataW H × List MemPlace), DataW.trod enc P w base spare held fuel t cs = some x → (x.1.weights P t).all (· ≤ reachBytes) = true →
  ∀ (n : Nat) (ty : Ty), fits P n t ty = true → ∃ ps, shape ty ps ∧ ImmL w (fun b => b < w.heap.size) cs ps := by
 intro fuel
 induction fuel using Nat.strongRecOn with
 | _ fuel ih =>
 intro t cs x h hwt n ty hf
 cases n with
 | zero => simp [fits] at hf
 | succ n =>
  unfold fits at hf
  split at hf
  ·rename_i ht
   obtain ⟨b, rfl, _⟩ := DataW.trod_bool ht h
   exact ⟨[.bool b], ⟨b, rfl⟩, ImmL.sg (.bool b)⟩
  ·rename_i k k' ht
   have hk : k = k' := by simpa using hf
   subst hk
   obtain ⟨m, rfl, _, hw⟩ := DataW.trod_int ht h
   exact ⟨[.int k m], ⟨m, rfl, hw⟩, ImmL.sg (.int k m)⟩
  ·rename_i ht
   obtain ⟨s, rfl, rfl, hs⟩ := DataW.trod_string ht h
   exact ⟨[.str s.data.toList], ⟨_, rfl, by simpa [DataW.weights] using hwt⟩, ImmL.sg (.str s)⟩
  ·rename_i e sz a ht
   simp only [Bool.and_eq_true, beq_iff_eq] at hf
   obtain ⟨⟨⟨hsz, hasz⟩, hby⟩, hfe⟩ := hf
   rcases DataW.trod_slice ht h with ⟨rfl, _⟩ | ⟨ad, len, cap, elems, rest, m, rfl, rfl, rfl, hb, hlc, hcm, hlen, hel, _, _⟩
   ·exact ⟨[.imm sz []], ⟨[], rfl, Nat.zero_le _, by simp⟩, ImmL.sg (.imm none 0 0 sz [] (fun _ _ => undef) rfl (Nat.le_refl _) (by simp) (fun i j p hp => by simp [cell2] at hp) (fun i j p hp => by simp [cell2] at hp))⟩
   ·simp only [DataW.weights, ht, List.all_cons, Bool.and_eq_true, decide_eq_true_eq, List.all_append, List.length_map] at hwt
    have hlenB : len ≤ reachBytes := by
     have h1 : 0 < P.bytesOf e := by
      simp only [Nat.blt, Nat.ble_eq] at hby
      omega
     have h2 := Nat.le_mul_of_pos_right (elems.length + rest.length) h1
     omega
    have each : ∀ i, i < len → ∃ ps : List PV, shape a ps ∧ ∃ cs : List Value, cs.length = sz ∧ (∀ j, j < sz → w.cell? (ad.add (i * sz + j)) = cs[j]?) ∧ ImmL w (fun b => b < w.heap.size) cs ps := by
     intro i hi
     have h1 := hel i hi
     have hie : i < elems.length := by omega
     rw [List.getElem?_eq_getElem hie] at h1
     obtain ⟨cs, h2, h3⟩ := Option.bind_eq_some_iff.1 h1
     obtain ⟨ps, h4, h5⟩ := ih m (by omega) e cs _ h3 (all_sub (weightsAll_mem (l := elems.map (·.1)) (List.mem_map.2 ⟨_, List.getElem_mem hie, rfl⟩)) hwt.2.1) n a hfe
     obtain ⟨_, k2, k3⟩ := World.cells?_some h2
     refine ⟨ps, h4, cs, by rw [← hsz]; exact k2, fun j hj => ?_, h5⟩
     have := k3 j (by rw [hsz]; exact hj)
     rw [hsz, add_add] at this
     exact this
    obtain ⟨xs, hxl, hxs⟩ := list_choose len each
    refine ⟨[.imm sz xs], ⟨xs, rfl, by omega, fun y hy => ?_⟩, ImmL.sg (.imm (some ad) len cap sz xs (fun i j => (w.cell? (ad.add (i * sz + j))).getD undef) hxl hlc (fun y hy => ?_) (fun i j p hp => ?_) (fun i j p hp => ?_))⟩
    ·obtain ⟨i, hi⟩ := List.getElem?_of_mem hy
     exact (hxs i y hi).1
    ·obtain ⟨i, hi⟩ := List.getElem?_of_mem hy
     rw [shape_len (hxs i y hi).1]; exact hasz
    ·obtain ⟨y, hy, hp⟩ := Option.bind_eq_some_iff.1 hp
     obtain ⟨_, cs, k1, k2, k3⟩ := hxs i y hy
     have hj : j < sz := by
      have := (List.getElem?_eq_some_iff.1 hp).1
      rw [← k3.1, k1] at this; exact this
     have h1 := k2 j hj
     rw [List.getElem?_eq_getElem (by omega)] at h1
     refine ⟨ad, rfl, ?_, ?_⟩
     ·have := cell_lt h1
      rw [add_block] at this; exact this
     ·rw [h1]; rfl
    ·obtain ⟨y, hy, hp⟩ := Option.bind_eq_some_iff.1 hp
     obtain ⟨_, cs, k1, k2, k3⟩ := hxs i y hy
     have hj : j < sz := by
      have := (List.getElem?_eq_some_iff.1 hp).1
      rw [← k3.1, k1] at this; exact this
     have h1 := k2 j hj
     rw [List.getElem?_eq_getElem (by omega)] at h1
     rw [h1]
     exact k3.2 j _ p (List.getElem?_eq_getElem (by omega)) hp
  ·rename_i ty _ _ fs ht
   obtain ⟨xs, m, rfl, rfl, hlen, hxl, hx⟩ := DataW.trod_struct ht h
   simp only [DataW.weights, ht] at hwt
   have go : ∀ (l : List Field) (ys : List (DataW H × List MemPlace)) (off : Nat) (ty : Ty), l.length = ys.length → (∀ (i : Nat) f, l[i]? = some f → DataW.trod enc P w base spare held m f.type ((cs.drop f.offset).take (P.cellsOf f.type)) = ys[i]?) →
     (DataW.weightsEach P (l.map (·.type)) (ys.map (·.1))).all (· ≤ reachBytes) = true → fitF P (fits P n) l off (P.cellsOf t) ty = true →
     ∃ ps, shape ty ps ∧ ImmL w (fun b => b < w.heap.size) (cs.drop off) ps := by
    intro l
    induction l with
    | nil =>
     intro ys off ty _ _ _ hf
     cases ty <;> simp [fitF] at hf
     refine ⟨[], rfl, ?_⟩
     rw [List.drop_of_length_le (by omega)]
     exact ⟨rfl, fun i v p hv => by simp at hv⟩
    | cons f l ihl =>
     intro ys off ty hll hl hwt hf
     cases ys with
     | nil => simp at hll
     | cons y ys =>
     cases ty <;> simp [fitF] at hf
     rename_i a b
     obtain ⟨⟨⟨h1, h2⟩, h3⟩, h4⟩ := hf
     have hy := hl 0 f rfl
     rw [List.getElem?_cons_zero] at hy
     simp only [List.map_cons, DataW.weightsEach, List.all_append, Bool.and_eq_true] at hwt
     obtain ⟨p, k1, k2⟩ := ih m (by omega) f.type _ y hy hwt.1 n a h3
     obtain ⟨q, j1, j2⟩ := ihl ys (off + a.size) b (by simpa using hll) (fun i f hf => by
      have := hl (i + 1) f (by simpa using hf)
      simpa using this) hwt.2 h4
     refine ⟨p ++ q, ⟨p, q, rfl, k1, j1⟩, ?_⟩
     rw [h1, h2] at k2
     have := k2.append j2
     rw [← List.drop_drop, List.take_append_drop] at this
     exact this
   obtain ⟨ps, k1, k2⟩ := go fs.toList xs 0 ty (by simpa using hxl.symm) (fun i f hf => hx i f (by simpa using hf)) hwt hf
   exact ⟨ps, k1, by simpa using k2⟩
  ·cases hf
theorem arg_agg {r : Reach} {b0 : Nat} {t : TypeId} {fs : Array Field} {v : Value} {d : DataW H} {ps : List MemPlace} {ty : Ty} (ht : P.underlying t = some (.struct fs)) (hval : Value.okWide P w r b0 t v) (hd : DataW.Trod enc P w base spare held t v d ps) (hwt : (d.weights P t).all (· ≤ reachBytes) = true)
  (hf : fits P 8 t ty = true) : ∃ qs, shape ty qs ∧ Rep w (fun b => b < w.heap.size) v (.agg qs) [] := by
 unfold Value.okWide at hval
 rw [ht] at hval
 obtain ⟨cs, rfl, _⟩ := hval
 obtain ⟨fuel, hd⟩ := hd
 obtain ⟨qs, h1, h2⟩ := tr_imm fuel t _ _ hd hwt 8 ty hf
 exact ⟨qs, h1, .agg cs qs h2⟩
theorem arg_cell {t : TypeId} {v : Value} {d : DataW H} {ps : List MemPlace} {ty : Ty} (hv : v.cells = #[v]) (hd : DataW.Trod enc P w base spare held t v d ps) (hwt : (d.weights P t).all (· ≤ reachBytes) = true)
  (hf : fits P 8 t ty = true) : ∃ qs, shape ty qs ∧ ∀ q, qs = [q] → Rep w (fun b => b < w.heap.size) v q [] := by
 obtain ⟨fuel, hd⟩ := hd
 rw [hv] at hd
 obtain ⟨qs, h1, h2⟩ := tr_imm fuel t _ _ hd hwt 8 ty hf
 exact ⟨qs, h1, fun q hq => .plain (h2.2 0 v q rfl (by rw [hq]; rfl))⟩
end
end Go.PE
namespace Go.PE
open Go.RowKit Go.Proofs Go.Proofs.Tryz Go.ChangeShapes Go.WideShapes Go.ChangeAt
set_option maxRecDepth 100000
theorem gPow : prog.globalNamed "internal/strconv.uint64pow10" = some 0 := by kernel_rfl
theorem glob_of_tab {W : World} {cs : Array Value} (hv : W.var? prog "internal/strconv.uint64pow10" = some cs) (hcs : cs.toList = Lib.pow10Tab.map fun z => Value.int .u64 z) : Glob W (fun b => b < W.heap.size) := by
 unfold World.var? at hv
 rw [gPow, Option.bind_some] at hv
 split at hv
 ·rename_i cs' e r hh
  simp only [Option.some.injEq] at hv
  subst hv
  have h0 : 0 < W.heap.size := by
   rcases Nat.lt_or_ge 0 W.heap.size with h | h
   ·exact h
   ·rw [Array.getElem?_eq_none h] at hh; cases hh
  have hsz : cs'.size = 20 := by
   have := congrArg List.length hcs
   simpa [Lib.pow10Tab] using this
  refine ⟨fun g hg => ?_, h0, cs', e, r, hh, hsz⟩
  unfold globPV at hg ⊢
  split at hg
  ·refine Imm.iptr (w := W) (Fz := fun b => b < W.heap.size) ⟨0, 0, none⟩ _ 0 (fun j => .int .u64 (10 ^ j : Nat)) (fun j p hp => ⟨h0, ?_⟩) (fun j p hp => ?_)
   ·have hj : j < 20 := by
     have := (List.getElem?_eq_some_iff.1 hp).1
     simpa using this
    rw [add_lit, Nat.zero_add]
    simp only [World.cell?, hh, Option.isSome_none, Bool.false_eq_true, if_false]
    have h2 : cs'[j]? = cs'.toList[j]? := by simp
    rw [h2, hcs]
    simp [Lib.pow10Tab, hj]
   ·have hj : j < 20 := by
     have := (List.getElem?_eq_some_iff.1 hp).1
     simpa using this
    have : p = .int .u64 (10 ^ j : Nat) := by
     simpa [hj] using hp.symm
    rw [this]
    exact .int .u64 _
  ·simp [okC] at hg
 ·cases hv
def laid5 : List (String × DataW Unit) := [("math/bits.deBruijn32tab", YtggpmnlmbfogeaaGreatDoor.Rows.laid_math_bits_deBruijn32tab), ("math/bits.deBruijn64tab", YtggpmnlmbfogeaaGreatDoor.Rows.laid_math_bits_deBruijn64tab), ("internal/strconv.uint64pow10", YtggpmnlmbfogeaaGreatDoor.Rows.laid_internal_strconv_uint64pow10), ("strconv.ErrRange", YtggpmnlmbfogeaaGreatDoor.Rows.laid_strconv_ErrRange), ("strconv.ErrSyntax", YtggpmnlmbfogeaaGreatDoor.Rows.laid_strconv_ErrSyntax)]
theorem tPow : (prog.globals[0]?).map (·.type) = some 301 := by kernel_rfl
theorem glob_of_laid {W : World} (h : laidMetH prog laid5 W) : Glob W (fun b => b < W.heap.size) := by
 rw [MakeChecks.laidMetH_plain _ _ _ (by kernel_rfl)] at h
 obtain ⟨ps, ⟨g0, t0, cs0, f0, p0, q0, hg0, ht0, hv0, hd0, ⟨g1, t1, cs1, f1, p1, q1, hg1, ht1, hv1, hd1, ⟨g2, t2, cs2, f2, p2, q2, hg2, ht2, hv2, hd2, _, _⟩, _⟩, _⟩, _, _⟩ := h
 obtain rfl := Option.some.inj (gPow.symm.trans hg2)
 obtain rfl := Option.some.inj (tPow.symm.trans ht2)
 have he : (YtggpmnlmbfogeaaGreatDoor.Rows.laid_internal_strconv_uint64pow10 : DataW Unit) = Lib.tabData .u64 Lib.pow10Tab := by kernel_rfl
 rw [he] at hd2
 exact glob_of_tab hv2 (Lib.cells_of_tab underlying301 underlying233 (by kernel_rfl) (by kernel_rfl) hd2)
theorem door_met (os : Os) (args : Array Value) : laidMetH prog laid5 ((World.doorLaid prog 400 os).forCall (fun _ _ => 0) ⟨#[], args, []⟩).memory :=
 laidMetH_of_parts3 (fuel := 8) (laidMet_of_run' 8 (by kernel_rfl) (by kernel_rfl)) (by kernel_rfl) (by kernel_rfl)
end Go.PE
namespace Go.PE
open Go.RowKit Go.Proofs Go.Proofs.Tryz Go.ChangeShapes Go.WideShapes Go.ChangeAt
set_option maxRecDepth 100000
theorem laidOut_ok : laidOutB prog = true := by kernel_rfl
section
variable {H : Type} {enc : TypeId × Value → H}
theorem carryAll {W W' : World} (hb : Below W.heap.size W W') : ∀ {ts : List TypeId} {vs : List Value} {ds : List (DataW H)} {ps : List MemPlace},
  (∀ t ∈ ts, prog.readableRec t = true ∧ t < prog.types.size) → DataW.TrodAll enc prog W 0 (fun _ => true) true ts vs ds ps → (∀ x ∈ ps, x.block < W.heap.size) →
  DataW.TrodAll enc prog W' 0 (fun b => decide (b < W.heap.size)) true ts vs ds ps
 | [], [], [], ps, _, h, _ => h
 | t :: ts, v :: vs, d :: ds, ps, ht, ⟨p, q, h1, h2, he⟩, hlt => by
  subst he
  exact ⟨p, q, Below.trod laidOut_ok (ht t (by simp)).1 (ht t (by simp)).2 h1 hb (fun x hx => hlt x (by simp [hx])),
   carryAll hb (fun t' ht' => ht t' (by simp [ht'])) h2 (fun x hx => hlt x (by simp [hx])), rfl⟩
 | [], _ :: _, _, _, _, h, _ => h.elim
 | [], [], _ :: _, _, _, h, _ => h.elim
 | _ :: _, [], _, _, _, h, _ => h.elim
 | _ :: _, _ :: _, [], _, _, h, _ => h.elim
theorem law_post {fn : Func} {s : ChangeSpec} {W W' : World} {args : Array Value} {ds gs : List (DataW H)} {before : List MemPlace} (hvars : s.vars = []) (hres : fn.resultTypes = #[4])
  (hfn : ∀ ds : List (DataW H), ds.length = fn.params.size → s.fn H ds = { results := [.lit (.bool true)], args := ds }) (hread : ∀ t ∈ fn.params.toList, prog.readableRec t = true ∧ t < prog.types.size)
  (hW : DataW.Whole enc prog fn.params.toList s.vars false W args.toList ds gs before) (hb : Below W.heap.size W W') : s.post enc prog fn false true false false W args (.bool true) W' := by
 have hW' := hW
 obtain ⟨p, q, hA, hV, rfl, hfz, hnd⟩ := hW
 rw [hvars] at hV
 obtain ⟨rfl, rfl⟩ : gs = [] ∧ q = [] := by
  cases gs with
  | nil => exact ⟨rfl, hV⟩
  | cons g r => exact absurd hV (by intro h; cases h)
 have hlen : ds.length = fn.params.size := by
  have : ∀ {ts : List TypeId} {vs : List Value} {ds : List (DataW H)} {ps : List MemPlace}, DataW.TrodAll enc prog W 0 (fun _ => true) true ts vs ds ps → ds.length = ts.length := by
   intro ts
   induction ts with
   | nil => intro vs ds ps h; cases vs <;> cases ds <;> first | rfl | exact h.elim
   | cons t ts ih =>
    intro vs ds ps h
    cases vs with
    | nil => exact h.elim
    | cons v vs =>
     cases ds with
     | nil => exact h.elim
     | cons d ds =>
      obtain ⟨_, _, _, h2, _⟩ := h
      simp [ih h2]
  simpa using this hA
 have e1 := hfn ds hlen
 have e2 : s.fn H (ds ++ []) = { results := [.lit (.bool true)], args := ds } := by rw [List.append_nil]; exact e1
 refine ⟨ds, [], _, [], p, [], hW', ?_, ?_, ?_, hb.frame _, fun h => by cases h⟩
 ·rw [e2, hres]
  exact trodAll_mk1 (shut_bool underlying4 true)
 ·rw [e2]
  exact carryAll hb hread hA (fun x hx => hW'.lt x (by simpa using hx))
 ·rw [hvars, e2]; rfl
theorem calls_of_meets {f : FuncId} {fn : Func} {c : Code} (hf : prog.funcs[f]? = some fn) (hc : fn.body = some c) (hn : fn.name ≠ "runtime.NumGoroutine") {F : List PV → Option (PV × List (List PV))} (hM : MeetsN prog f F)
  {W : World} {args : Array Value} {avs : List PV} {b : Bool} (hgl : Glob W (fun b => b < W.heap.size)) (hreps : Reps W (fun b => b < W.heap.size) args.toList avs []) (hF : F avs = some (.bool b, [])) :
  Calls prog f args W fun e W' => e = .returned (.bool b) ∧ Below W.heap.size W W' := by
 have h := hM W (fun b => b < W.heap.size) args avs [] (.bool b) [] hgl (fun _ h => h) List.nodup_nil (by simp) hreps hF
  { dst := some 0, op := .move (.tmp 0), type := 0, pos := "", after := #[], guard := none } { tmps := #[undef], defers := [] } (fun a W' => a.tmps[0]? = some (.bool b) ∧ Below W.heap.size W W') (fun _ _ _ => False)
  (fun u W' hp => by
   obtain ⟨hos, htape, hout, hsize, hheap, _, Fz', bsr, bss, _, _, _, _, hru, _⟩ := hp
   refine ⟨?_, hos, htape, hout, hsize, fun k hk => hheap k hk (by simp)⟩
   have hi := hru.imm rfl
   cases hi
   rfl)
 have henter : (callFunc f args).run prog W = .ok (.enter f args) W := by
  simp [callFunc, hf, hn, hc]
 rw [henter, Oper.upon_enter] at h
 refine h.mono fun e W' he => ?_
 cases e with
 | returned v =>
  obtain ⟨h1, h2⟩ := he
  refine ⟨?_, h2⟩
  have : (Act.put { tmps := #[undef], defers := [] } (some 0) v).tmps[0]? = some v := rfl
  rw [this] at h1
  cases h1
  rfl
 | panicked chain => exact he.elim
 | outgrown =>
  obtain ⟨_, _, h⟩ := he
  exact h.elim
end
end Go.PE
namespace Go.PE
open Go.RowKit Go.Proofs.Tryz
set_option maxRecDepth 100000
variable {k : Nat}
def smP (neg : Bool) (num den : Bs) (frac : Bool) : Int × Int × Bool :=
 if 9 < num.length then (0, 0, false) else if 9 < den.length then (0, 0, false) else if numeral num = false then (0, 0, false) else if num = [48] ∧ (neg = true ∨ frac = true) then (0, 0, false) else
 if frac = true then (if numeral den = false then (0, 0, false) else if val den < 2 then (0, 0, false) else if Nat.gcd (val num) (val den) ≠ 1 then (0, 0, false) else (sg neg (val num), val den, true))
 else (sg neg (val num), 1, true)
theorem numeral_all {s : Bs} (h : numeral s = true) : s.all isDg = true := by
 unfold numeral at h; rw [Bool.and_eq_true] at h; exact h.1
theorem numeral_ne {s : Bs} (h : numeral s = true) : s ≠ [] := by
 rintro rfl; revert h; decide
theorem val_lt9 {s : Bs} (h : s.all isDg = true) (hl : s.length ≤ 9) : val s < 1000000000 := by
 have := val_lt h
 exact Nat.lt_of_lt_of_le this (Nat.pow_le_pow_right (n := 10) (by omega) hl)
theorem wneg (n : Nat) (h : n < 1000000000) : IntKind.i64.wrap (0 - (n : Int)) = sg true n := by
 rw [wrap_i64 (by omega) (by omega)]; show _ = -(n : Int); omega
theorem smallP_T (a m num den : Bs) (neg frac : Bool) (h1 : T (k + 4) 106 [.str a, .str [45]] = some (.tup [.str m, .bool neg], [])) (h2 : T (k + 4) 229 [.str m, .str [47]] = some (.tup [.str num, .str den, .bool frac], []))
  (hnum : num.length < 4611686018427387904) (hden : den.length < 4611686018427387904) :
  T (k + 5) 163 [.str a] = some (.tup [.agg [.int .i64 (smP neg num den frac).1, .int .i64 (smP neg num den frac).2.1], .bool (smP neg num den frac).2.2], []) := by
 have h3 := numeral_T (k := k + 3) num hnum
 have h4 := numeral_T (k := k + 3) den hden
 refine enter rfl func163 rfl (by decide) (by kernel_rfl) rfl rfl ?_
 refine zs1 h1 ?_
 refine zs2 h2 ?_
 refine WX.boolM rfl rfl (fun b1 => ?_) (fun b1 => ?_)
 ·have b1 := of_decide_eq_true b1
  refine zs0 ?_
  have : smP neg num den frac = (0, 0, false) := by unfold smP; rw [if_pos (by omega)]
  rw [this]
  rfl
 ·have b1 := of_decide_eq_false b1
  refine zs0 ?_
  refine WX.boolM rfl rfl (fun b2 => ?_) (fun b2 => ?_)
  ·have b2 := of_decide_eq_true b2
   refine zs0 ?_
   have : smP neg num den frac = (0, 0, false) := by unfold smP; rw [if_neg (by omega), if_pos (by omega)]
   rw [this]
   rfl
  ·have b2 : ¬ (9 : Int) < den.length := of_decide_eq_false b2
   refine zs1 h3 ?_
   refine WX.boolM rfl rfl (fun b3 => ?_) (fun b3 => ?_)
   ·have b3 : numeral num = false := by cases h : numeral num <;> simp_all
    refine zs0 ?_
    have : smP neg num den frac = (0, 0, false) := by unfold smP; rw [if_neg (by omega), if_neg (by omega), if_pos b3]
    rw [this]
    rfl
   ·have b3 : numeral num = true := by cases h : numeral num <;> simp_all
    refine zs0 ?_
    have h5 := parseInt_T (k := k + 1) num (numeral_all b3) (numeral_ne b3) (by omega)
    have v5 := val_lt9 (numeral_all b3) (by omega)
    refine WX.boolM rfl rfl (fun b4 => ?_) (fun b4 => ?_)
    ·have b4 := of_decide_eq_true b4
     cases neg
     ·cases frac
      ·refine zs1 h5 ?_
       have : smP false num den false = ((val num : Int), 1, true) := by
        unfold smP; rw [if_neg (by omega), if_neg (by omega), if_neg (by simp [b3]), if_neg (by simp)]; rfl
       rw [this]
       rfl
      ·refine zs0 ?_
       have : smP false num den true = (0, 0, false) := by unfold smP; rw [if_neg (by omega), if_neg (by omega), if_neg (by simp [b3]), if_pos ⟨b4, Or.inr rfl⟩]
       rw [this]
       rfl
     ·refine zs0 ?_
      have : smP true num den frac = (0, 0, false) := by unfold smP; rw [if_neg (by omega), if_neg (by omega), if_neg (by simp [b3]), if_pos ⟨b4, Or.inl rfl⟩]
      rw [this]
      rfl
    ·have b4 := of_decide_eq_false b4
     refine zs0 ?_
     refine zs3 h5 ?_
     cases frac
     ·refine zs0 ?_
      have : smP neg num den false = (sg neg (val num), 1, true) := by
       unfold smP; rw [if_neg (by omega), if_neg (by omega), if_neg (by simp [b3]), if_neg (fun h => b4 h.1)]; rfl
      rw [this]
      cases neg
      ·refine zs0 ?_
       rfl
      ·refine zs0 ?_
       rw [wneg _ v5]
       rfl
     ·refine zs1 h4 ?_
      refine W.cond rfl (fun b6 => ?_) (fun b6 => ?_)
      ·have b6 : numeral den = false := by cases h : numeral den <;> simp_all
       refine zs0 ?_
       have : smP neg num den true = (0, 0, false) := by unfold smP; rw [if_neg (by omega), if_neg (by omega), if_neg (by simp [b3]), if_neg (fun h => b4 h.1), if_pos rfl, if_pos b6]
       rw [this]
       rfl
      ·have b6 : numeral den = true := by cases h : numeral den <;> simp_all
       have h7 := parseInt_T (k := k + 1) den (numeral_all b6) (numeral_ne b6) (by omega)
       have v7 := val_lt9 (numeral_all b6) (by omega)
       refine zs1 h7 ?_
       refine WX.boolM rfl rfl (fun b8 => ?_) (fun b8 => ?_)
       ·have b8 := of_decide_eq_true b8
        refine zs0 ?_
        have : smP neg num den true = (0, 0, false) := by unfold smP; rw [if_neg (by omega), if_neg (by omega), if_neg (by simp [b3]), if_neg (fun h => b4 h.1), if_pos rfl, if_neg (by simp [b6]), if_pos (by omega)]
        rw [this]
        rfl
       ·have b8 := of_decide_eq_false b8
        refine zs0 ?_
        refine wC te rfl rfl rfl rfl rfl (divisor_T (k := k + 3) (val num) (val den) (by omega) (by omega)) rfl rfl ?_
        refine zs0 ?_
        refine W.cond rfl (fun b9 => ?_) (fun b9 => ?_)
        ·have b9 : Nat.gcd (val num) (val den) ≠ 1 := by
          intro h; rw [h] at b9; revert b9; simp
         refine zs0 ?_
         have : smP neg num den true = (0, 0, false) := by
          unfold smP; rw [if_neg (by omega), if_neg (by omega), if_neg (by simp [b3]), if_neg (fun h => b4 h.1), if_pos rfl, if_neg (by simp [b6]), if_neg (by omega), if_pos b9]
         rw [this]
         rfl
        ·have b9 : Nat.gcd (val num) (val den) = 1 := by
          simp at b9; omega
         have : smP neg num den true = (sg neg (val num), (val den : Int), true) := by
          unfold smP; rw [if_neg (by omega), if_neg (by omega), if_neg (by simp [b3]), if_neg (fun h => b4 h.1), if_pos rfl, if_neg (by simp [b6]), if_neg (by omega), if_neg (by omega)]
         rw [this]
         refine zs0 ?_
         cases neg
         ·refine zs0 ?_
          rfl
         ·refine zs0 ?_
          rw [wneg _ v5]
          rfl
def smV (a : Bs) : Int × Int × Bool := smP (cutM a).2 (cutS (cutM a).1).1 (cutS (cutM a).1).2.1 (cutS (cutM a).1).2.2
theorem cutM_len (s : Bs) : (cutM s).1.length ≤ s.length := by
 have h := congrArg List.length (cutM_spec s)
 rw [List.length_append] at h; omega
theorem cutS_len (s : Bs) : (cutS s).1.length ≤ s.length ∧ (cutS s).2.1.length ≤ s.length := by
 induction s with
 | nil => simp [cutS]
 | cons c s ih =>
  rw [cutS]
  split
  ·simp
  ·simp only [List.length_cons]; omega
theorem smallOf_T (a : Bs) (h : a.length < 4611686018427387904) :
  T (k + 5) 163 [.str a] = some (.tup [.agg [.int .i64 (smV a).1, .int .i64 (smV a).2.1], .bool (smV a).2.2], []) := by
 have h0 := cutM_len a
 have h1 := cutS_len (cutM a).1
 exact smallP_T a _ _ _ _ _ (cutPrefix_T (k := k + 1) a) (cut_T (k := k) (cutM a).1 (by omega)) (by omega) (by omega)
end Go.PE
namespace Go.PE
open Go.RowKit Go.Proofs.Tryz
set_option maxRecDepth 100000
variable {k : Nat}
def rdP (neg : Bool) (num den : Bs) (frac : Bool) : Option (Nat × Nat) :=
 if numeral num = false then none else if num = [48] ∧ (neg = true ∨ frac = true) then none else
 if frac = true then (if numeral den = false then none else if den = [48] then none else if den = [49] then none else some (val num, val den))
 else some (val num, 1)
def rdX (neg : Bool) : Option (Nat × Nat) → PV
 | some (n, d) => .agg [.bool neg, .imm 1 (row (limbs n)), .imm 1 (row (limbs d))]
 | none => .agg [.bool false, .imm 1 [], .imm 1 []]
def rdO : Option (Nat × Nat) → Bool
 | some (n, d) => decide (Nat.gcd n d = 1)
 | none => false
theorem limbs_one : limbs 1 = [1] := limbs_small (by omega) (by omega)
theorem ln_val {s : Bs} (h : numeral s = true) (hl : s.length < 150994900) : ln (val s) < 16777216 := by
 have h1 := val_lt (numeral_all h)
 have h2 : 10 ^ s.length ≤ 1000000000 ^ (s.length / 9 + 1) := by
  rw [show (1000000000 : Nat) = 10 ^ 9 from rfl, ← Nat.pow_mul]
  exact Nat.pow_le_pow_right (by omega) (by omega)
 have := ln_le (Nat.lt_of_lt_of_le h1 h2)
 omega
theorem rdX_one (neg : Bool) (n : Nat) : rdX neg (some (n, 1)) = .agg [.bool neg, .imm 1 (row (limbs n)), .imm 1 [[.int .u32 1]]] := by
 simp only [rdX, limbs_one]; rfl
theorem rdO_one (n : Nat) : rdO (some (n, 1)) = true := by simp [rdO]
theorem readP_T (a m num den : Bs) (neg frac : Bool) (h1 : T (k + 4) 106 [.str a, .str [45]] = some (.tup [.str m, .bool neg], [])) (h2 : T (k + 4) 229 [.str m, .str [47]] = some (.tup [.str num, .str den, .bool frac], []))
  (hnum : num.length < 150994900) (hden : den.length < 150994900) :
  T (k + 5) 164 [.str a] = some (.tup [rdX neg (rdP neg num den frac), .bool (rdO (rdP neg num den frac))], []) := by
 have h3 := numeral_T (k := k + 3) num (by omega)
 have h4 := numeral_T (k := k + 3) den (by omega)
 refine enter rfl func164 rfl (by decide) (by kernel_rfl) rfl rfl ?_
 refine zs1 h1 ?_
 refine zs2 h2 ?_
 refine zs2 h3 ?_
 refine WX.boolM rfl rfl (fun b3 => ?_) (fun b3 => ?_)
 ·have b3 : numeral num = false := by cases h : numeral num <;> simp_all
  refine zs0 ?_
  have : rdP neg num den frac = none := by unfold rdP; rw [if_pos b3]
  rw [this]
  rfl
 ·have b3 : numeral num = true := by cases h : numeral num <;> simp_all
  refine zs0 ?_
  refine WX.boolM rfl rfl (fun b4 => ?_) (fun b4 => ?_)
  ·have b4 := of_decide_eq_true b4
   cases neg
   ·cases frac
    ·refine zs0 ?_
     refine wC te rfl rfl rfl rfl rfl (natOf_T (k := k + 2) num (numeral_all b3) (by omega)) rfl rfl ?_
     refine zs0 ?_
     have : rdP false num den false = some (val num, 1) := by unfold rdP; rw [if_neg (by simp [b3]), if_neg (by simp)]; rfl
     rw [this]
     rw [rdX_one, rdO_one]
     rfl
    ·refine zs0 ?_
     have : rdP false num den true = none := by unfold rdP; rw [if_neg (by simp [b3]), if_pos ⟨b4, Or.inr rfl⟩]
     rw [this]
     rfl
   ·refine zs0 ?_
    have : rdP true num den frac = none := by unfold rdP; rw [if_neg (by simp [b3]), if_pos ⟨b4, Or.inl rfl⟩]
    rw [this]
    rfl
  ·have b4 := of_decide_eq_false b4
   refine zs0 ?_
   refine WX.moveB rfl rfl ?_
   refine zs0 ?_
   refine wC te rfl rfl rfl rfl rfl (natOf_T (k := k + 2) num (numeral_all b3) (by omega)) rfl rfl ?_
   refine zs0 ?_
   cases frac
   ·refine zs0 ?_
    have : rdP neg num den false = some (val num, 1) := by unfold rdP; rw [if_neg (by simp [b3]), if_neg (fun h => b4 h.1)]; rfl
    rw [this]
    rw [rdX_one, rdO_one]
    rfl
   ·refine zs1 h4 ?_
    refine WX.boolM rfl rfl (fun b6 => ?_) (fun b6 => ?_)
    ·have b6 : numeral den = false := by cases h : numeral den <;> simp_all
     refine zs0 ?_
     have : rdP neg num den true = none := by unfold rdP; rw [if_neg (by simp [b3]), if_neg (fun h => b4 h.1), if_pos rfl, if_pos b6]
     rw [this]
     rfl
    ·have b6 : numeral den = true := by cases h : numeral den <;> simp_all
     refine zs0 ?_
     refine WX.boolM rfl rfl (fun b7 => ?_) (fun b7 => ?_)
     ·have b7 : den = [48] := by simpa using b7
      refine zs0 ?_
      have : rdP neg num den true = none := by unfold rdP; rw [if_neg (by simp [b3]), if_neg (fun h => b4 h.1), if_pos rfl, if_neg (by simp [b6]), if_pos b7]
      rw [this]
      rfl
     ·have b7 : den ≠ [48] := by simpa using b7
      refine zs0 ?_
      refine W.cond rfl (fun b8 => ?_) (fun b8 => ?_)
      ·have b8 : den = [49] := by simpa using b8
       refine zs0 ?_
       have : rdP neg num den true = none := by unfold rdP; rw [if_neg (by simp [b3]), if_neg (fun h => b4 h.1), if_pos rfl, if_neg (by simp [b6]), if_neg b7, if_pos b8]
       rw [this]
       rfl
      ·have b8 : den ≠ [49] := by simpa using b8
       refine zs0 ?_
       refine wC te rfl rfl rfl rfl rfl (natOf_T (k := k + 2) den (numeral_all b6) (by omega)) rfl rfl ?_
       refine zd8 ?_
       refine wG te rfl rfl rfl rfl rfl (gcd_T (k := k) (val num) (val den) (ln_val b3 (by omega)) (ln_val b6 (by omega))) rfl rfl ?_
       refine zd2 (one_T (k := k + 3) (Nat.gcd (val num) (val den))) ?_
       have : rdP neg num den true = some (val num, val den) := by unfold rdP; rw [if_neg (by simp [b3]), if_neg (fun h => b4 h.1), if_pos rfl, if_neg (by simp [b6]), if_neg b7, if_neg b8]
       rw [this]
       rw [onUps_eq]
       refine WX.nilD (by kernel_rfl) ?_
       refine zs0 ?_
       rfl
end Go.PE
namespace Go.PE
open Go.RowKit Go.Proofs.Tryz
set_option maxRecDepth 100000
variable {k : Nat}
def rdV (a : Bs) : Option (Nat × Nat) := rdP (cutM a).2 (cutS (cutM a).1).1 (cutS (cutM a).1).2.1 (cutS (cutM a).1).2.2
theorem read_T (a : Bs) (h : a.length < 150994900) :
  T (k + 5) 164 [.str a] = some (.tup [rdX (cutM a).2 (rdV a), .bool (rdO (rdV a))], []) := by
 have h0 := cutM_len a
 have h1 := cutS_len (cutM a).1
 exact readP_T a _ _ _ _ _ (cutPrefix_T (k := k + 1) a) (cut_T (k := k) (cutM a).1 (by omega)) (by omega) (by omega)
theorem num48 {s : Bs} (h : numeral s = true) : val s = 0 ↔ s = [48] := by
 constructor
 ·intro e; have := dec_val h; rw [e, dec_zero] at this; exact this.symm
 ·rintro rfl; rfl
theorem num49 {s : Bs} (h : numeral s = true) : val s = 1 ↔ s = [49] := by
 constructor
 ·intro e; have := dec_val h; rw [e, dec_small (by omega)] at this; exact this.symm
 ·rintro rfl; rfl
theorem rd_V (a : Bs) : rd a = match rdV a with | some (n, d) => if Nat.gcd n d = 1 then some (mkRat (sg (cutM a).2 n) d) else none | none => none := by
 unfold rd rdV rdP
 simp only
 generalize (cutM a).2 = neg
 generalize cutS (cutM a).1 = c
 obtain ⟨num, den, frac⟩ := c
 simp only
 cases h1 : numeral num
 ·rfl
 ·by_cases h2 : num = [48] ∧ (neg = true ∨ frac = true)
  ·rw [if_pos h2]
   obtain ⟨rfl, h2⟩ := h2
   rcases h2 with rfl | rfl <;> simp
  ·have h2' : (num == [48] && (neg || frac)) = false := by
    rw [Bool.eq_false_iff]; intro e; apply h2
    simpa using e
   rw [h2', if_neg h2]
   cases frac
   ·simp
   ·cases h3 : numeral den
    ·simp
    ·have h4 := num48 h3
     have h5 := num49 h3
     by_cases h6 : den = [48]
     ·have := h4.2 h6; simp [h6]; intro h; exact absurd h (by decide)
     ·by_cases h7 : den = [49]
      ·have := h5.2 h7; simp [h7]; intro h; exact absurd h (by decide)
      ·have h8 : 2 ≤ val den := by
        rcases Nat.lt_or_ge (val den) 2 with h | h
        ·rcases (show val den = 0 ∨ val den = 1 by omega) with e | e
         ·exact absurd (h4.1 e) h6
         ·exact absurd (h5.1 e) h7
        ·exact h
       simp [h6, h7, h8]
theorem rd_ok (a : Bs) : rdO (rdV a) = (rd a).isSome := by
 rw [rd_V]
 rcases rdV a with _ | ⟨n, d⟩
 ·rfl
 ·simp only [rdO]; split <;> simp_all
theorem rd_sm (a : Bs) (h : (smV a).2.2 = true) : rd a = some (mkRat (smV a).1 (smV a).2.1.toNat) ∧ 0 < (smV a).2.1 ∧ (smV a).2.1 < 1000000000 ∧ (smV a).1.natAbs < 1000000000 := by
 revert h
 unfold rd smV smP
 simp only
 generalize (cutM a).2 = neg
 generalize cutS (cutM a).1 = c
 obtain ⟨num, den, frac⟩ := c
 simp only
 split
 ·intro h; cases h
 split
 ·intro h; cases h
 split
 ·intro h; cases h
 split
 ·intro h; cases h
 rename_i a1 a2 a3 a4
 have a3 : numeral num = true := by simpa using a3
 have b1 := val_lt9 (numeral_all a3) (by omega)
 have b2 : (num == [48] && (neg || frac)) = false := by
  rw [Bool.eq_false_iff]; intro e; apply a4
  simpa using e
 rw [a3, b2]
 have b3 := sg_natAbs neg (val num)
 split
 ·split
  ·intro h; cases h
  split
  ·intro h; cases h
  split
  ·intro h; cases h
  rename_i a5 a6 a7 a8
  have a6 : numeral den = true := by simpa using a6
  have c1 := val_lt9 (numeral_all a6) (by omega)
  subst a5
  rw [a6]
  intro _
  refine ⟨?_, by simp only; omega, by simp only; omega, by simp only; omega⟩
  simp only [Int.toNat_natCast]
  have : 2 ≤ val den := by omega
  have a8 : (val num).gcd (val den) = 1 := by omega
  simp [this, a8]
 ·rename_i a5
  have a5 : frac = false := by simpa using a5
  subst a5
  intro _
  refine ⟨?_, by simp only; omega, by simp only; omega, by simp only; omega⟩
  simp
theorem valid_T (a : Bs) (h : a.length < 150994900) : T (k + 6) 70 [.str a] = some (.bool (rd a).isSome, []) := by
 refine enter rfl func70 rfl (by decide) (by kernel_rfl) rfl rfl ?_
 refine zs0 ?_
 refine wC te rfl rfl rfl rfl rfl (smallOf_T (k := k) a (by omega)) rfl rfl ?_
 refine zs0 ?_
 refine WX.boolM rfl rfl (fun b1 => ?_) (fun b1 => ?_)
 ·refine zs0 ?_
  rw [(rd_sm a b1).1]
  rfl
 ·refine zs0 ?_
  have hr := read_T (k := k) a h
  rw [rd_ok] at hr
  generalize rdV a = v at hr
  generalize (rd a).isSome = o at hr
  rcases v with _ | ⟨n, d⟩
  ·refine zs2 hr ?_
   refine WX.moveB rfl rfl ?_
   refine zs0 ?_
   rfl
  ·refine zs2 hr ?_
   refine WX.moveB rfl rfl ?_
   refine zs0 ?_
   rfl
def isI (s : Bs) : Bool := numeral (cutM s).1 && !((cutM s).2 && decide ((cutM s).1 = [48]))
theorem isI_rs (q : Rat) : isI (rs q) = decide (q.den = 1) := by
 unfold isI rs qt
 have hc : cutM ((if (decide (q.num < 0) && q.num.natAbs != 0) = true then [45] else []) ++ dec q.num.natAbs ++ (if q.den = 1 then [] else 47 :: dec q.den)) = (dec q.num.natAbs ++ (if q.den = 1 then [] else 47 :: dec q.den), decide (q.num < 0)) := by
  by_cases h : q.num < 0
  ·have : q.num.natAbs ≠ 0 := by omega
   simp [h, this, cutM]
  ·simp only [h, decide_false, Bool.false_and]
   rw [if_neg (by simp), List.nil_append, cutM_dec]
 rw [hc]
 simp only
 by_cases hd : q.den = 1
 ·simp only [hd, if_true, List.append_nil, dec_numeral, decide_true, Bool.true_and]
  by_cases h : q.num < 0
  ·have : dec q.num.natAbs ≠ [48] := by
    intro e; rw [← dec_zero] at e; have := dec_inj e; omega
   simp [h, this]
  ·simp [h]
 ·simp only [if_neg hd, decide_eq_false hd]
  have : numeral (dec q.num.natAbs ++ 47 :: dec q.den) = false := by
   rw [Bool.eq_false_iff]; intro h
   have := numeral_all h
   simp only [List.all_append, List.all_cons, Bool.and_eq_true] at this
   exact absurd this.2.1 (by decide)
  rw [this, Bool.false_and]
theorem isInt_T (a : Bs) (h : a.length < 4611686018427387904) : T (k + 4) 34 [.str a] = some (.bool (isI a), []) := by
 have h0 := cutM_len a
 refine enter rfl func34 rfl (by decide) (by kernel_rfl) rfl rfl ?_
 refine zs1 (cutPrefix_T (k := k) a) ?_
 refine wC te rfl rfl rfl rfl rfl (numeral_T (k := k + 2) (cutM a).1 (by omega)) rfl rfl ?_
 refine zs0 ?_
 unfold isI
 refine WX.boolM rfl rfl (fun b1 => ?_) (fun b1 => ?_)
 ·have b1 : numeral (cutM a).1 = true := by simpa using b1
  rw [b1]
  refine zs0 ?_
  refine WX.boolM rfl rfl (fun b2 => ?_) (fun b2 => ?_)
  ·have b2 : (cutM a).2 = true := by simpa using b2
   rw [b2]
   refine zs0 ?_
   cases decide ((cutM a).1 = [48]) <;> rfl
  ·have b2 : (cutM a).2 = false := by simpa using b2
   rw [b2]
   refine zs0 ?_
   rfl
 ·have b1 : numeral (cutM a).1 = false := by simpa using b1
  rw [b1]
  refine zs0 ?_
  rfl
def sgn (q : Rat) : Int := if q.num < 0 then -1 else if q.num = 0 then 0 else 1
theorem rs_zero : rs 0 = [48] := by
 show qt false 0 1 = _
 simp [qt, dec_zero]
theorem sgn_head {q : Rat} {a : Bs} (h : a = rs q) (h0 : a ≠ [48]) : sgn q = if a.getD 0 0 = 45 then -1 else 1 := by
 have hq : q.num ≠ 0 := by
  intro e
  apply h0
  have : q = 0 := by rw [Rat.num_eq_zero.1 e]
  rw [h, this]; exact rs_zero
 subst h
 unfold rs qt sgn
 by_cases hn : q.num < 0
 ·have : q.num.natAbs ≠ 0 := by omega
  simp [hn, this]
 ·rw [if_neg hn, if_neg hq]
  simp only [hn, decide_false, Bool.false_and]
  rw [if_neg]
  rw [if_neg (by simp), List.nil_append]
  cases hd : dec q.num.natAbs with
  | nil => exact absurd hd (dec_ne _)
  | cons c s =>
   simp only [List.cons_append, List.getD_cons_zero]
   exact (dg_ne (dec_mem (n := q.num.natAbs) (by rw [hd]; simp))).1
theorem sign_T (a : Bs) (h : a.length < 150994900) : T (k + 7) 75 [.str a] = some (.int .i64 (match rd a with | some q => sgn q | none => 0), []) := by
 refine enter rfl func75 rfl (by decide) (by kernel_rfl) rfl rfl ?_
 refine zs1 (valid_T (k := k) a h) ?_
 refine WX.boolM rfl rfl (fun b1 => ?_) (fun b1 => ?_)
 ·have b1 : rd a = none := by simpa using b1
  rw [b1]
  refine zs0 ?_
  rfl
 ·obtain ⟨q, b1⟩ : ∃ q, rd a = some q := Option.isSome_iff_exists.1 (by simpa using b1)
  have hq := rs_rd b1
  rw [b1]
  refine zs0 ?_
  refine W.cond rfl (fun b2 => ?_) (fun b2 => ?_)
  ·have b2 : a = [48] := by simpa using b2
   refine zs0 ?_
   show some (PV.int .i64 0, []) = some (PV.int .i64 (sgn q), [])
   rw [show sgn q = 0 by
    have : q = 0 := by
     apply rs_inj; rw [← hq, b2]; exact rs_zero.symm
    subst this; rfl]
  ·have b2 : a ≠ [48] := by simpa using b2
   have b3 : a ≠ [] := by
    rintro rfl; revert b1; rw [show rd [] = none from rfl]; exact fun h => nomatch h
   have b4 := List.length_pos_iff.2 b3
   have hs := sgn_head hq b2
   refine zs0 ?_
   refine wS te rfl rfl (by constructor <;> omega) ?_
   refine zs0 ?_
   refine W.cond rfl (fun b5 => ?_) (fun b5 => ?_)
   ·refine zs0 ?_
    show some (PV.int .i64 (-1), []) = some (PV.int .i64 (sgn q), [])
    rw [hs, if_pos]
    have := of_decide_eq_true b5
    apply UInt8.toNat_inj.1
    exact Int.ofNat_inj.1 this
   ·refine zs0 ?_
    show some (PV.int .i64 1, []) = some (PV.int .i64 (sgn q), [])
    rw [hs, if_neg]
    intro h
    have := of_decide_eq_false b5
    apply this
    show ((a.getD 0 0).toNat : Int) = 45
    rw [h]; rfl
end Go.PE
namespace Go.PE
open Go.RowKit Go.Proofs.Tryz
set_option maxRecDepth 100000
variable {k : Nat}
theorem take_dg {s : Bs} {i : Nat} (h : i < s.length) : s.take (i + 1) = s.take i ++ [s.getD i 0] := by
 rw [List.take_succ_eq_append_getElem (by omega)]
 simp [List.getD, List.getElem?_eq_getElem h]
theorem all_bad {s : Bs} {i : Nat} (hi : i < s.length) (h : isDg (s.getD i 0) = false) : s.all isDg = false := by
 have hc : [s.getD i 0].all isDg = false := by
  show (isDg (s.getD i 0) && true) = false
  rw [h]; rfl
 rw [← List.take_append_drop (i + 1) s, List.all_append, take_dg hi, List.all_append, hc, Bool.and_false, Bool.false_and]
theorem isDg_eq (c : UInt8) : isDg c = (decide (48 ≤ c.toNat) && decide (c.toNat ≤ 57)) := rfl
theorem digits_T (s : Bs) (hs : s.length < 4611686018427387904) : T (k + 1) 184 [.str s] = some (.bool (s.all isDg && decide (s ≠ [])), []) := by
 refine enter rfl func184 rfl (by decide) (by kernel_rfl) rfl rfl ?_
 refine zs0 ?_
 refine W.loop (fun e m => ∃ (i : Nat), e = [(0, .str s), (3, .int .i64 i)] ∧ i ≤ s.length ∧ (s.take i).all isDg = true ∧ m = s.length - i) s.length ?_ ?_ ?_
 ·exact ⟨0, rfl, by omega, rfl, by omega⟩
 ·show _ < 4611686018427387904; omega
 ·rintro e m ⟨i, rfl, hi, hd, rfl⟩
  refine zs0 ?_
  refine W.cond rfl (fun hlt => ?_) (fun hlt => ?_)
  ·have hlt := of_decide_eq_true hlt
   have hbad : isDg (s.getD i 0) = false → s.all isDg = false := all_bad (by omega)
   have htk := take_dg (s := s) (i := i) (by omega)
   have hgood : isDg (s.getD i 0) = true → (s.take (i + 1)).all isDg = true := by
    intro h
    rw [htk, List.all_append, hd]
    show (true && (isDg (s.getD i 0) && true)) = true
    rw [h]; rfl
   have hdg := isDg_eq (s.getD i 0)
   refine zs0 ?_
   refine wS te rfl rfl (by constructor <;> omega) ?_
   refine zs0 ?_
   refine WX.boolM rfl rfl (fun hb => ?_) (fun hb => ?_)
   ·have hb := of_decide_eq_true hb
    have hz : s.all isDg = false := hbad (by
     rw [hdg, decide_eq_false (by simp only [Int.toNat_natCast] at hb; omega), Bool.false_and])
    refine zs0 ?_
    rw [hz]
    rfl
   ·have hb := of_decide_eq_false hb
    refine zs0 ?_
    refine wS te rfl rfl (by constructor <;> omega) ?_
    refine zs0 ?_
    refine W.cond rfl (fun hb2 => ?_) (fun hb2 => ?_)
    ·have hb2 := of_decide_eq_true hb2
     have hz : s.all isDg = false := hbad (by
      rw [hdg, decide_eq_false (p := (s.getD i 0).toNat ≤ 57) (by simp only [Int.toNat_natCast] at hb2; omega), Bool.and_false])
     refine zs0 ?_
     rw [hz]
     rfl
    ·have hb2 := of_decide_eq_false hb2
     have hz := hgood (by simp only [Int.toNat_natCast] at hb hb2; rw [hdg, decide_eq_true (by omega), decide_eq_true (by omega)]; rfl)
     refine zs0 ?_
     rw [wrap_i64 (x := (i : Int) + 1) (by omega) (by omega)]
     show ∃ m', _
     exact ⟨s.length - (i + 1), by omega, i + 1, rfl, by omega, hz, rfl⟩
  ·have hlt := of_decide_eq_false hlt
   have hie : i = s.length := by omega
   subst hie
   rw [List.take_length] at hd
   refine zs0 ?_
   rw [hd]
   rfl
theorem val_zero (s : Bs) : val (48 :: s) = val s := by rw [val_cons]; simp [dv]
theorem rtrim_T (s : Bs) (hd : s.all isDg = true) (h0 : s ≠ []) (hs : s.length < 4611686018427387904) : T (k + 1) 185 [.str s] = some (.str (dec (val s)), []) := by
 refine enter rfl func185 rfl (by decide) (by kernel_rfl) rfl rfl ?_
 refine zs0 ?_
 refine W.loop (fun e m => ∃ (t : Bs), e = [(0, .str t)] ∧ t.all isDg = true ∧ t ≠ [] ∧ t.length ≤ s.length ∧ val t = val s ∧ m = t.length) s.length ?_ ?_ ?_
 ·exact ⟨s, rfl, hd, h0, by omega, rfl, rfl⟩
 ·show _ < 4611686018427387904; omega
 ·rintro e m ⟨t, rfl, htd, ht0, htl, hv, rfl⟩
  have hend : ¬ (1 < t.length ∧ t.head? = some 48) → dec (val s) = t := by
   intro h
   rw [← hv]
   apply dec_val
   unfold numeral
   rw [htd, Bool.true_and]
   cases t with
   | nil => exact absurd rfl ht0
   | cons c t =>
    cases t with
    | nil =>
     by_cases hc : c = 48
     ·subst hc; rfl
     ·simp [hc]
    | cons d t => simp at h; simp [h]
  refine zs0 ?_
  refine WX.boolM rfl rfl (fun hb => ?_) (fun hb => ?_)
  ·have hb := of_decide_eq_true hb
   refine zs0 ?_
   refine wS te rfl rfl (by constructor <;> omega) ?_
   refine zs0 ?_
   refine W.cond rfl (fun hb2 => ?_) (fun hb2 => ?_)
   ·have hb2 := of_decide_eq_true hb2
    refine zs0 ?_
    refine wS te rfl rfl (by constructor <;> omega) ?_
    refine zs0 ?_
    show ∃ m', _
    obtain ⟨c, t, rfl⟩ := List.exists_cons_of_ne_nil ht0
    have hc : c = 48 := UInt8.toNat_inj.1 (Int.ofNat_inj.1 hb2)
    subst hc
    simp only [List.length_cons] at hb
    refine ⟨t.length, by simp, t, rfl, (by rw [List.all_cons, Bool.and_eq_true] at htd; exact htd.2), ?_, (by simp only [List.length_cons] at htl; omega), (by rw [← hv, val_zero]), rfl⟩
    rintro rfl
    simp at hb
   ·have hb2 := of_decide_eq_false hb2
    refine zs0 ?_
    rw [hend (fun h => hb2 (by
     obtain ⟨c, t, rfl⟩ := List.exists_cons_of_ne_nil ht0
     have : c = 48 := by simpa using h.2
     subst this; rfl))]
    rfl
  ·have hb := of_decide_eq_false hb
   refine zs0 ?_
   rw [hend (by omega)]
   rfl
theorem lexAux {c d x y p : Nat} (hc : 48 ≤ c) (hd : 48 ≤ d) (h1 : x < p) (h2 : y < p) : (c < d ∨ c = d ∧ x < y) ↔ (c - 48) * p + x < (d - 48) * p + y := by
 rcases Nat.lt_trichotomy c d with h3 | h3 | h3
 ·have : (c - 48) * p + x < (d - 48) * p + y := by
   have : (c - 48 + 1) * p ≤ (d - 48) * p := Nat.mul_le_mul_right _ (by omega)
   rw [Nat.add_mul] at this; omega
  exact ⟨fun _ => this, fun _ => Or.inl h3⟩
 ·subst h3
  constructor
  ·rintro (h | ⟨_, h⟩) <;> omega
  ·intro h; right; exact ⟨rfl, by omega⟩
 ·have : ¬ (c - 48) * p + x < (d - 48) * p + y := by
   have : (d - 48 + 1) * p ≤ (c - 48) * p := Nat.mul_le_mul_right _ (by omega)
   rw [Nat.add_mul] at this; omega
  constructor
  ·rintro (h | ⟨h, _⟩) <;> omega
  ·intro h; exact absurd h this
theorem val_lex : ∀ {x y : Bs}, x.all isDg = true → y.all isDg = true → x.length = y.length → Op.bytesLess x y = decide (val x < val y)
 | [], [], _, _, _ => by simp [Op.bytesLess, val_nil]
 | [], d :: t, _, _, h => by simp at h
 | c :: s, [], _, _, h => by simp at h
 | c :: s, d :: t, hx, hy, h => by
  rw [List.all_cons, Bool.and_eq_true] at hx hy
  simp only [List.length_cons, Nat.add_right_cancel_iff] at h
  have ih := val_lex hx.2 hy.2 h
  have h1 := val_lt hx.2
  have h2 := val_lt hy.2
  rw [Op.bytesLess, ih, val_cons, val_cons, h]
  rw [h] at h1
  generalize 10 ^ t.length = p at *
  have hc := isDg_eq c
  have hd := isDg_eq d
  rw [hx.1] at hc; rw [hy.1] at hd
  have hc : 48 ≤ c.toNat ∧ c.toNat ≤ 57 := by simpa using hc.symm
  have hd : 48 ≤ d.toNat ∧ d.toNat ≤ 57 := by simpa using hd.symm
  unfold dv
  have e1 : (c < d) ↔ c.toNat < d.toNat := UInt8.lt_iff_toNat_lt
  have e2 : c = d ↔ c.toNat = d.toNat := UInt8.toNat_inj.symm
  rw [Bool.eq_iff_iff]
  simp only [Bool.or_eq_true, decide_eq_true_eq, Bool.and_eq_true, beq_iff_eq, e1, e2]
  exact lexAux hc.1 hd.1 h1 h2
theorem dec_lex {a b : Nat} (h : (dec a).length = (dec b).length) : Op.bytesLess (dec a) (dec b) = decide (a < b) := by
 rw [val_lex (dec_all a) (dec_all b) h, val_dec, val_dec]
theorem cmpMag_T (a b : Nat) :
  T (k + 1) 181 [.str (dec a), .str (dec b)] = some (.int .i64 (if a < b then -1 else if a = b then 0 else 1), []) := by
 have h1 := @dec_lex a b
 have h2 : a = b ↔ dec a = dec b := ⟨fun h => h ▸ rfl, dec_inj⟩
 have h3 : (dec a).length < (dec b).length → a < b := by
  intro h
  apply Nat.lt_of_not_le
  intro h'
  have := dec_len_mono h'
  omega
 have h4 : a < b → (dec a).length ≤ (dec b).length := fun h => dec_len_mono (by omega)
 generalize hx : dec a = x at *
 generalize hy : dec b = y at *
 refine enter rfl func181 rfl (by decide) (by kernel_rfl) rfl rfl ?_
 refine zs0 ?_
 refine WX.boolM rfl rfl (fun b1 => ?_) (fun b1 => ?_)
 ·have b1 := of_decide_eq_true b1
  refine zs0 ?_
  rw [if_pos (h3 (by omega))]
  rfl
 ·have b1 := of_decide_eq_false b1
  refine zs0 ?_
  refine WX.boolM rfl rfl (fun b2 => ?_) (fun b2 => ?_)
  ·have b2 := of_decide_eq_true b2
   refine zs0 ?_
   have h1' := h1 (by omega)
   refine W.cond rfl (fun b3 => ?_) (fun b3 => ?_)
   ·refine zs0 ?_
    rw [if_pos (of_decide_eq_true (h1' ▸ b3))]
    rfl
   ·have b3 : ¬ a < b := of_decide_eq_false (h1' ▸ b3)
    refine zs0 ?_
    refine W.cond rfl (fun b4 => ?_) (fun b4 => ?_)
    ·have b4 := of_decide_eq_true b4
     refine zs0 ?_
     rw [if_neg b3, if_pos (h2.2 b4)]
     rfl
    ·have b4 := of_decide_eq_false b4
     refine zs0 ?_
     rw [if_neg b3, if_neg (fun e => b4 (h2.1 e))]
     rfl
  ·have b2 := of_decide_eq_false b2
   refine zs0 ?_
   refine W.cond rfl (fun b4 => ?_) (fun b4 => ?_)
   ·have b4 := of_decide_eq_true b4
    exact absurd (by rw [b4]) b2
   ·have b4 := of_decide_eq_false b4
    refine zs0 ?_
    rw [if_neg (fun e => by have := h4 e; omega), if_neg (fun e => b4 (h2.1 e))]
    rfl
end Go.PE
