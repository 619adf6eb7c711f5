/-
  A part of the proof that the law's function returns true and leaves its arguments as they were, for every input (no condition): own lemmas of the proof, in the order of their use.
-/
import Derived.Test.YtkfppicmdgbfjaaGreatDoorC16
import Derived.Lib.SliceRun
import Derived.Test.YtkfppicmdgbfjaaGreatDoorC17
import Derived.Test.YtkfppicmdgbfjaaGreatDoorC15
import Derived.BigFrameIn
import Derived.CallsIn
import Derived.ControlIn
import Derived.LoopTactic
set_option linter.all false
namespace Go.PE
open Go.RowKit Go.Shelf Go.Proofs Go.Proofs.Tryz
/-! ### slices.Clone of nothing -/
set_option maxRecDepth 100000 in
set_option maxHeartbeats 1000000 in
theorem clone_in (A : Option Addr) (cap : Nat) (w : World) :
    CallsIn Fence.wide 1 prog 91 #[.slice A 0 cap] w fun e w' => ∃ A', e = .returned (.slice A' 0 0) ∧ (w' = w ∨ ∃ o, w' = w.alloc o) := by
  refine callsIn_of_wp func91 rfl trivial ?_ rfl
  simp only [ntmps91, List.size_toArray, List.length_cons, List.length_nil, Nat.reduceAdd, Nat.reduceSub, Array.replicate_succ, Array.replicate_zero, List.push_toArray, List.append_toArray, List.nil_append, List.cons_append]
  have hnil := Lib.run_eql_slice_nil (P := prog) w 36 _ A 0 cap 0 0 underlying36
  cases A with
  | none =>
    gi_wp2
    go_ret
    exact ⟨_, rfl, .inl rfl⟩
  | some ad =>
    gi_wp2
    go_ret
    exact ⟨_, rfl, .inr ⟨_, rfl⟩⟩
end Go.PE
namespace Go.PE
open Go.RowKit Go.Shelf Go.Proofs Go.Proofs.Tryz
set_option maxRecDepth 100000
/-! ### The contracts of extend and of slices.Clone at nothing -/
section
variable {w : World} {Fz : Nat → Prop}
theorem spot_none {ad : Addr} {v : Value} (h : w.cell? ad = some v) : ad = ⟨ad.block, ad.off, none⟩ := by
  obtain ⟨b, off, sp⟩ := ad
  cases sp with
  | none => rfl
  | some s =>
    unfold World.cell? at h
    simp at h
    split at h <;> simp at h
theorem imm_deref {v : Value} {q : PV} {cs : List PV} (h : Imm w Fz v (.iptr (q :: cs) 0)) : ∃ b o, v = .pointer (some ⟨b, o, none⟩) ∧ ∀ j p, (q :: cs)[j]? = some p → ∃ u, w.cell? ⟨b, o + j, none⟩ = some u ∧ Imm w Fz u p := by
  cases h with
  | iptr ad _ _ c hcell hr =>
    have h0 := hcell 0 q rfl
    have e0 : ad.add 0 = ad := by unfold Addr.add; simp
    rw [e0] at h0
    have hsp := spot_none h0.2
    refine ⟨ad.block, ad.off, by rw [e0]; exact congrArg (fun x => Value.pointer (some x)) hsp, fun j p hp => ⟨c j, ?_, hr j p hp⟩⟩
    have := (hcell j p hp).2
    rw [hsp, add_lit] at this
    exact this
theorem imm_elems {v : Value} {sz : Nat} {xs : List (List PV)} {q : PV} (h : Imm w Fz v (.imm sz xs)) (h0 : cell2 xs 0 0 = some q) : ∃ b o cap, v = .slice (some ⟨b, o, none⟩) xs.length cap ∧ xs.length ≤ cap ∧ ∀ i j p, cell2 xs i j = some p → ∃ u, w.cell? ⟨b, o + (i * sz + j), none⟩ = some u ∧ Imm w Fz u p := by
  cases h with
  | imm A n cap _ _ c hn hc hu hcell hr =>
    obtain ⟨ad, rfl, _, hx⟩ := hcell 0 0 q h0
    have e0 : ad.add (0 * sz + 0) = ad := by unfold Addr.add; simp
    rw [e0] at hx
    have hsp := spot_none hx
    refine ⟨ad.block, ad.off, cap, by rw [hn]; exact congrArg (fun x => Value.slice (some x) n cap) hsp, by omega, fun i j p hp => ⟨c i j, ?_, hr i j p hp⟩⟩
    obtain ⟨ad', he, _, hy⟩ := hcell i j p hp
    cases he
    rw [hsp, add_lit] at hy
    exact hy
theorem below_plain {w' : World} (hb : RowKit.Below w.heap.size w w') {bs : List Nat} {boxes : List Value} {u : Value} {r : PV} (hbx : boxes = []) (hr : isRef r = false) (hu : Imm w' Fz u r) : Post w Fz bs boxes r [] u w' := by
  subst hbx
  exact ⟨hb.os, hb.tape, hb.output, hb.size, fun b hb' _ => hb.block b hb', hr, Fz, [], [], fun _ h => h, fun _ h => .inl h, by simp, by simp, .plain hu, .nil⟩
end
theorem clone_meets : Meets prog 91 cloneF := by
  refine ⟨fun _ _ => ?_, fun h => (by cases h), fun _ h => (by cases h), fun g' h => (by cases h)⟩
  intro w Fz args avs bs r outs hgl hfz hnd hbs hreps hF o a next Q hnext
  have key : ∀ (A : Option Addr) (cap : Nat), args = #[.slice A 0 cap] → boxVals args.toList avs = [] → r = .imm 1 [] → outs = [] → o.upon prog a next Q ((callFunc 91 args).run prog w) := by
    rintro A cap rfl hbx rfl rfl
    have henter : (callFunc 91 #[.slice A 0 cap]).run prog w = .ok (.enter 91 #[.slice A 0 cap]) w := enters_of func91 (by kernel_rfl) rfl _ _
    rw [henter, Oper.upon_enter]
    refine (callsIn_wide.1 (clone_in A cap w)).mono ?_
    rintro e w' ⟨A', rfl, hw⟩
    have hb : RowKit.Below w.heap.size w w' := by
      rcases hw with rfl | ⟨o, rfl⟩
      · exact RowKit.Below.refl _ _
      · exact (RowKit.Below.refl _ w).alloc (Nat.le_refl _) _
    exact hnext _ _ (below_plain hb hbx rfl (.imm A' 0 0 1 [] (fun _ _ => undef) rfl (Nat.le_refl _) (by simp) (fun i j p hp => by simp [cell2] at hp) (fun i j p hp => by simp [cell2] at hp)))
  obtain ⟨al, hal⟩ : ∃ al, args.toList = al := ⟨_, rfl⟩
  have harr : args = al.toArray := by rw [← hal, Array.toArray_toList]
  rw [hal] at hreps
  unfold cloneF at hF
  split at hF
  · cases hF
    cases hreps with
    | cons h1 h2 =>
      cases h2
      have h1 := h1.imm rfl
      cases h1 with
      | imm A n cap _ _ c hn hc hu hcell hr =>
        have : n = 0 := hn.symm
        subst this
        exact key A cap harr (by rw [hal]; rfl) rfl rfl
  · cases hF
    cases hreps with
    | cons h1 h2 =>
      cases h2
      have h1 := h1.imm rfl
      cases h1
      exact key none 0 harr (by rw [hal]; rfl) rfl rfl
  · cases hF
theorem extend_meets : Meets prog 37 extendF := by
  refine ⟨fun _ _ => ?_, fun h => (by cases h), fun _ h => (by cases h), fun g' h => (by cases h)⟩
  intro w Fz args avs bs r outs hgl hfz hnd hbs hreps hF o a next Q hnext
  obtain ⟨al, hal⟩ : ∃ al, args.toList = al := ⟨_, rfl⟩
  have harr : args = al.toArray := by rw [← hal, Array.toArray_toList]
  rw [hal] at hreps
  unfold extendF at hF
  split at hF
  · rename_i va vb
    split at hF
    · rename_i hz
      obtain ⟨rfl, rfl, rfl, rfl, rfl, rfl, rfl, rfl⟩ := hz
      cases hF
      cases hreps with
      | cons h1 h2 =>
        cases h2 with
        | cons h2 h3 =>
          cases h3
          have h1 := h1.imm rfl
          have h2 := h2.imm rfl
          obtain ⟨pb, po, rfl, hp⟩ := imm_deref h1
          obtain ⟨u0, e0, i0⟩ := hp 0 _ rfl
          obtain ⟨tb, to, rfl, ht⟩ := imm_deref i0
          obtain ⟨un, t0, i1⟩ := ht 0 _ rfl
          obtain ⟨nb, no, nc, rfl, _, hn⟩ := imm_elems i1 rfl
          obtain ⟨y0, n0, j0⟩ := hn 0 0 _ rfl
          obtain ⟨y1, n1, j1⟩ := hn 1 0 _ rfl
          obtain ⟨y3, n3, j3⟩ := hn 3 0 _ rfl
          obtain ⟨u2, e2, i2⟩ := hp 2 _ rfl
          obtain ⟨fb, fo, fc, rfl, _, hf⟩ := imm_elems i2 rfl
          obtain ⟨z0, f0, q0⟩ := hf 0 0 _ rfl
          obtain ⟨z1, f1, q1⟩ := hf 1 0 _ rfl
          obtain ⟨z2, f2, q2⟩ := hf 2 0 _ rfl
          obtain ⟨u3, e3, i3⟩ := hp 3 _ rfl
          obtain ⟨kb, ko, kc, rfl, _, hk⟩ := imm_elems i3 rfl
          obtain ⟨uk, k0, i4⟩ := hk 0 0 _ rfl
          obtain ⟨lb, lo, lc, rfl, _, hl⟩ := imm_elems i4 rfl
          obtain ⟨x0, l0, p0⟩ := hl 0 0 _ rfl
          obtain ⟨x1, l1, p1⟩ := hl 1 0 _ rfl
          obtain ⟨ab, ao, ac, rfl, _, ha⟩ := imm_elems h2 rfl
          obtain ⟨v0, a0, r0⟩ := ha 0 0 _ rfl
          obtain ⟨v1, a1, r1⟩ := ha 1 0 _ rfl
          cases j0; cases j1; cases j3; cases q0; cases q1; cases q2; cases p0; cases p1; cases r0; cases r1
          have hx := extend_calls w va vb pb po tb to nb no nc fb fo fc kb ko kc lb lo lc ab ao ac e0 e2 e3 t0 f0 f1 f2 k0 l0 l1 n0 n1 n3 a0 a1
          subst harr
          have henter : ∀ args : Array Value, (callFunc 37 args).run prog w = .ok (.enter 37 args) w := fun args => enters_of func37 (by kernel_rfl) rfl _ _
          rw [henter, Oper.upon_enter]
          refine hx.mono ?_
          rintro e w' ⟨g, rfl, hg, hcell, hb⟩
          have hlt := lt_of_block hcell
          refine hnext _ _ ⟨hb.os, hb.tape, hb.output, hb.size, fun b hb' _ => hb.block b hb', rfl, Fz, [g], [], fun _ h => h, fun _ h => .inl h, ?_, by simp, ?_, .nil⟩
          · intro b hbm
            have : b = g := by simpa using hbm
            subst this
            exact ⟨.inr ⟨hg, hlt⟩, fun hf => by have := hfz _ hf; omega⟩
          · refine .own g 3 3 _ 4 (0, 0) 1 _ (fun i _ => ([.bool (va || !vb), .bool va, .bool vb] : List Value).getD i undef) hcell rfl (Nat.le_refl _) (by decide) rfl (by simp) ?_ ?_
            · intro i j p hp
              rcases i with _ | _ | _ | i <;> rcases j with _ | j <;> first | rfl | (simp [cell2] at hp)
            · intro i j p hp
              rcases i with _ | _ | _ | i <;> rcases j with _ | j <;> first | (simp [cell2] at hp; done) | (cases hp; exact .bool _)
    · cases hF
  · cases hF
end Go.PE
namespace Go.PE
open Go.RowKit Go.Shelf Go.Proofs Go.Proofs.Tryz
set_option maxRecDepth 100000
/-! ### spans.Key -/
theorem calls_str {f : FuncId} {fn : Func} {c : Code} (hf : prog.funcs[f]? = some fn) (hc : fn.body = some c) (hn : fn.name ≠ "runtime.NumGoroutine") {F : List PV → Option (PV × List (List PV))} (hM : MeetsN prog f F)
    {W : World} {args : Array Value} {avs : List PV} {s : List UInt8} (hreps : Reps W (fun b => b < W.heap.size) args.toList avs []) (hF : F avs = some (.str s, [])) :
    Calls prog f args W fun e W' => e = .returned (.string ⟨s.toArray⟩) ∧ RowKit.Below W.heap.size W W' := by
  have hgl : Glob W (fun b => b < W.heap.size) := fun g h => by simp [globPV, okC] at h
  have h := hM W (fun b => b < W.heap.size) args avs [] (.str s) [] hgl (fun _ h => h) List.nodup_nil (by simp) hreps hF
    { dst := some 0, op := .move (.tmp 0), type := 0, pos := "", after := #[], guard := none } { tmps := #[undef], defers := [] } (fun a W' => a.tmps[0]? = some (.string ⟨s.toArray⟩) ∧ RowKit.Below W.heap.size W W') (fun _ _ _ => False)
    (fun u W' hp => by
      obtain ⟨hos, htape, hout, hsize, hheap, _, Fz', bsr, bss, _, _, _, _, hru, _⟩ := hp
      refine ⟨?_, hos, htape, hout, hsize, fun k hk => hheap k hk (by simp)⟩
      have hi := hru.imm rfl
      cases hi
      rfl)
  have henter : (callFunc f args).run prog W = .ok (.enter f args) W := by
    simp [callFunc, hf, hn, hc]
  rw [henter, Oper.upon_enter] at h
  refine h.mono fun e W' he => ?_
  cases e with
  | returned v =>
    obtain ⟨h1, h2⟩ := he
    refine ⟨?_, h2⟩
    have : (Act.put { tmps := #[undef], defers := [] } (some 0) v).tmps[0]? = some v := rfl
    rw [this] at h1
    cases h1
    rfl
  | panicked chain => exact he.elim
  | outgrown =>
    obtain ⟨_, _, h⟩ := he
    exact h.elim
theorem itoa_calls (W : World) (n : Nat) (h : n < 10) : Calls prog 160 #[.int .i64 n] W fun e W' => e = .returned (.string ⟨#[UInt8.ofNat (48 + n)]⟩) ∧ RowKit.Below W.heap.size W W' :=
  calls_str func160 rfl (by decide) ((T0_meets 6 160).1 rfl rfl) (.cons (b := []) (bs := []) (.plain (.int .i64 n)) .nil) (itoa_T n h)
/-- A node. -/
structure Nd where
  (a b e : Nat) (c d : ByteArray)
def Nd.cells (x : Nd) : Array Value := #[.int .i64 x.a, .int .i64 x.b, .string x.c, .string x.d, .int .i64 x.e]
def Nd.ok (x : Nd) : Prop := x.a < 10 ∧ x.b < 10 ∧ x.e < 10
def Nd.key (x : Nd) : List UInt8 := UInt8.ofNat (48 + x.a) :: 32 :: UInt8.ofNat (48 + x.b) :: 32 :: UInt8.ofNat (48 + x.e) :: 32 :: (x.c.data.toList ++ 32 :: (x.d.data.toList ++ [10]))
structure KB (w W : World) (bs : List UInt8) : Prop where
  bel : RowKit.Below w.heap.size w W
  bld : Lib.IsBuilderF 204 5 w.heap.size w.heap.size (Lib.byteCells bs) W
theorem bAtF_grown {T e : TypeId} {B b : Nat} {p : Value} {bs : List Value} {w w' : World} (h : Lib.BuilderAtF T e B b p bs w) (hg : RowKit.Below w.heap.size w w') : Lib.BuilderAtF T e B b p bs w' := by
  obtain ⟨hB, v, hb, hown, hne⟩ := h
  have hgr : w.grownBy w' none := ⟨hg.os, hg.tape, hg.output, hg.size, fun k hk _ => hg.block k hk⟩
  refine ⟨hB, v, (hg.block b (lt_of_block hb)).trans hb, hown.kept hgr ?_, hne⟩
  cases hv : v.ownBlock with
  | none => exact .inl rfl
  | some g => exact .inr (fun h => by cases h)
theorem KB.grown {w W W' : World} {bs : List UInt8} (h : KB w W bs) (hg : RowKit.Below W.heap.size W W') : KB w W' bs := by
  refine ⟨h.bel.trans (hg.mono h.bel.size), ?_⟩
  rcases h.bld with h | h
  · exact .inl (bAtF_grown h hg)
  · exact .inr (bAtF_grown h hg)
theorem KB.lt {w W : World} {bs : List UInt8} (h : KB w W bs) : w.heap.size < W.heap.size := by
  rcases h.bld with h | h <;> exact h.lt
/-- .. with the round's own variable. -/
structure KT (w W : World) (bs : List UInt8) (t : Nat) (x : Nd) : Prop where
  kb : KB w W bs
  ne : w.heap.size ≠ t
  tv : W.heap[t]? = some (.cells x.cells 61 (0, 0))
section
variable {w W : World} {bs : List UInt8} {t : Nat} {x : Nd}
theorem KT.itoa (h : KT w W bs t x) (n : Nat) (hn : n < 10) : Calls prog 160 #[.int .i64 n] W fun e w' => e = .returned (.string ⟨#[UInt8.ofNat (48 + n)]⟩) ∧ KT w w' bs t x :=
  (itoa_calls W n hn).mono fun e w' ⟨he, hb⟩ => ⟨he, h.kb.grown hb, h.ne, (hb.block t (lt_of_block h.tv)).trans h.tv⟩
theorem KT.kept {W' : World} {bs' : List UInt8} (h : KT w W bs t x) (hb : KB w W' bs') (ho : Lib.OthersKept 5 (some w.heap.size) W W') : KT w W' bs' t x :=
  ⟨hb, h.ne, ho t _ h.tv (fun he => h.ne (by simpa using he.symm)) (fun c fz he => by cases he)⟩
theorem KT.wstr (h : KT w W bs t x) (s : ByteArray) (hl : bs.length + s.size ≤ 140737488355328) :
    Calls prog 159 #[.pointer (some ⟨w.heap.size, 0, none⟩), .string s] W fun e w' => e = .returned (.tuple #[.int .i64 s.size, .nilIface]) ∧ KT w w' (bs ++ s.data.toList) t x :=
  (Any.Builder_WriteString_k (ρ := renB) lays166 extraB w.heap.size w.heap.size (Lib.byteCells bs) s W h.kb.bld (by rw [Lib.byteCells_length]; exact hl) h.kb.bel.size).mono fun e w' ⟨he, h1, h2, h3⟩ =>
    ⟨he, h.kept ⟨h.kb.bel.trans h2, .inr (by rw [Lib.byteCells_append]; exact h1)⟩ h3⟩
theorem KT.wbyte (h : KT w W bs t x) (c : UInt8) (z : Int) (hz : z = c.toNat) (hl : bs.length + 1 ≤ 140737488355328) :
    Calls prog 161 #[.pointer (some ⟨w.heap.size, 0, none⟩), .int .u8 z] W fun e w' => e = .returned .nilIface ∧ KT w w' (bs ++ [c]) t x := by
  subst hz
  exact (Any.Builder_WriteByte_k (ρ := renB) lays167 extraB w.heap.size w.heap.size (Lib.byteCells bs) c.toNat W h.kb.bld (by rw [Lib.byteCells_length]; exact hl) h.kb.bel.size).mono fun e w' ⟨he, h1, h2, h3⟩ =>
    ⟨he, h.kept ⟨h.kb.bel.trans h2, .inr (by rw [Lib.byteCells_append]; exact h1)⟩ h3⟩
theorem KT.cell (h : KT w W bs t x) (j : Nat) : W.cell? ⟨t, j, none⟩ = x.cells[j]? := by simp [World.cell?, h.tv]
theorem KT.c0 (h : KT w W bs t x) : W.cell? ⟨t, 0, none⟩ = some (.int .i64 x.a) := h.cell 0
theorem KT.c1 (h : KT w W bs t x) : W.cell? ⟨t, 1, none⟩ = some (.int .i64 x.b) := h.cell 1
theorem KT.c2 (h : KT w W bs t x) : W.cell? ⟨t, 2, none⟩ = some (.string x.c) := h.cell 2
theorem KT.c3 (h : KT w W bs t x) : W.cell? ⟨t, 3, none⟩ = some (.string x.d) := h.cell 3
theorem KT.c4 (h : KT w W bs t x) : W.cell? ⟨t, 4, none⟩ = some (.int .i64 x.e) := h.cell 4
end
theorem KB.str {w W : World} {bs : List UInt8} (h : KB w W bs) : Calls prog 162 #[.pointer (some ⟨w.heap.size, 0, none⟩)] W fun e w' => e = .returned (.string ⟨bs.toArray⟩) ∧ RowKit.Below w.heap.size w w' :=
  (Any.Builder_String_any_k (ρ := renB) lays169 extraB w.heap.size w.heap.size bs W h.bld h.bel.size).mono fun e w' ⟨he, _, h2, _⟩ => ⟨he, h.bel.trans h2⟩
end Go.PE
namespace Go.PE
open Go.RowKit Go.Shelf Go.Proofs Go.Proofs.Tryz
set_option maxRecDepth 100000
def pre (q : Nat → Nd) (i : Nat) : List UInt8 := (List.range i).flatMap fun j => (q j).key
theorem pre_succ (q : Nat → Nd) (i : Nat) : pre q (i + 1) = pre q i ++ (q i).key := by
  unfold pre
  rw [List.range_succ, List.flatMap_append]
  simp
set_option maxHeartbeats 4000000 in
theorem key_calls (w : World) (nb no n cap : Nat) (q : Nat → Nd) (hn : n ≤ 1000000) (hc : n ≤ cap) (hq : ∀ i, i < n → (q i).ok) (hlen : ∀ i, i ≤ n → (pre q i).length ≤ 1000000)
    (hcells : ∀ i, i < n → w.cell? ⟨nb, no + i * 5, none⟩ = some (.int .i64 (q i).a) ∧ w.cell? ⟨nb, no + i * 5 + 1, none⟩ = some (.int .i64 (q i).b) ∧ w.cell? ⟨nb, no + i * 5 + 2, none⟩ = some (.string (q i).c) ∧ w.cell? ⟨nb, no + i * 5 + 3, none⟩ = some (.string (q i).d) ∧ w.cell? ⟨nb, no + i * 5 + 4, none⟩ = some (.int .i64 (q i).e))
    (hnb : nb < w.heap.size) :
    Calls prog 137 #[.slice (some ⟨nb, no, none⟩) n cap] w fun e w' => e = .returned (.string ⟨(pre q n).toArray⟩) ∧ RowKit.Below w.heap.size w w' := by
  go_enter func137, ntmps137
  go_wp2_with fail
  go_loopw [8] (fun i wr => ∃ k : Nat, k ≤ n ∧ i = .int .i64 k ∧ KB w wr (pre q k)) (fun i _ => n - (intOf i).toNat)
  case atStart =>
    exact ⟨0, Nat.zero_le _, rfl, (RowKit.Below.refl _ w).alloc (Nat.le_refl _) _, .inl ⟨Nat.le_refl _, .slice none 0 0, World.alloc_heap_new w _, World.ownsRowF_nil _ _ _ _, by simp [Value.ownBlock]⟩⟩
  case round =>
    obtain ⟨k, hk, rfl, hS⟩ := hrel
    have hcs : k < n → wr.cell? ⟨nb, no + k * 5, none⟩ = some (.int .i64 (q k).a) ∧ wr.cell? ⟨nb, no + k * 5 + 1, none⟩ = some (.int .i64 (q k).b) ∧ wr.cell? ⟨nb, no + k * 5 + 2, none⟩ = some (.string (q k).c) ∧ wr.cell? ⟨nb, no + k * 5 + 3, none⟩ = some (.string (q k).d) ∧ wr.cell? ⟨nb, no + k * 5 + 4, none⟩ = some (.int .i64 (q k).e) := fun h => by
      obtain ⟨h1, h2, h3, h4, h5⟩ := hcells k h
      exact ⟨(hS.bel.cell hnb).trans h1, (hS.bel.cell hnb).trans h2, (hS.bel.cell hnb).trans h3, (hS.bel.cell hnb).trans h4, (hS.bel.cell hnb).trans h5⟩
    by_cases hkn : k < n
    · obtain ⟨h1, h2, h3, h4, h5⟩ := hcs hkn
      obtain ⟨ha, hb, he⟩ := hq k hkn
      have hl0 := hlen k hk
      have hl1 := hlen (k + 1) (by omega)
      rw [pre_succ, List.length_append] at hl1
      have hsc : (q k).c.size = (q k).c.data.size := rfl
      have hsd : (q k).d.size = (q k).d.data.size := rfl
      have hz1 : ∀ x : UInt8, (⟨#[x]⟩ : ByteArray).size = 1 := fun _ => rfl
      have hkl : (q k).key.length = 8 + (q k).c.data.size + (q k).d.data.size := by
        simp only [Nd.key, List.length_cons, List.length_append, List.length_nil, Array.length_toList]
        omega
      have hK0 : KT w (wr.alloc (.cells (q k).cells 61)) (pre q k) wr.heap.size (q k) := ⟨hS.grown ((RowKit.Below.refl _ wr).alloc (Nat.le_refl _) _), by have := hS.lt; omega, World.alloc_heap_new wr _⟩
      have hK1 : KT w (wr.alloc (.cells #[.int .i64 (q k).a, .int .i64 (q k).b, .string (q k).c, .string (q k).d, .int .i64 (q k).e] 61)) (pre q k) wr.heap.size (q k) := hK0
      clear hK0
      go_wp2_with fail
      refine (hK1.itoa _ ha).mono ?_
      rintro e v0 ⟨rfl, k0⟩
      have g0 := k0.c0
      have g1 := k0.c1
      have g2 := k0.c2
      have g3 := k0.c3
      have g4 := k0.c4
      go_wp2_with fail
      refine (k0.wstr _ (by simp only [List.length_append, List.length_cons, List.length_nil, Array.length_toList, hsc, hsd, hz1]; omega)).mono ?_
      rintro e v1 ⟨rfl, k1⟩
      have g0 := k1.c0
      have g1 := k1.c1
      have g2 := k1.c2
      have g3 := k1.c3
      have g4 := k1.c4
      clear k0
      go_wp2_with fail
      refine (k1.wbyte 32 32 rfl (by simp only [List.length_append, List.length_cons, List.length_nil, Array.length_toList, hsc, hsd, hz1]; omega)).mono ?_
      rintro e v2 ⟨rfl, k2⟩
      have g0 := k2.c0
      have g1 := k2.c1
      have g2 := k2.c2
      have g3 := k2.c3
      have g4 := k2.c4
      clear k1
      go_wp2_with fail
      refine (k2.itoa _ hb).mono ?_
      rintro e v3 ⟨rfl, k3⟩
      have g0 := k3.c0
      have g1 := k3.c1
      have g2 := k3.c2
      have g3 := k3.c3
      have g4 := k3.c4
      clear k2
      go_wp2_with fail
      refine (k3.wstr _ (by simp only [List.length_append, List.length_cons, List.length_nil, Array.length_toList, hsc, hsd, hz1]; omega)).mono ?_
      rintro e v4 ⟨rfl, k4⟩
      have g0 := k4.c0
      have g1 := k4.c1
      have g2 := k4.c2
      have g3 := k4.c3
      have g4 := k4.c4
      clear k3
      go_wp2_with fail
      refine (k4.wbyte 32 32 rfl (by simp only [List.length_append, List.length_cons, List.length_nil, Array.length_toList, hsc, hsd, hz1]; omega)).mono ?_
      rintro e v5 ⟨rfl, k5⟩
      have g0 := k5.c0
      have g1 := k5.c1
      have g2 := k5.c2
      have g3 := k5.c3
      have g4 := k5.c4
      clear k4
      go_wp2_with fail
      refine (k5.itoa _ he).mono ?_
      rintro e v6 ⟨rfl, k6⟩
      have g0 := k6.c0
      have g1 := k6.c1
      have g2 := k6.c2
      have g3 := k6.c3
      have g4 := k6.c4
      clear k5
      go_wp2_with fail
      refine (k6.wstr _ (by simp only [List.length_append, List.length_cons, List.length_nil, Array.length_toList, hsc, hsd, hz1]; omega)).mono ?_
      rintro e v7 ⟨rfl, k7⟩
      have g0 := k7.c0
      have g1 := k7.c1
      have g2 := k7.c2
      have g3 := k7.c3
      have g4 := k7.c4
      clear k6
      go_wp2_with fail
      refine (k7.wbyte 32 32 rfl (by simp only [List.length_append, List.length_cons, List.length_nil, Array.length_toList, hsc, hsd, hz1]; omega)).mono ?_
      rintro e v8 ⟨rfl, k8⟩
      have g0 := k8.c0
      have g1 := k8.c1
      have g2 := k8.c2
      have g3 := k8.c3
      have g4 := k8.c4
      clear k7
      go_wp2_with fail
      refine (k8.wstr _ (by simp only [List.length_append, List.length_cons, List.length_nil, Array.length_toList, hsc, hsd, hz1]; omega)).mono ?_
      rintro e v9 ⟨rfl, k9⟩
      have g0 := k9.c0
      have g1 := k9.c1
      have g2 := k9.c2
      have g3 := k9.c3
      have g4 := k9.c4
      clear k8
      go_wp2_with fail
      refine (k9.wbyte 32 32 rfl (by simp only [List.length_append, List.length_cons, List.length_nil, Array.length_toList, hsc, hsd, hz1]; omega)).mono ?_
      rintro e v10 ⟨rfl, k10⟩
      have g0 := k10.c0
      have g1 := k10.c1
      have g2 := k10.c2
      have g3 := k10.c3
      have g4 := k10.c4
      clear k9
      go_wp2_with fail
      refine (k10.wstr _ (by simp only [List.length_append, List.length_cons, List.length_nil, Array.length_toList, hsc, hsd, hz1]; omega)).mono ?_
      rintro e v11 ⟨rfl, k11⟩
      have g0 := k11.c0
      have g1 := k11.c1
      have g2 := k11.c2
      have g3 := k11.c3
      have g4 := k11.c4
      clear k10
      go_wp2_with fail
      refine (k11.wbyte 10 10 rfl (by simp only [List.length_append, List.length_cons, List.length_nil, Array.length_toList, hsc, hsd, hz1]; omega)).mono ?_
      rintro e v12 ⟨rfl, k12⟩
      have g0 := k12.c0
      have g1 := k12.c1
      have g2 := k12.c2
      have g3 := k12.c3
      have g4 := k12.c4
      clear k11
      go_wp2_with fail
      refine ⟨⟨k + 1, by omega, by simp, (congrArg (KB w v12) ?_).mp k12.kb⟩, by simp [intOf]; omega⟩
      rw [pre_succ]
      simp [Nd.key]
    · have hkn : k = n := by omega
      subst hkn
      go_wp2_with (go_at_call 162; refine hS.str.mono ?_; rintro e w1 ⟨rfl, hb⟩)
      go_ret
      exact ⟨rfl, hb⟩
end Go.PE
namespace Go.PE
open Go.RowKit Go.Shelf Go.Proofs Go.Proofs.Tryz
set_option maxRecDepth 100000
/-! ### Key's contract; all contracts -/
def ndOf (x : List PV) : Nd :=
  match x with
  | [.int .i64 a, .int .i64 b, .str c, .str d, .int .i64 e] => ⟨a.toNat, b.toNat, e.toNat, ⟨c.toArray⟩, ⟨d.toArray⟩⟩
  | _ => ⟨0, 0, 0, ⟨#[]⟩, ⟨#[]⟩⟩
theorem dig_some {n : Int} {c : UInt8} (h : digC n = some c) : ((n.toNat : Nat) : Int) = n ∧ n.toNat < 10 ∧ c = UInt8.ofNat (48 + n.toNat) := by
  unfold digC at h
  split at h
  · cases h
    exact ⟨by omega, by omega, rfl⟩
  · cases h
theorem node_some {x : List PV} {l : List UInt8} (h : nodeKey x = some l) : (ndOf x).ok ∧ (ndOf x).key = l ∧ x = [.int .i64 (ndOf x).a, .int .i64 (ndOf x).b, .str (ndOf x).c.data.toList, .str (ndOf x).d.data.toList, .int .i64 (ndOf x).e] := by
  unfold nodeKey at h
  split at h
  · split at h
    · rename_i a b e h1 h2 h3
      cases h
      obtain ⟨a1, a2, rfl⟩ := dig_some h1
      obtain ⟨b1, b2, rfl⟩ := dig_some h2
      obtain ⟨e1, e2, rfl⟩ := dig_some h3
      refine ⟨⟨a2, b2, e2⟩, rfl, ?_⟩
      simp only [ndOf, a1, b1, e1]
    · cases h
  · cases h
theorem keyL_spec : ∀ {xs : List (List PV)} {l : List UInt8}, keyL xs = some l → l = xs.flatMap (fun x => (ndOf x).key) ∧ ∀ x ∈ xs, ∃ k, nodeKey x = some k
  | [], l, h => by cases h; exact ⟨rfl, fun x hx => by cases hx⟩
  | x :: xs, l, h => by
    unfold keyL at h
    split at h
    · rename_i a b h1 h2
      cases h
      obtain ⟨e1, e2⟩ := keyL_spec h2
      refine ⟨by rw [List.flatMap_cons, (node_some h1).2.1, ← e1], fun y hy => ?_⟩
      rcases List.mem_cons.1 hy with rfl | hy
      · exact ⟨_, h1⟩
      · exact e2 y hy
    · cases h
theorem pre_take (xs : List (List PV)) : ∀ i, i ≤ xs.length → pre (fun i => ndOf (xs.getD i [])) i = (xs.take i).flatMap (fun x => (ndOf x).key)
  | 0, _ => rfl
  | i + 1, h => by
    rw [pre_succ, pre_take xs i (by omega), List.take_add_one, List.flatMap_append, List.getElem?_eq_getElem (by omega)]
    simp [List.getD, List.getElem?_eq_getElem (show i < xs.length by omega)]
theorem pre_len (xs : List (List PV)) (i : Nat) (h : i ≤ xs.length) : (pre (fun i => ndOf (xs.getD i [])) i).length ≤ (xs.flatMap (fun x => (ndOf x).key)).length := by
  rw [pre_take xs i h]
  have e : xs.flatMap (fun x => (ndOf x).key) = (xs.take i).flatMap (fun x => (ndOf x).key) ++ (xs.drop i).flatMap (fun x => (ndOf x).key) := by
    rw [← List.flatMap_append, List.take_append_drop]
  rw [e, List.length_append]
  omega
theorem key_pos (x : Nd) : 0 < x.key.length := by simp [Nd.key]
theorem flat_len : ∀ xs : List (List PV), xs.length ≤ (xs.flatMap (fun x => (ndOf x).key)).length
  | [] => Nat.zero_le _
  | x :: xs => by
    rw [List.flatMap_cons, List.length_append, List.length_cons]
    have := flat_len xs
    have := key_pos (ndOf x)
    omega
theorem key_meets : Meets prog 137 keyF := by
  refine ⟨fun _ _ => ?_, fun h => (by cases h), fun _ h => (by cases h), fun g' h => (by cases h)⟩
  intro w Fz args avs bs r outs hgl hfz hnd hbs hreps hF o a next Q hnext
  obtain ⟨al, hal⟩ : ∃ al, args.toList = al := ⟨_, rfl⟩
  have harr : args = al.toArray := by rw [← hal, Array.toArray_toList]
  rw [hal] at hreps
  unfold keyF at hF
  split at hF
  · rename_i xs
    split at hF
    · rename_i l hl
      split at hF
      · rename_i hlen
        cases hF
        obtain ⟨rfl, hall⟩ := keyL_spec hl
        have hx0 : 0 < xs.length := by
          cases xs with
          | nil => simp at hlen
          | cons x xs => simp
        have hnode : ∀ i, i < xs.length → ∃ k, nodeKey (xs.getD i []) = some k := fun i hi => hall _ (by simp [List.getD, List.getElem?_eq_getElem hi])
        have hcell : ∀ i j, i < xs.length → cell2 xs i j = (xs.getD i [])[j]? := fun i j hi => by
          simp [cell2, List.getD, List.getElem?_eq_getElem hi]
        cases hreps with
        | cons h1 h2 =>
          cases h2
          have h1 := h1.imm rfl
          obtain ⟨k0, hk0⟩ := hnode 0 hx0
          have hq0 : cell2 xs 0 0 = some (.int .i64 (ndOf (xs.getD 0 [])).a) := by
            rw [hcell 0 0 hx0, (node_some hk0).2.2]; rfl
          obtain ⟨nb, no, cap, rfl, hcap, hn⟩ := imm_elems h1 hq0
          have hcs : ∀ i, i < xs.length → w.cell? ⟨nb, no + i * 5, none⟩ = some (.int .i64 (ndOf (xs.getD i [])).a) ∧ w.cell? ⟨nb, no + i * 5 + 1, none⟩ = some (.int .i64 (ndOf (xs.getD i [])).b) ∧ w.cell? ⟨nb, no + i * 5 + 2, none⟩ = some (.string (ndOf (xs.getD i [])).c) ∧ w.cell? ⟨nb, no + i * 5 + 3, none⟩ = some (.string (ndOf (xs.getD i [])).d) ∧ w.cell? ⟨nb, no + i * 5 + 4, none⟩ = some (.int .i64 (ndOf (xs.getD i [])).e) := by
            intro i hi
            obtain ⟨k, hk⟩ := hnode i hi
            obtain ⟨_, _, hx⟩ := node_some hk
            have hc : ∀ j p, (xs.getD i [])[j]? = some p → ∃ u, w.cell? ⟨nb, no + i * 5 + j, none⟩ = some u ∧ Imm w Fz u p := fun j p hp => by
              obtain ⟨u, h3, h4⟩ := hn i j p ((hcell i j hi).trans hp)
              exact ⟨u, by rw [Nat.add_assoc]; exact h3, h4⟩
            have hd : ∀ j p, ([.int .i64 (ndOf (xs.getD i [])).a, .int .i64 (ndOf (xs.getD i [])).b, .str (ndOf (xs.getD i [])).c.data.toList, .str (ndOf (xs.getD i [])).d.data.toList, .int .i64 (ndOf (xs.getD i [])).e] : List PV)[j]? = some p → ∃ u, w.cell? ⟨nb, no + i * 5 + j, none⟩ = some u ∧ Imm w Fz u p := fun j p hp => hc j p (by rw [hx]; exact hp)
            clear hc hx hk
            generalize ndOf (xs.getD i []) = y at *
            obtain ⟨u0, a0, b0⟩ := hd 0 _ rfl
            obtain ⟨u1, a1, b1⟩ := hd 1 _ rfl
            obtain ⟨u2, a2, b2⟩ := hd 2 _ rfl
            obtain ⟨u3, a3, b3⟩ := hd 3 _ rfl
            obtain ⟨u4, a4, b4⟩ := hd 4 _ rfl
            have hs : ∀ (u : Value) (s : ByteArray), Imm w Fz u (.str s.data.toList) → u = .string s := by
              intro u s h
              generalize hq : PV.str s.data.toList = q at h
              cases h <;> first | (cases hq; done) | skip
              rename_i s'
              simp only [PV.str.injEq] at hq
              have h9 : s = s' := by
                apply ByteArray.ext
                exact Array.toList_inj.1 hq
              rw [h9]
            obtain rfl := hs _ _ b2
            obtain rfl := hs _ _ b3
            cases b0; cases b1; cases b4
            exact ⟨a0, a1, a2, a3, a4⟩
          have hnb : nb < w.heap.size := cell_lt (hcs 0 hx0).1
          have hfl := flat_len xs
          have hx := key_calls w nb no xs.length cap (fun i => ndOf (xs.getD i [])) (by omega) hcap (fun i hi => by
            obtain ⟨k, hk⟩ := hnode i hi
            exact (node_some hk).1) (fun i hi => Nat.le_trans (pre_len xs i hi) hlen.2) hcs hnb
          subst harr
          have henter : ∀ args : Array Value, (callFunc 137 args).run prog w = .ok (.enter 137 args) w := fun args => enters_of func137 (by kernel_rfl) rfl _ _
          rw [henter, Oper.upon_enter]
          refine hx.mono ?_
          rintro e w' ⟨rfl, hb⟩
          rw [pre_take xs _ (Nat.le_refl _), List.take_length]
          exact hnext _ _ (below_plain hb (by rw [hal]; rfl) rfl (.str _))
      · cases hF
    · cases hF
  · cases hF
theorem Xc_meets (f : FuncId) : Meets prog f (Xc f) := by
  have key : ∀ (n : Nat) (F G : List PV → Option (PV × List (List PV))), Meets prog n F → (f ≠ n → Meets prog f G) → Meets prog f (fun avs => bif Nat.beq f n then F avs else G avs) := by
    intro n F G h1 h2
    cases hb : Nat.beq f n with
    | true =>
      obtain rfl := Nat.eq_of_beq_eq_true hb
      exact h1
    | false => exact h2 fun h => by subst h; simp at hb
  exact key 137 _ _ key_meets fun _ => key 37 _ _ extend_meets fun _ => key 91 _ _ clone_meets fun _ => none_meets f (bk_meets f)
theorem T_meets (k : Nat) (f : FuncId) : Meets prog f (T k f) := lvl_meets mixed_ok Xc_meets keepF lvF NN k f
end Go.PE
