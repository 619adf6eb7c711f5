/-
  A part of the proof that the law's function returns true and leaves its arguments as they were, for every input (no condition): own lemmas of the proof, in the order of their use.
-/
import Derived.Test.YtkfppicmdgbfjaaGreatDoorU26
set_option linter.all false
namespace Go.PE
open Go.RowKit Go.Proofs.Tryz
set_option maxRecDepth 100000
/-! ### Clauses, and what they determine -/
def junc (y s : Int) (l : List Int) : List (List Int) := l.map (fun k => [-y, s * k]) ++ [y :: l.map fun k => -s * k]
def clV (o x : Int) (l : List Int) : List (List Int) :=
  if o = 1 then [[x]] else if o = 2 then [[-x]] else if o = 7 then junc x 1 l else if o = 8 then junc (-x) (-1) l else
  if o = 9 then [[x, l.getD 0 0], [x, -l.getD 1 0], [-x, -l.getD 0 0, l.getD 1 0]] else
  if o = 11 then [[-x, -l.getD 0 0, l.getD 1 0], [-x, l.getD 0 0, -l.getD 1 0], [x, l.getD 0 0, l.getD 1 0], [x, -l.getD 0 0, -l.getD 1 0]] else
  [[-x, -l.getD 0 0, l.getD 1 0], [-x, l.getD 0 0, l.getD 2 0], [x, -l.getD 0 0, -l.getD 1 0], [x, l.getD 0 0, -l.getD 2 0]]
theorem litT_neg {vs : List Bool} {x : Int} (h : x ≠ 0) : litT vs (-x) = !litT vs x := by
  unfold litT
  rw [Int.natAbs_neg]
  by_cases hx : 0 < x
  · rw [decide_eq_true hx, decide_eq_false (show ¬ 0 < -x by omega)]
    cases vs.getD (x.natAbs - 1) false <;> rfl
  · rw [decide_eq_false hx, decide_eq_true (show 0 < -x by omega)]
    cases vs.getD (x.natAbs - 1) false <;> rfl
theorem cl_val {vs : List Bool} {o x : Int} {l : List Int} (h : ∀ c ∈ clV o x l, c.any (litT vs) = true) (hx : x ≠ 0) (hl : ∀ y ∈ l, y ≠ 0) (hc : countB o l.length = true) (ho : o = 1 ∨ o = 2 ∨ o = 7 ∨ o = 8 ∨ o = 9 ∨ o = 10 ∨ o = 11) : connV o (l.map (litT vs)) = some (litT vs x) := by
  have hnx := litT_neg (vs := vs) hx
  rcases ho with rfl | rfl | rfl | rfl | rfl | rfl | rfl
  · have h1 := h [x] (by simp [clV])
    simp only [List.any_cons, List.any_nil, Bool.or_false] at h1
    rw [h1]
    rfl
  · have h1 := h [-x] (by simp [clV])
    simp only [List.any_cons, List.any_nil, Bool.or_false, hnx] at h1
    cases hv : litT vs x with
    | true => rw [hv] at h1; cases h1
    | false => rfl
  · have h1 : ∀ k ∈ l, litT vs x = true → litT vs k = true := fun k hk e => by
      have := h [-x, 1 * k] (show _ ∈ junc x 1 l from List.mem_append_left _ (List.mem_map.2 ⟨k, hk, rfl⟩))
      simp only [List.any_cons, List.any_nil, Bool.or_false, hnx, e, Int.one_mul] at this
      simpa using this
    have h2 := h (x :: l.map fun k => -1 * k) (by simp [clV, junc])
    show some ((l.map (litT vs)).all id) = _
    congr 1
    cases hv : litT vs x with
    | true =>
      rw [List.all_eq_true]
      intro b hb
      obtain ⟨k, hk, rfl⟩ := List.mem_map.1 hb
      exact h1 k hk hv
    | false =>
      rw [List.any_cons, hv, Bool.false_or, List.any_eq_true] at h2
      obtain ⟨y, hy, h3⟩ := h2
      obtain ⟨k, hk, rfl⟩ := List.mem_map.1 hy
      rw [show -1 * k = -k by omega, litT_neg (hl k hk)] at h3
      rw [← Bool.not_eq_true, List.all_eq_true]
      intro h4
      have := h4 _ (List.mem_map.2 ⟨k, hk, rfl⟩)
      simp only [id] at this
      rw [this] at h3
      cases h3
  · have h1 : ∀ k ∈ l, litT vs k = true → litT vs x = true := fun k hk e => by
      have := h [-(-x), -1 * k] (show _ ∈ junc (-x) (-1) l from List.mem_append_left _ (List.mem_map.2 ⟨k, hk, rfl⟩))
      simp only [List.any_cons, List.any_nil, Bool.or_false, Int.neg_neg] at this
      rw [show -1 * k = -k by omega, litT_neg (hl k hk), e] at this
      simpa using this
    have h2 := h (-x :: l.map fun k => -(-1) * k) (by simp [clV, junc])
    show some ((l.map (litT vs)).any id) = _
    congr 1
    cases hv : litT vs x with
    | true =>
      rw [List.any_cons, hnx, hv, Bool.not_true, Bool.false_or, List.any_eq_true] at h2
      obtain ⟨y, hy, h3⟩ := h2
      obtain ⟨k, hk, rfl⟩ := List.mem_map.1 hy
      rw [show -(-1) * k = k by omega] at h3
      rw [List.any_eq_true]
      exact ⟨_, List.mem_map.2 ⟨k, hk, rfl⟩, h3⟩
    | false =>
      rw [← Bool.not_eq_true, List.any_eq_true]
      rintro ⟨b, hb, h4⟩
      obtain ⟨k, hk, rfl⟩ := List.mem_map.1 hb
      rw [h1 k hk h4] at hv
      cases hv
  · have hc2 : l.length = 2 := by simp [countB] at hc; omega
    match l, hc2 with
    | [a, b], _ =>
      have h1 := h [x, a] (by simp [clV])
      have h2 := h [x, -b] (by simp [clV])
      have h3 := h [-x, -a, b] (by simp [clV])
      simp only [List.any_cons, List.any_nil, Bool.or_false, hnx, litT_neg (hl a (by simp)), litT_neg (hl b (by simp))] at h1 h2 h3
      show some (!litT vs a || litT vs b) = _
      generalize litT vs a = p, litT vs b = q, litT vs x = r at *
      cases p <;> cases q <;> cases r <;> first | rfl | contradiction
  · have hc2 : l.length = 3 := by simp [countB] at hc; omega
    match l, hc2 with
    | [a, b, c], _ =>
      have h1 := h [-x, -a, b] (by simp [clV])
      have h2 := h [-x, a, c] (by simp [clV])
      have h3 := h [x, -a, -b] (by simp [clV])
      have h4 := h [x, a, -c] (by simp [clV])
      simp only [List.any_cons, List.any_nil, Bool.or_false, hnx, litT_neg (hl a (by simp)), litT_neg (hl b (by simp)), litT_neg (hl c (by simp))] at h1 h2 h3 h4
      show some (if litT vs a then litT vs b else litT vs c) = _
      generalize litT vs a = p, litT vs b = q, litT vs c = s, litT vs x = r at *
      cases p <;> cases q <;> cases s <;> cases r <;> first | rfl | contradiction
  · have hc2 : l.length = 2 := by simp [countB] at hc; omega
    match l, hc2 with
    | [a, b], _ =>
      have h1 := h [-x, -a, b] (by simp [clV])
      have h2 := h [-x, a, -b] (by simp [clV])
      have h3 := h [x, a, b] (by simp [clV])
      have h4 := h [x, -a, -b] (by simp [clV])
      simp only [List.any_cons, List.any_nil, Bool.or_false, hnx, litT_neg (hl a (by simp)), litT_neg (hl b (by simp))] at h1 h2 h3 h4
      show some (litT vs a == litT vs b) = _
      generalize litT vs a = p, litT vs b = q, litT vs x = r at *
      cases p <;> cases q <;> cases r <;> first | rfl | contradiction
/-! ### extend gives back the values -/
def frow (l : List Nat) : List (List PV) := l.map fun (i : Nat) => [.int .i64 (i : Int)]
theorem frow_at {l : List Nat} {v : Nat} (h : v < l.length) : intAt (frow l) v = some ((l.getD v 0 : Nat) : Int) := by
  unfold intAt frow
  rw [List.getElem?_map, List.getElem?_eq_getElem h]
  simp [List.getD, List.getElem?_eq_getElem h]
theorem unInts_zrow : ∀ l : List Int, unInts (zrow l) = some l
  | [] => rfl
  | a :: l => by
    have ih := unInts_zrow l
    unfold zrow at ih ⊢
    rw [List.map_cons, unInts, ih]
theorem krow_at {l : List (List Int)} {v : Nat} (h : v < l.length) (hk : (l.getD v []).length ≤ 1000000) : kidsAt (crow l) v = some (l.getD v []) := by
  unfold kidsAt
  rw [crow_get h]
  show (if (zrow (l.getD v [])).length ≤ 1000000 then unInts (zrow (l.getD v [])) else none) = _
  rw [zrow_len, if_pos hk]
  exact unInts_zrow _
section
variable {t : List Node} {ps : List Part} {rs : List Int} {S : Enc} {vs : List Bool}
theorem conn_at {i m : Nat} (hN : NodeAt t ps i m) (hi : i < t.length) (hp : ps.length = t.length) : opAt (nrow t) i = some (t.getD i noNode).op ∧ connAt (nrow t) (zrow (srtL ps)) i = some (connB t ps i) := by
  have ho : opAt (nrow t) i = some (t.getD i noNode).op := by
    unfold opAt
    rw [if_pos (by omega), Int.toNat_natCast, nrow_get hi]
    rfl
  refine ⟨ho, ?_⟩
  have hls : (srtL ps).length = t.length := by simp [srtL, hp]
  have hz : ∀ j, j < t.length → intAt (zrow (srtL ps)) j = some (ps.getD j noPart).sort := fun j hj => by
    unfold intAt
    rw [zrow_get (by omega), srtL_get]
  have hc := hN.cnt
  have hm := hN.mem
  have hop := fields_op hN.flds
  unfold connAt connB
  rw [ho]
  simp only
  rw [if_neg (by omega)]
  split
  · rfl
  · split
    · rw [Int.toNat_natCast, hz i hi]
      rfl
    · split
      · rename_i h11
        rw [h11] at hc
        obtain ⟨m', rfl⟩ : ∃ m', m = m' + 1 := ⟨m - 1, by simp [countB] at hc; omega⟩
        have hq := hm ((i : Int) + 1) (by simp [kidsV])
        rw [Int.toNat_natCast, hz (i + 1) (by omega)]
        rfl
      · rfl
/-- Whether variable v is an atom. -/
def atmB (t : List Node) (ps : List Part) (S : Enc) (v : Nat) : Bool := !connB t ps (S.fs.getD v 0)
def atmL (t : List Node) (ps : List Part) (S : Enc) (n : Nat) : List Nat := (List.range n).filter (atmB t ps S)
theorem atmL_succ (n : Nat) : atmL t ps S (n + 1) = atmL t ps S n ++ if atmB t ps S n = true then [n] else [] := by
  unfold atmL
  rw [List.range_succ, List.filter_append]
  congr 1
  simp only [List.filter_cons, List.filter_nil]
theorem atmL_at {v : Nat} (h : atmB t ps S v = true) : ∀ n, v < n → (atmL t ps S n)[(atmL t ps S v).length]? = some v
  | 0, hn => by omega
  | n + 1, hn => by
    rw [atmL_succ]
    by_cases hv : v = n
    · subst hv
      rw [if_pos h]
      simp
    · have ih := atmL_at h n (by omega)
      rw [List.getElem?_append_left (by obtain ⟨h1, _⟩ := List.getElem?_eq_some_iff.1 ih; exact h1)]
      exact ih
theorem conn_of (hI : LkTree t 0 ps rs) (hp : ps.length = t.length) (hS : EncI t ps S) {v : Nat} (hv : v < S.ky.length) : connOf (nrow t) (zrow (srtL ps)) (frow S.fs) v = some (connB t ps (S.fs.getD v 0)) := by
  obtain ⟨h1, h2, h3⟩ := hS.at' v hv
  obtain ⟨m, hN⟩ := hI.nodes (S.fs.getD v 0) (by omega) h1
  unfold connOf
  rw [frow_at (by rw [hS.l1]; exact hv)]
  exact (conn_at hN h1 hp).2
theorem cnt_at (hI : LkTree t 0 ps rs) (hp : ps.length = t.length) (hS : EncI t ps S) : ∀ v, v ≤ S.ky.length → cntA (nrow t) (zrow (srtL ps)) (frow S.fs) v = (atmL t ps S v).length
  | 0, _ => rfl
  | v + 1, hv => by
    rw [cntA, cnt_at hI hp hS v (by omega), conn_of hI hp hS (by omega), atmL_succ, List.length_append]
    unfold atmB
    cases connB t ps (S.fs.getD v 0) <;> simp
theorem allB_of {f : Int → Option Bool} {g : Int → Bool} : ∀ {l : List Int}, (∀ x ∈ l, f x = some (g x)) → allB f l = some (l.map g)
  | [], _ => rfl
  | x :: l, h => by rw [allB, h x (by simp), allB_of fun y hy => h y (by simp [hy])]; rfl
theorem vv_val (hI : LkTree t 0 ps rs) (hl : t.length ≤ 1000000) (hp : ps.length = t.length) (hS : EncI t ps S) (hF : ∀ v, v < S.ky.length → Full t ps S v)
    (hc : ∀ v, v < S.ky.length → connB t ps (S.fs.getD v 0) = true → ∀ c ∈ clV (t.getD (S.fs.getD v 0) noNode).op ((v : Int) + 1) (S.kd.getD v []), c.any (litT vs) = true) :
    ∀ N v, (S.ky.getD v []).length < N → v < S.ky.length → vv (nrow t) (zrow (srtL ps)) (frow S.fs) (crow S.kd) (brow ((atmL t ps S S.ky.length).map fun v => vs.getD v false)) N v = some (vs.getD v false)
  | 0, v, h, _ => by omega
  | N + 1, v, h, hv => by
    obtain ⟨h1, h2, h3⟩ := hS.at' v hv
    obtain ⟨m, hN⟩ := hI.nodes (S.fs.getD v 0) (by omega) h1
    have hF := hF v hv
    have hc := hc v hv
    unfold vv
    rw [frow_at (by rw [hS.l1]; exact hv)]
    simp only
    rw [(conn_at hN h1 hp).1, (conn_at hN h1 hp).2]
    unfold Full at hF
    cases e1 : connB t ps (S.fs.getD v 0) with
    | false =>
      simp only
      have e := e1
      rw [cnt_at hI hp hS v (by omega)]
      have := atmL_at (t := t) (ps := ps) (S := S) (v := v) (by unfold atmB; rw [e]; rfl) _ hv
      unfold boolAt brow
      rw [List.getElem?_map, List.getElem?_map, this]
      rfl
    | true =>
      simp only
      obtain ⟨o, e2⟩ : ∃ o, (t.getD (S.fs.getD v 0) noNode).op = o := ⟨_, rfl⟩
      rw [e2]
      rw [if_pos e1] at hF
      obtain ⟨f1, f2⟩ := hF
      have hc := hc e1
      have hfw := hI.few hN
      have hle := hN.le
      rw [krow_at (by rw [hS.l2]; exact hv) (by rw [f1, hN.kids, Int.toNat_natCast]; omega)]
      simp only
      have hlen := keyS_len (t := t) (ps := ps) (i := S.fs.getD v 0) (by have := hN.lt; unfold finN; omega)
      rw [h2] at h
      rw [allB_of (g := litT vs)]
      · simp only
        have ho := fields_op hN.flds
        have hcn := hN.cnt
        rw [hN.kids, Int.toNat_natCast] at f1
        rw [e2] at ho hcn hc h3
        have : connV o ((S.kd.getD v []).map (litT vs)) = some (litT vs ((v : Int) + 1)) := by
          refine cl_val hc (by omega) (fun y hy => (f2 y hy).1) (by rw [f1]; exact hcn) ?_
          unfold connB at e1
          rw [e2] at e1
          by_cases q1 : o = 1 ∨ o = 2 ∨ o = 6 ∨ o = 7 ∨ o = 8 ∨ o = 9
          · omega
          · simp only [if_neg q1] at e1
            by_cases q2 : o = 10
            · omega
            · by_cases q3 : o = 11
              · omega
              · simp [q2, q3] at e1
        rw [this]
        congr 1
        unfold litT
        rw [decide_eq_true (show (0 : Int) < (v : Int) + 1 by omega), show ((v : Int) + 1).natAbs - 1 = v by omega]
        cases vs.getD v false <;> rfl
      · intro x hx
        obtain ⟨x1, x2, x3⟩ := f2 x hx
        have hkp : 0 < (keyS t ps (S.fs.getD v 0)).length := by
          have := pl_succ (t := t) (j := S.fs.getD v 0) h1
          have := pl_mono (t := t) (a := S.fs.getD v 0 + 1) (b := finN ps (S.fs.getD v 0)) (by have := hN.lt; unfold finN; omega) (by have := hN.le; unfold finN; omega)
          omega
        have ih := vv_val hI hl hp hS ‹_› ‹_› N (x.natAbs - 1) (by omega) (by omega)
        unfold litB litT
        by_cases p : 0 < x
        · rw [if_pos p, show x.toNat - 1 = x.natAbs - 1 by omega, ih, decide_eq_true p]
          cases vs.getD (x.natAbs - 1) false <;> rfl
        · rw [if_neg p, if_pos (by omega), show (-x).toNat - 1 = x.natAbs - 1 by omega, ih, decide_eq_false p]
          cases vs.getD (x.natAbs - 1) false <;> rfl
theorem allN_of {f : Nat → Option Bool} {vs : List Bool} : ∀ n, n ≤ vs.length → (∀ v, v < n → f v = some (vs.getD v false)) → allN f n = some (vs.take n)
  | 0, _, _ => rfl
  | n + 1, hn, h => by
    rw [allN, allN_of n (by omega) fun v hv => h v (by omega), h n (by omega)]
    simp only
    rw [List.take_add_one, List.getElem?_eq_getElem (by omega)]
    simp [List.getD, List.getElem?_eq_getElem (show n < vs.length by omega)]
end
end Go.PE
namespace Go.PE
open Go.RowKit Go.Proofs.Tryz
set_option maxRecDepth 100000
variable {k : Nat}
/-! ### spans: Key, Sub -/
def subT (t : List Node) (ps : List Part) (i : Nat) : List Node := (t.take (finN ps i)).drop i
theorem nrow_sub {t : List Node} {ps : List Part} {i f : Nat} (h : finN ps i = f) : List.take ((f : Int).toNat - (i : Int).toNat) (List.drop (i : Int).toNat (nrow t)) = nrow (subT t ps i) := by
  rw [Int.toNat_natCast, Int.toNat_natCast, subT, h, List.drop_take]
  simp [nrow, List.map_drop, List.map_take]
/-- What the law lets in. -/
structure Sm (t : List Node) : Prop where
  len : t.length ≤ 200
  txt : ∀ n ∈ t, n.name.length ≤ 60 ∧ n.num.length ≤ 60
theorem fields_srt {n : Node} (h : fieldsB n = true) : 0 ≤ n.sort ∧ n.sort ≤ 4 := by
  unfold fieldsB at h
  split at h
  · simp only [Bool.and_eq_true] at h
    have := h.2
    unfold numB at this
    simp only [Bool.or_eq_true, Bool.and_eq_true, decide_eq_true_eq] at this
    omega
  · split at h
    · simp only [Bool.and_eq_true, decide_eq_true_eq] at h
      omega
    · split at h
      · simp only [Bool.and_eq_true, decide_eq_true_eq] at h
        omega
      · simp only [Bool.and_eq_true, decide_eq_true_eq] at h
        omega
structure NodeS (n : Node) : Prop where
  op : 0 ≤ n.op ∧ n.op < 1000
  srt : 0 ≤ n.sort ∧ n.sort < 1000
  kid : 0 ≤ n.kids ∧ n.kids < 1000
  nm : n.name.length ≤ 60
  num : n.num.length ≤ 60
theorem node_key {n : Node} (h : NodeS n) : nodeKey (nodeP n) = some (nkey n) := by
  show (match itoaC n.op, itoaC n.sort, itoaC n.kids with
    | some a, some b, some e => some (a ++ 32 :: (b ++ 32 :: (e ++ 32 :: (n.name ++ 32 :: (n.num ++ [10])))))
    | _, _, _ => none) = _
  unfold itoaC
  rw [if_pos h.op, if_pos h.srt, if_pos h.kid]
  rfl
theorem keyL_nrow : ∀ {l : List Node}, (∀ n ∈ l, NodeS n) → keyL (nrow l) = some (l.flatMap nkey)
  | [], _ => rfl
  | n :: l, h => by
    have ih := keyL_nrow (l := l) fun m hm => h m (by simp [hm])
    show (match nodeKey (nodeP n), keyL (nrow l) with
      | some a, some b => some (a ++ b)
      | _, _ => none) = _
    rw [node_key (h n (by simp)), ih]
    rfl
theorem decN_le {n : Nat} (h : n < 1000) : (decN n).length ≤ 3 := by
  rw [decN_eq]
  by_cases h1 : n < 10
  · rw [dec_small h1]; simp
  · by_cases h2 : n < 100
    · rw [dec_big (by omega), dec_small (by omega)]; simp
    · rw [dec_big (by omega), dec_big (n := n / 10) (by omega), dec_small (by omega)]; simp
theorem nkey_le {n : Node} (h : NodeS n) : (nkey n).length ≤ 140 := by
  have h1 := decN_le (n := n.op.toNat) (by have := h.op; omega)
  have h2 := decN_le (n := n.sort.toNat) (by have := h.srt; omega)
  have h3 := decN_le (n := n.kids.toNat) (by have := h.kid; omega)
  have h4 := h.nm
  have h5 := h.num
  unfold nkey
  simp only [List.length_append, List.length_cons, List.length_nil]
  omega
theorem keys_le : ∀ {l : List Node}, (∀ n ∈ l, NodeS n) → (l.flatMap nkey).length ≤ 140 * l.length
  | [], _ => Nat.le_refl _
  | n :: l, h => by
    have h1 := keys_le (l := l) fun m hm => h m (by simp [hm])
    have h2 := nkey_le (h n (by simp))
    rw [List.flatMap_cons, List.length_append, List.length_cons]
    omega
section
variable {t : List Node} {ps : List Part} {rs : List Int}
theorem LkTree.nodeS (hI : LkTree t 0 ps rs) (hs : Sm t) : ∀ n ∈ t, NodeS n := fun n hn => by
  obtain ⟨i, hi⟩ := List.getElem?_of_mem hn
  obtain ⟨hlt, he⟩ := List.getElem?_eq_some_iff.1 hi
  have hg : t.getD i noNode = n := by simp [List.getD, hi]
  obtain ⟨m, hN⟩ := hI.nodes i (by omega) hlt
  have hf := hI.few hN
  have h1 := hN.le
  have h2 := hN.kids
  have h3 := hs.txt n hn
  have h4 := hs.len
  have h5 := fields_op hN.flds
  have h6 := fields_srt hN.flds
  rw [hg] at h2 h5 h6
  exact ⟨by omega, by omega, by omega, h3.1, h3.2⟩
theorem keyF_sub (hI : LkTree t 0 ps rs) (hs : Sm t) {i : Nat} (hi : i < t.length) (h1 : i < finN ps i) (h2 : finN ps i ≤ t.length) : Xc 137 [.imm 5 (nrow (subT t ps i))] = some (.str (keyS t ps i), []) := by
  have hm : ∀ n ∈ subT t ps i, NodeS n := fun n hn => hI.nodeS hs n (List.mem_of_mem_take (List.mem_of_mem_drop hn))
  show keyF [.imm 5 (nrow (subT t ps i))] = _
  unfold keyF
  simp only
  rw [keyL_nrow hm]
  have hl := keys_le hm
  have hsl : (subT t ps i).length ≤ t.length := by unfold subT; simp; omega
  have hlen := hs.len
  have h0 : 0 < (keyS t ps i).length := by
    have e := keyS_len (t := t) (ps := ps) (i := i) (by omega)
    have := pl_succ (t := t) (j := i) hi
    have := pl_mono (t := t) (a := i + 1) (b := finN ps i) (by omega) h2
    omega
  have he : (subT t ps i).flatMap nkey = keyS t ps i := rfl
  rw [he] at hl ⊢
  simp only
  rw [if_pos ⟨h0, by omega⟩]
theorem tkey_T (hI : LkTree t 0 ps rs) (hs : Sm t) {i : Nat} (hi : i < t.length) (hp : ps.length = t.length) : T (k + 1) 111 [treeP t (finL ps) (srtL ps), .int .i64 i] = some (.str (keyS t ps i), []) := by
  have hl := hs.len
  obtain ⟨m, hN⟩ := hI.nodes i (by omega) hi
  have h1 : i < finN ps i := by have := hN.lt; unfold finN; omega
  have h2 : finN ps i ≤ t.length := by have := hN.le; unfold finN; omega
  have hfl : (finL ps).length = t.length := by simp [finL, hp]
  have hz := zrow_get (l := finL ps) (i := i) (by omega)
  have hK := keyF_sub hI hs hi h1 h2
  obtain ⟨f, hf⟩ : ∃ f : Nat, (ps.getD i noPart).fin = f := ⟨(ps.getD i noPart).fin.toNat, by unfold finN at h1; omega⟩
  have hfn : finN ps i = f := by unfold finN; rw [hf]; simp
  rw [finL_get, hf] at hz
  unfold treeP
  refine enter rfl func111 rfl (by decide) (by kernel_rfl) rfl rfl ?_
  refine zd8 ?_
  refine WX.idxImmD tab_eq rfl rfl rfl rfl rfl rfl (by omega) (hz) ?_
  refine zd0 ?_
  refine WX.stepD tab_eq rfl rfl (by simp only [nrow_len]; omega) ?_
  refine zd0 ?_
  rw [nrow_sub hfn]
  refine zd5 (byX hK) ?_
  rfl
theorem tsub_T (hI : LkTree t 0 ps rs) (hs : Sm t) {i : Nat} (hi : i < t.length) (hp : ps.length = t.length) : T (k + 2) 35 [treeP t (finL ps) (srtL ps), .int .i64 i] = some (.own (0, 0) 5 (nrow (subT t ps i)), []) := by
  have hl := hs.len
  obtain ⟨m, hN⟩ := hI.nodes i (by omega) hi
  have h1 : i < finN ps i := by have := hN.lt; unfold finN; omega
  have h2 : finN ps i ≤ t.length := by have := hN.le; unfold finN; omega
  have hfl : (finL ps).length = t.length := by simp [finL, hp]
  have hz := zrow_get (l := finL ps) (i := i) (by omega)
  have hsl : (subT t ps i).length ≤ t.length := by unfold subT; simp; omega
  have hC : T (k + 1) 54 [.imm 5 (nrow (subT t ps i))] = some (.own (0, 0) 5 (nrow (subT t ps i)), []) := by
    refine enter rfl func54 rfl (by decide) (by kernel_rfl) rfl rfl ?_
    refine zs0 ?_
    refine WX.step tab_eq rfl rfl (by simp [nrow_len] <;> omega) ?_
    refine zs0 ?_
    rfl
  obtain ⟨f, hf⟩ : ∃ f : Nat, (ps.getD i noPart).fin = f := ⟨(ps.getD i noPart).fin.toNat, by unfold finN at h1; omega⟩
  have hfn : finN ps i = f := by unfold finN; rw [hf]; simp
  rw [finL_get, hf] at hz
  unfold treeP
  refine enter rfl func35 rfl (by decide) (by kernel_rfl) rfl rfl ?_
  refine zd8 ?_
  refine WX.idxImmD tab_eq rfl rfl rfl rfl rfl rfl (by omega) (hz) ?_
  refine zd0 ?_
  refine WX.stepD tab_eq rfl rfl (by simp only [nrow_len]; omega) ?_
  refine zd0 ?_
  rw [nrow_sub hfn]
  refine zd5 hC ?_
  rfl
end
end Go.PE
namespace Go.PE
open Go.RowKit Go.Proofs.Tryz
set_option maxRecDepth 100000
variable {k : Nat}
/-! ### literal -/
def numR (a n : Nat) : List (List PV) := (List.range' a n).map fun (v : Nat) => [.int .i64 ((v : Int) + 1)]
theorem num_some : ∀ {l : List Bs} {x : Bs} {v : Nat} (a : Nat), findK l x = some v → mapGet l (numR a l.length) x = some [.int .i64 (((a + v : Nat) : Int) + 1)]
  | [], _, _, _, h => by cases h
  | y :: l, x, v, a, h => by
    unfold findK at h
    show (if y = x then some [PV.int .i64 ((a : Int) + 1)] else mapGet l (numR (a + 1) l.length) x) = _
    split at h
    · rename_i e
      cases h
      rw [if_pos e]
      rfl
    · rename_i e
      rw [if_neg e]
      cases hf : findK l x with
      | none => rw [hf] at h; cases h
      | some w =>
        rw [hf] at h
        cases h
        rw [num_some (a + 1) hf, show a + 1 + w = a + (w + 1) by omega]
theorem num_none : ∀ {l : List Bs} {x : Bs} (a : Nat), findK l x = none → mapGet l (numR a l.length) x = none
  | [], _, _, _ => rfl
  | y :: l, x, a, h => by
    unfold findK at h
    show (if y = x then some [PV.int .i64 ((a : Int) + 1)] else mapGet l (numR (a + 1) l.length) x) = _
    split at h
    · cases h
    · rename_i e
      rw [if_neg e]
      cases hf : findK l x with
      | none => exact num_none (a + 1) hf
      | some w => rw [hf] at h; cases h
theorem num_put : ∀ {l : List Bs} {x : Bs} (a : Nat), findK l x = none → mapPut l (numR a l.length) x [.int .i64 (((a + l.length : Nat) : Int) + 1)] = (l ++ [x], numR a (l ++ [x]).length)
  | [], _, _, _ => rfl
  | y :: l, x, a, h => by
    unfold findK at h
    have hl : numR a (y :: l).length = [PV.int .i64 ((a : Int) + 1)] :: numR (a + 1) l.length := rfl
    split at h
    · cases h
    · rename_i e
      cases hf : findK l x with
      | none =>
        have ih := num_put (a + 1) hf
        rw [show a + 1 + l.length = a + (y :: l).length by rw [List.length_cons]; omega] at ih
        show (if y = x then _ else (y :: (mapPut l (numR (a + 1) l.length) x _).1, [PV.int .i64 ((a : Int) + 1)] :: (mapPut l (numR (a + 1) l.length) x _).2)) = _
        rw [if_neg e, ih]
        rfl
      | some w => rw [hf] at h; cases h
theorem frow_len (l : List Nat) : (frow l).length = l.length := by simp [frow]
theorem frow_snoc (l : List Nat) (i : Nat) : frow l ++ [[.int .i64 (i : Int)]] = frow (l ++ [i]) := by simp [frow]
theorem crow_snoc (l : List (List Int)) (x : List Int) : crow l ++ [[.imm 1 (zrow x)]] = crow (l ++ [x]) := by simp [crow]
section
variable {P : Program} {Φ : FuncId → List PV → Option (PV × List (List PV))} {keep : List Nat} {td : TypeId → TD} {ops : Array Oper} {rid i : Nat} {r : List Oper} {e : List (Nat × PV)} {K : List (Nat × PV) → Prop} {ty : TypeId} {pos : String} {after : Array Edge} {guard : Option (Nat × Bool)}
theorem WX.lkM (htd : td = tdOf P) {d : Nat} {t : TypeId} {x kx : Operand} {ks : List Bs} {vs : List (List PV)} {key : Bs} {dflt : List PV} {v : PV} (hg : guardOf ops { dst := some d, op := .lookup t x kx true, type := ty, pos := pos, after := after, guard := guard } (lookup e) = some true)
    (hT : (td t).mp = some (false, dflt)) (hx : mapOf (res (lookup e) x) = some ((false, ks), vs)) (hk : (res (lookup e) kx).1 = .str key) (hv : (mapGet ks vs key).getD dflt = [v])
    (k : onUps [(d, .tup [v, .bool (mapGet ks vs key).isSome])] e fun e' => WX P Φ keep ops rid (i + 1) r e' none K) :
    WX P Φ keep ops rid i ({ dst := some d, op := .lookup t x kx true, type := ty, pos := pos, after := after, guard := guard } :: r) e none K := by
  subst htd
  refine WX.rawN hg ?_ k
  have hT : mapT P t = some (false, dflt) := hT
  simp only [sem, hT]
  unfold lookupS
  rw [hx, hk]
  simp [hv, rowVal]
theorem WX.muM (htd : td = tdOf P) {t : TypeId} {m kx : Operand} {s : Nat} {ks ks' : List Bs} {vs vs' : List (List PV)} {key : Bs} {dflt : List PV} {v root : PV} {q : Nat} {pl : Option Nat} {st : Stamp} (hg : guardOf ops { dst := none, op := .mapUpdate t m kx (.tmp s), type := ty, pos := pos, after := after, guard := guard } (lookup e) = some true)
    (hT : (td t).mp = some (false, dflt)) (hm : res (lookup e) m = (.mref q pl st, root)) (hx : mapIf root pl st = some ((false, ks), vs)) (hk : (res (lookup e) kx).1 = .str key) (hs : (res (lookup e) (.tmp s)).1 = v) (hv : valRow false v = some [v]) (hp : mapPut ks vs key [v] = (ks', vs'))
    (k : onUps [(q, putAt root pl (.omap st (false, ks') vs'))] e fun e' => WX P Φ keep ops rid (i + 1) r e' none K) :
    WX P Φ keep ops rid i ({ dst := none, op := .mapUpdate t m kx (.tmp s), type := ty, pos := pos, after := after, guard := guard } :: r) e none K := by
  subst htd
  refine WX.rawN hg ?_ k
  have hT : mapT P t = some (false, dflt) := hT
  simp only [sem, hT]
  rw [hm, hk]
  show mapUpdS false m (.mref q pl st, root) (.str key) (res (lookup e) (.tmp s)).1 = _
  rw [hs]
  unfold mapUpdS
  simp [hv, hx, hp]
theorem WX.stElemU (htd : td = tdOf P) {t : TypeId} {x y : Operand} {rr j kk sz n : Nat} {pl : Option Nat} {st : Stamp} {xs : List (List PV)} {cell new : List PV} {us : Ups}
    (hg : guardOf ops { dst := none, op := .store t x y, type := ty, pos := pos, after := after, guard := guard } (lookup e) = some true)
    (hx : (res (lookup e) x).1 = .eloc rr pl st j kk) (hr : rowIf (res (lookup e) x).2 pl st = some (sz, xs)) (hc : xs[j]? = some cell) (hn : (td t).size = some n)
    (hy : cellsFrozen y (hintT td t y (res (lookup e) y)) = some (new, us)) (hl : (Nat.beq new.length n && (Nat.ble (kk + n) cell.length && nodupB (rr :: us.map (·.1)))) = true)
    (k : onUps ((rr, putAt (res (lookup e) x).2 pl (.own st sz (xs.set j (splice cell new kk)))) :: us) e fun e' => WX P Φ keep ops rid (i + 1) r e' none K) :
    WX P Φ keep ops rid i ({ dst := none, op := .store t x y, type := ty, pos := pos, after := after, guard := guard } :: r) e none K := by
  subst htd
  have hn : sizeT P t = some n := hn
  refine WX.rawN hg ?_ k
  have hp : placeOf x (res (lookup e) x) = some (.elem rr pl (res (lookup e) x).2 st sz xs j kk) := by
    unfold placeOf
    rw [hx]
    simp only [hr]
  rw [Bool.and_eq_true, Bool.and_eq_true, Nat.beq_eq, Nat.ble_eq] at hl
  have hy : cellsFrozen y (hint P t y (res (lookup e) y)) = some (new, us) := hy
  have hq : storeP n x (res (lookup e) x) y (hint P t y (res (lookup e) y)) = none := by
    unfold storeP
    split
    · rename_i hb; rw [hx] at hb; cases hb
    · rfl
  simp only [sem, hn, storeQ, hq, storeS, hp, hy, hc]
  rw [if_pos ⟨hl.1, hl.2.1, hl.2.2⟩]
end
theorem kidsV_sub (ps : List Part) {a z : Int} {j : Nat} (hz : z ∈ kidsV ps j a) : ∀ {m : Nat}, j ≤ m → z ∈ kidsV ps m a
  | m, h => by
    induction m with
    | zero => rw [show j = 0 by omega] at hz; exact hz
    | succ m ih =>
      by_cases e : j = m + 1
      · rw [← e]; exact hz
      · rw [kidsV_succ]
        exact List.mem_append_left _ (ih (by omega))
def encP (t : List Node) (ps : List Part) (S : Enc) (root : Int) (s1 s2 s3 : Stamp) : List PV := [treeP t (finL ps) (srtL ps), .omap s1 (false, S.ky) (numR 0 S.ky.length), .own s2 1 (frow S.fs), .own s3 1 (crow S.kd), .int .i64 root, .bool false]
set_option maxHeartbeats 8000000 in
theorem lit_T {t : List Node} {ps : List Part} {rs : List Int} (hI : LkTree t 0 ps rs) (hs : Sm t) (hp : ps.length = t.length) : ∀ (n i : Nat) (S : Enc), t.length - i < n → i < t.length → EncI t ps S → S.ky.length + (finN ps i - i) ≤ 999 →
    ∃ s1 s2 s3, T (k + n + 2) 82 [.box (0, 0) (encP t ps S 0 (0, 0) (0, 0) (0, 0)), .int .i64 i] = some (.int .i64 (litV t ps n i S).1, [encP t ps (litV t ps n i S).2 0 s1 s2 s3])
  | 0, i, S, h, _, _, _ => by omega
  | n + 1, i, S, hn, hi, hS, hb => by
    have hl := hs.len
    obtain ⟨m, hN⟩ := hI.nodes i (by omega) hi
    have hg := nrow_get (t := t) (i := i) hi
    have hkey := tkey_T (k := k + n + 1) hI hs hi hp
    have hcon := conn_T (k := k + n + 1) hN hi (by omega) hp
    have hkids := skids_T (k := k + n + 1) hN hi (by omega) hp (by have := hI.few hN; have := hN.le; omega)
    have hkm : (t.getD i noNode).kids.toNat = m := by rw [hN.kids]; simp
    have ih := fun z S' h1 h2 h3 h4 => lit_T hI hs hp n z S' h1 h2 h3 h4
    have ihk := fun z S' h1 h2 h3 => litV_ok hI n z S' h1 h2 h3
    have l1 := hS.l1
    have l2 := hS.l2
    unfold litV
    rw [hkm]
    have hg : (nrow t)[i]? = some [.int .i64 (t.getD i noNode).op, .int .i64 (t.getD i noNode).sort, .str (t.getD i noNode).name, .str (t.getD i noNode).num, .int .i64 (t.getD i noNode).kids] := hg
    by_cases h6 : (t.getD i noNode).op = 6
    · rw [if_pos h6]
      have hc := hN.cnt
      rw [h6] at hc
      obtain rfl : m = 1 := by simp [countB] at hc; omega
      obtain ⟨h1, h2, h3, h4, h5⟩ := hI.kid hN (z := (i : Int) + 1) (by simp [kidsV])
      rw [show ((i : Int) + 1).toNat = i + 1 by omega] at h3 h4
      have hok := ihk (i + 1) S (by omega) (by omega) hS
      have h8 := hok.lit.2.1
      have h9 := hok.len
      obtain ⟨s1, s2, s3, hT⟩ := ih (i + 1) S (by omega) (by omega) hS (by omega)
      unfold encP at *
      unfold treeP at *
      refine ⟨(3, 3), (3, 3), (3, 3), ?_⟩
      refine enter rfl func82 rfl (by decide) (by kernel_rfl) rfl rfl ?_
      refine zs0 ?_
      refine WX.idxImm tab_eq rfl rfl rfl rfl rfl rfl (by omega) (hg) ?_
      refine zs0 ?_
      refine W.cond rfl (fun c1 => ?_) (fun c1 => ?_)
      · refine zs0 ?_
        rw [wrap_i64 (x := (i : Int) + 1) (by omega) (by omega)]
        refine zs2 hT ?_
        rw [show (0 : Int) - (litV t ps n (i + 1) S).1 = -(litV t ps n (i + 1) S).1 by omega, wrap_i64 (x := -(litV t ps n (i + 1) S).1) (by omega) (by omega)]
        show some _ = some _
        rfl
      · exact absurd h6 (of_decide_eq_false c1)
    · rw [if_neg h6]
      cases hf : findK S.ky (keyS t ps i) with
      | some v =>
        have hget := num_some 0 hf
        obtain ⟨hv1, _⟩ := findK_some hf
        unfold encP
        unfold treeP at *
        refine ⟨(0, 0), (0, 0), (0, 0), ?_⟩
        refine enter rfl func82 rfl (by decide) (by kernel_rfl) rfl rfl ?_
        refine zs0 ?_
        refine WX.idxImm tab_eq rfl rfl rfl rfl rfl rfl (by omega) (hg) ?_
        refine zs0 ?_
        refine W.cond rfl (fun c1 => ?_) (fun c1 => ?_)
        · exact absurd (of_decide_eq_true c1) h6
        · refine zs1 hkey ?_
          refine WX.lkM tab_eq rfl rfl rfl rfl (by rw [hget]; rfl) ?_
          rw [hget, Nat.zero_add]
          refine zs0 ?_
          show some _ = some _
          rfl
      | none =>
        have hget := num_none 0 hf
        have hput := num_put 0 hf
        rw [Nat.zero_add] at hput
        simp only
        have hfin := hN.fin
        have hlt := hN.lt
        have hA : ((S.add (keyS t ps i) i).ky = S.ky ++ [keyS t ps i] ∧ (S.add (keyS t ps i) i).fs = S.fs ++ [i] ∧ (S.add (keyS t ps i) i).kd = S.kd ++ [[]]) := ⟨rfl, rfl, rfl⟩
        have hAi : EncI t ps (S.add (keyS t ps i) i) := add_inv hS hi h6
        cases hcb : connB t ps i
        all_goals (
          rw [hcb] at hcon
          unfold encP
          unfold treeP at *
          refine ⟨(0, 0), if connB t ps i = true then (0, 0) else (8, 10), if connB t ps i = true then (0, 0) else (9, 9), ?_⟩
          rw [hcb]
          refine enter rfl func82 rfl (by decide) (by kernel_rfl) rfl rfl ?_
          refine zs0 ?_
          refine WX.idxImm tab_eq rfl rfl rfl rfl rfl rfl (by omega) (hg) ?_
          refine zs0 ?_
          refine W.cond rfl (fun c1 => absurd (of_decide_eq_true c1) h6) (fun _ => ?_)
          refine zs1 hkey ?_
          refine WX.lkM tab_eq rfl rfl rfl rfl (by rw [hget]; rfl) ?_
          rw [hget]
          refine zs0 ?_
          rw [frow_len]
          refine W.cond rfl (fun c2 => absurd (of_decide_eq_true c2) (by omega)) (fun _ => ?_)
          refine zs0 ?_
          refine WX.step tab_eq rfl rfl (by simp [frow_len] <;> omega) ?_
          refine zs0 ?_
          refine WX.step tab_eq rfl rfl (by simp [crow_len] <;> omega) ?_
          repeat (first | refine WX.step tab_eq rfl rfl trivial ?_ | refine WX.step tab_eq rfl rfl (by decide) ?_ | refine WX.nil ?_ | refine WX.skip rfl ?_)
          refine W.seq ?_
          refine W.region ?_
          repeat (first | refine WX.step tab_eq rfl rfl trivial ?_ | refine WX.step tab_eq rfl rfl (by decide) ?_ | refine WX.nil ?_ | refine WX.skip rfl ?_)
          rw [List.take_length, List.take_length, frow_snoc, show crow S.kd ++ [[.imm 1 []]] = crow (S.kd ++ [[]]) from crow_snoc S.kd [], frow_len, List.length_append, List.length_singleton, l1]
          refine W.seq ?_
          refine W.region ?_
          iterate 6 (refine WX.step tab_eq rfl rfl trivial ?_)
          refine WX.muM tab_eq rfl rfl rfl rfl rfl rfl rfl hput ?_
          refine zs0 ?_
          refine zs3 hcon ?_
          repeat (first | refine WX.step tab_eq rfl rfl trivial ?_ | refine WX.step tab_eq rfl rfl (by decide) ?_ | refine WX.nil ?_ | refine W.seq ?_ | refine W.region ?_ | refine W.regionD ?_ | refine W.block ?_ | refine W.skip ?_ | refine W.exit ?_ | refine W.ret ?_ | refine W.condT rfl ?_ | refine W.condF rfl ?_ | refine WX.skip rfl ?_))
        · show some _ = some _
          rfl
        · obtain ⟨f, hfd⟩ : ∃ f, litV t ps n = f := ⟨_, rfl⟩
          have hK : ∀ j, j ≤ m → _ := fun j hj => kidsL_ok (t := t) (ps := ps) (f := f) (L := (keyS t ps i).length - 1) j ((i : Int) + 1) (S.add (keyS t ps i) i) hAi fun z hz => by
            have hz := kidsV_sub ps hz hj
            obtain ⟨h1, h2, h3, h4, h5⟩ := hI.kid hN hz
            refine ⟨by unfold finN at h3; omega, fun S' hS' => ?_⟩
            have ok := ihk z.toNat S' (by omega) (by omega) hS'
            rw [hfd] at ok
            refine ⟨ok.inv, ok.ext, ok.full, ok.lit.ext (Ext.refl _) (by have := hI.key_kid hN hi hz; omega), ?_⟩
            have := ok.len
            unfold finN at this
            omega
          refine zs2 hkids ?_
          rw [zrow_len, kidsV_len, hfd]
          refine W.loop (fun e q => ∃ (j : Nat), e = [(0, .box (0, 0) (encP t ps (kidsL f (kidsV ps j ((i : Int) + 1)) (S.add (keyS t ps i) i)).2 0 (0, 0) (0, 0) (0, 0))), (100, .own (0, 0) 1 (zrow (kidsV ps m ((i : Int) + 1)))), (8, .int .i64 ((S.ky.length + 1 : Nat) : Int)), (101, .int .i64 m), (102, .int .i64 j), (9, .own (0, 0) 1 (zrow (kidsL f (kidsV ps j ((i : Int) + 1)) (S.add (keyS t ps i) i)).1)), (111, .dead)] ∧ j ≤ m ∧ q = m - j) m ?_ ?_ ?_
          · exact ⟨0, rfl, by omega, by omega⟩
          · show _ < 4611686018427387904
            have := hI.few hN
            have := hN.le
            omega
          · rintro e q ⟨j, rfl, hj, rfl⟩
            obtain ⟨k1, k2, k3, k4, k5, k6, k7⟩ := hK j hj
            have hml : m ≤ 200 := by have := hI.few hN; have := hN.le; omega
            refine zs0 ?_
            refine W.cond rfl (fun hlt => ?_) (fun hlt => ?_)
            · have hlt := of_decide_eq_true hlt
              have hz := kidsV_mem ps (a := (i : Int) + 1) (show j < m by omega)
              have hzg := zrow_get (l := kidsV ps m ((i : Int) + 1)) (i := j) (by rw [kidsV_len]; omega)
              rw [kidsV_get ps (show j < m by omega)] at hzg
              have hsx := kidsL_snoc f (endKd ps j ((i : Int) + 1)) (kidsV ps j ((i : Int) + 1)) (S.add (keyS t ps i) i)
              rw [← kidsV_succ] at hsx
              obtain ⟨h1, h2, h3, h4, h5⟩ := hI.kid hN hz
              have hkl := (hK (j + 1) (by omega)).2.2.2.2.2.1
              generalize kidsL f (kidsV ps j ((i : Int) + 1)) (S.add (keyS t ps i) i) = R at *
              generalize endKd ps j ((i : Int) + 1) = z at *
              have hAl : (S.add (keyS t ps i) i).ky.length = S.ky.length + 1 := by simp [Enc.add]
              obtain ⟨s1, s2, s3, hT⟩ := ih z.toNat R.2 (by omega) (by omega) k1 (by unfold finN at *; omega)
              rw [Int.toNat_of_nonneg (show 0 ≤ z by omega), hfd] at hT
              have hsl := hsx
              unfold encP at *
              unfold treeP at *
              refine zs0 ?_
              refine WX.step tab_eq rfl rfl (by simp only [zrow_len, kidsV_len]; omega) ?_
              refine zs0 ?_
              refine WX.ldElem tab_eq rfl rfl rfl (by rw [Int.toNat_natCast]; first | exact hzg | (rw [Nat.zero_add]; exact hzg)) rfl rfl rfl rfl ?_
              refine zs1 hT ?_
              refine WX.step tab_eq rfl rfl (by simp [zrow_len] <;> omega) ?_
              refine zs0 ?_
              rw [wrap_i64 (x := (j : Int) + 1) (by omega) (by omega)]
              show ∃ m', _
              refine ⟨m - (j + 1), by omega, j + 1, ?_, by omega, rfl⟩
              rw [hsx, List.take_length, zsnoc]
              rfl
            · have hlt := of_decide_eq_false hlt
              have : j = m := by omega
              subst this
              generalize kidsL f (kidsV ps j ((i : Int) + 1)) (S.add (keyS t ps i) i) = R at *
              unfold encP at *
              unfold treeP at *
              refine zs0 ?_
              rw [wrap_i64 (x := ((S.ky.length + 1 : Nat) : Int) - 1) (by omega) (by omega), show ((S.ky.length + 1 : Nat) : Int) - 1 = (S.ky.length : Int) by omega]
              refine WX.step tab_eq rfl rfl (by simp only [crow_len]; have := k2.le; have := k1.l2; simp [Enc.add] at *; omega) ?_
              refine zs0 ?_
              refine WX.stElemU tab_eq rfl rfl rfl (by rw [Nat.zero_add, Int.toNat_natCast]; exact crow_get (by have := k2.le; have := k1.l2; simp [Enc.add] at *; omega)) rfl rfl rfl ?_
              refine zs0 ?_
              have hset : (crow R.2.kd).set (0 + (S.ky.length : Int).toNat) (splice [PV.imm 1 (zrow (R.2.kd.getD S.ky.length []))] (cellsOf (PV.imm 1 (List.take (zrow R.1).length (List.drop 0 (zrow R.1))))) 0) = crow (R.2.put S.ky.length R.1).kd := by
                rw [Nat.zero_add, Int.toNat_natCast, List.drop_zero, List.take_length]
                show (crow R.2.kd).set _ [.imm 1 (zrow R.1)] = crow (R.2.kd.set _ _)
                simp [crow, List.map_set]
              rw [hset]
              show some _ = some _
              rfl
end Go.PE
namespace Go.PE
open Go.RowKit Go.Proofs.Tryz
set_option maxRecDepth 100000
variable {k : Nat}
/-! ### encode, size, prepare -/
def encV (t : List Node) (ps : List Part) : Int × Enc := litV t ps 201 0 ⟨[], [], []⟩
/-- The encoder, in memory that nobody writes. -/
def encI (t : List Node) (ps : List Part) (R : Int × Enc) : List PV := [treeP t (finL ps) (srtL ps), .imap (false, R.2.ky) (numR 0 R.2.ky.length), .imm 1 (frow R.2.fs), .imm 1 (crow R.2.kd), .int .i64 R.1, .bool false]
theorem enc_ok {t : List Node} {ps : List Part} {rs : List Int} (hI : LkTree t 0 ps rs) (hs : Sm t) (h0 : 0 < t.length) : LitOk t ps ⟨[], [], []⟩ (keyS t ps 0).length (finN ps 0 - 0) (encV t ps).1 (encV t ps).2 :=
  litV_ok hI 201 0 ⟨[], [], []⟩ (by have := hs.len; omega) h0 ⟨rfl, rfl, fun v hv => absurd hv (Nat.not_lt_zero _)⟩
set_option maxHeartbeats 4000000 in
theorem encode_T {t : List Node} {ps : List Part} {rs : List Int} (hL : lookV t = some (ps, rs)) (hs : Sm t) (hp : ps.length = t.length) (h0 : 0 < t.length) : T (k + 204) 51 [.imm 5 (nrow t)] = some (.iptr (encI t ps (encV t ps)) 0, []) := by
  have hI := look_tree hL
  have hl := hs.len
  have hN := new_T (k := k + 201) (by omega) hL
  obtain ⟨m, hn⟩ := hI.nodes 0 (by omega) h0
  have hle := hn.le
  obtain ⟨s1, s2, s3, hT⟩ := lit_T (k := k) hI hs hp 201 0 ⟨[], [], []⟩ (by omega) h0 ⟨rfl, rfl, fun v hv => absurd hv (Nat.not_lt_zero _)⟩ (by unfold finN; simp only [List.length_nil]; omega)
  refine enter rfl func51 rfl (by decide) (by kernel_rfl) rfl rfl ?_
  refine zs1 hN ?_
  unfold encP at hT
  refine zs2 hT ?_
  rfl
/-! The number of clauses. -/
def szOf (o : Int) (n : Nat) : Int := if o = 1 ∨ o = 2 then 1 else if o = 7 ∨ o = 8 then (n : Int) + 1 else if o = 9 then 3 else 4
def sizeAt (t : List Node) (ps : List Part) (S : Enc) (v : Nat) : Int := if connB t ps (S.fs.getD v 0) = true then szOf (t.getD (S.fs.getD v 0) noNode).op (S.kd.getD v []).length else 0
def sizeV (t : List Node) (ps : List Part) (S : Enc) : Nat → Int
  | 0 => 1
  | v + 1 => sizeV t ps S v + sizeAt t ps S v
/-- What the walks behind literal know of the encoder. -/
structure EncG (t : List Node) (ps : List Part) (S : Enc) : Prop where
  inv : EncI t ps S
  full : ∀ v, v < S.ky.length → Full t ps S v
  le : S.ky.length ≤ 200
  pos : 0 < S.ky.length
theorem enc_g {t : List Node} {ps : List Part} {rs : List Int} (hI : LkTree t 0 ps rs) (hs : Sm t) (h0 : 0 < t.length) : EncG t ps (encV t ps).2 := by
  have h := enc_ok hI hs h0
  obtain ⟨m, hn⟩ := hI.nodes 0 (by omega) h0
  have hle := hn.le
  have hl := hs.len
  have := h.len
  exact ⟨h.inv, fun v hv => h.full v (Nat.zero_le _) hv, by unfold finN at this; simp only [List.length_nil] at this; omega, by obtain ⟨a, b, _⟩ := h.lit; omega⟩
theorem frow_get {l : List Nat} {i : Nat} (h : i < l.length) : (frow l)[i]? = some [.int .i64 ((l.getD i 0 : Nat) : Int)] := by
  unfold frow
  rw [List.getElem?_map, List.getElem?_eq_getElem h]
  simp [List.getD, List.getElem?_eq_getElem h]
section
variable {t : List Node} {ps : List Part} {rs : List Int}
theorem kd_le (hI : LkTree t 0 ps rs) (hs : Sm t) {S : Enc} (hG : EncG t ps S) {v : Nat} (hv : v < S.ky.length) : (S.kd.getD v []).length ≤ 200 := by
  have hF := hG.full v hv
  obtain ⟨h1, _, _⟩ := hG.inv.at' v hv
  obtain ⟨m, hn⟩ := hI.nodes _ (Nat.zero_le _) h1
  have hf := hI.few hn
  have hle := hn.le
  have hk := hn.kids
  have hl := hs.len
  unfold Full at hF
  split at hF
  · omega
  · rw [hF]; exact Nat.zero_le _
theorem conn_ops {S : Enc} (hI : LkTree t 0 ps rs) (hG : EncG t ps S) {v : Nat} (hv : v < S.ky.length) (h : connB t ps (S.fs.getD v 0) = true) : (t.getD (S.fs.getD v 0) noNode).op = 1 ∨ (t.getD (S.fs.getD v 0) noNode).op = 2 ∨ (t.getD (S.fs.getD v 0) noNode).op = 7 ∨ (t.getD (S.fs.getD v 0) noNode).op = 8 ∨ (t.getD (S.fs.getD v 0) noNode).op = 9 ∨ (t.getD (S.fs.getD v 0) noNode).op = 10 ∨ (t.getD (S.fs.getD v 0) noNode).op = 11 := by
  obtain ⟨_, _, h6⟩ := hG.inv.at' v hv
  unfold connB at h
  generalize (t.getD (S.fs.getD v 0) noNode).op = o at *
  by_cases q1 : o = 1 ∨ o = 2 ∨ o = 6 ∨ o = 7 ∨ o = 8 ∨ o = 9
  · omega
  · simp only [if_neg q1] at h
    by_cases q2 : o = 10
    · omega
    · by_cases q3 : o = 11
      · omega
      · simp [q2, q3] at h
set_option maxHeartbeats 8000000 in
theorem esize_T (hI : LkTree t 0 ps rs) (hs : Sm t) (hp : ps.length = t.length) {root : Int} {S : Enc} (hG : EncG t ps S) : T (k + 2) 52 [.iptr (encI t ps (root, S)) 0] = some (.int .i64 (sizeV t ps S S.ky.length), []) := by
  have hl := hs.len
  have l1 := hG.inv.l1
  have l2 := hG.inv.l2
  have hle := hG.le
  unfold encI
  unfold treeP
  refine enter rfl func52 rfl (by decide) (by kernel_rfl) rfl rfl ?_
  refine zs0 ?_
  rw [frow_len, l1]
  refine W.loop (fun e q => ∃ (v : Nat), e = [(3, .int .i64 (sizeV t ps S v)), (0, .iptr [.iptr [.imm 5 (nrow t), .imm 1 (zrow (finL ps)), .imm 1 (zrow (srtL ps))] 0, .imap (false, S.ky) (numR 0 S.ky.length), .imm 1 (frow S.fs), .imm 1 (crow S.kd), .int .i64 root, .bool false] 0), (10, .int .i64 S.ky.length), (11, .int .i64 v)] ∧ v ≤ S.ky.length ∧ (0 ≤ sizeV t ps S v ∧ sizeV t ps S v ≤ 1 + 300 * v) ∧ q = S.ky.length - v) S.ky.length ?_ ?_ ?_
  · exact ⟨0, rfl, by omega, by simp [sizeV], by omega⟩
  · show _ < 4611686018427387904; omega
  · rintro e q ⟨v, rfl, hv, hz, rfl⟩
    refine zs0 ?_
    refine W.cond rfl (fun hlt => ?_) (fun hlt => ?_)
    · have hlt := of_decide_eq_true hlt
      obtain ⟨a1, a2, a3⟩ := hG.inv.at' v (by omega)
      obtain ⟨m, hn⟩ := hI.nodes _ (Nat.zero_le _) a1
      have hcon := conn_T (k := k) hn a1 (by omega) hp
      have hg := nrow_get (t := t) a1
      have hfg := frow_get (l := S.fs) (i := v) (by omega)
      have hkg := crow_get (l := S.kd) (i := v) (by omega)
      have hkl := kd_le hI hs hG (v := v) (by omega)
      have hzs : sizeV t ps S (v + 1) = sizeV t ps S v + (if connB t ps (S.fs.getD v 0) = true then szOf (t.getD (S.fs.getD v 0) noNode).op (S.kd.getD v []).length else 0) := rfl
      have hop := conn_ops hI hG (v := v) (by omega)
      unfold treeP at hcon
      generalize connB t ps (S.fs.getD v 0) = c at *
      refine zs0 ?_
      refine WX.idxImm tab_eq rfl rfl rfl rfl rfl rfl (by omega) (hfg) ?_
      refine zs1 hcon ?_
      refine W.cond rfl (fun c1 => ?_) (fun c1 => ?_)
      · have c1 := not_true c1
        subst c1
        refine zs0 ?_
        rw [wrap_i64 (x := (v : Int) + 1) (by omega) (by omega)]
        show ∃ m', _
        rw [if_neg (by decide), Int.add_zero] at hzs
        exact ⟨S.ky.length - (v + 1), by omega, v + 1, by rw [hzs]; rfl, by omega, by omega, rfl⟩
      · have c1 := not_false c1
        subst c1
        have hop := hop rfl
        rw [if_pos rfl] at hzs
        generalize t.getD (S.fs.getD v 0) noNode = n at *
        obtain ⟨op, srt, kids, nm, num⟩ := n
        have hg : (nrow t)[S.fs.getD v 0]? = some [.int .i64 op, .int .i64 srt, .str nm, .str num, .int .i64 kids] := hg
        simp only at hop hzs
        rcases hop with rfl | rfl | rfl | rfl | rfl | rfl | rfl
        all_goals repeat (first | refine WX.step tab_eq rfl rfl trivial ?_ | refine WX.step tab_eq rfl rfl (by decide) ?_ | refine WX.nil ?_ | refine W.seq ?_ | refine W.region ?_ | refine W.regionD ?_ | refine W.block ?_ | refine W.skip ?_ | refine W.exit ?_ | refine W.ret ?_ | refine W.condT rfl ?_ | refine W.condF rfl ?_ | refine WX.skip rfl ?_)
        all_goals refine WX.idxImm tab_eq rfl rfl rfl rfl rfl rfl (by omega) (hg) ?_
        all_goals repeat (first | refine WX.step tab_eq rfl rfl trivial ?_ | refine WX.step tab_eq rfl rfl (by decide) ?_ | refine WX.nil ?_ | refine W.seq ?_ | refine W.region ?_ | refine W.regionD ?_ | refine W.block ?_ | refine W.skip ?_ | refine W.exit ?_ | refine W.ret ?_ | refine W.condT rfl ?_ | refine W.condF rfl ?_ | refine WX.skip rfl ?_)
        · rw [show szOf 1 (S.kd.getD v []).length = 1 from rfl] at hzs
          rw [wrap_i64 (x := sizeV t ps S v + (1)) (by omega) (by omega), wrap_i64 (x := (v : Int) + 1) (by omega) (by omega)]
          show ∃ m', _
          exact ⟨S.ky.length - (v + 1), by omega, v + 1, by rw [hzs]; rfl, by omega, by omega, rfl⟩
        · rw [show szOf 2 (S.kd.getD v []).length = 1 from rfl] at hzs
          rw [wrap_i64 (x := sizeV t ps S v + (1)) (by omega) (by omega), wrap_i64 (x := (v : Int) + 1) (by omega) (by omega)]
          show ∃ m', _
          exact ⟨S.ky.length - (v + 1), by omega, v + 1, by rw [hzs]; rfl, by omega, by omega, rfl⟩
        · rw [show szOf 7 (S.kd.getD v []).length = ((S.kd.getD v []).length : Int) + 1 from rfl] at hzs
          refine WX.idxImm tab_eq rfl rfl rfl rfl rfl rfl (by omega) (hkg) ?_
          refine zs0 ?_
          rw [zrow_len, wrap_i64 (x := ((S.kd.getD v []).length : Int) + 1) (by omega) (by omega)]
          rw [wrap_i64 (x := sizeV t ps S v + (((S.kd.getD v []).length : Int) + 1)) (by omega) (by omega), wrap_i64 (x := (v : Int) + 1) (by omega) (by omega)]
          show ∃ m', _
          exact ⟨S.ky.length - (v + 1), by omega, v + 1, by rw [hzs]; rfl, by omega, by omega, rfl⟩
        · rw [show szOf 8 (S.kd.getD v []).length = ((S.kd.getD v []).length : Int) + 1 from rfl] at hzs
          refine WX.idxImm tab_eq rfl rfl rfl rfl rfl rfl (by omega) (hkg) ?_
          refine zs0 ?_
          rw [zrow_len, wrap_i64 (x := ((S.kd.getD v []).length : Int) + 1) (by omega) (by omega)]
          rw [wrap_i64 (x := sizeV t ps S v + (((S.kd.getD v []).length : Int) + 1)) (by omega) (by omega), wrap_i64 (x := (v : Int) + 1) (by omega) (by omega)]
          show ∃ m', _
          exact ⟨S.ky.length - (v + 1), by omega, v + 1, by rw [hzs]; rfl, by omega, by omega, rfl⟩
        · rw [show szOf 9 (S.kd.getD v []).length = 3 from rfl] at hzs
          rw [wrap_i64 (x := sizeV t ps S v + (3)) (by omega) (by omega), wrap_i64 (x := (v : Int) + 1) (by omega) (by omega)]
          show ∃ m', _
          exact ⟨S.ky.length - (v + 1), by omega, v + 1, by rw [hzs]; rfl, by omega, by omega, rfl⟩
        · rw [show szOf 10 (S.kd.getD v []).length = 4 from rfl] at hzs
          rw [wrap_i64 (x := sizeV t ps S v + (4)) (by omega) (by omega), wrap_i64 (x := (v : Int) + 1) (by omega) (by omega)]
          show ∃ m', _
          exact ⟨S.ky.length - (v + 1), by omega, v + 1, by rw [hzs]; rfl, by omega, by omega, rfl⟩
        · rw [show szOf 11 (S.kd.getD v []).length = 4 from rfl] at hzs
          rw [wrap_i64 (x := sizeV t ps S v + (4)) (by omega) (by omega), wrap_i64 (x := (v : Int) + 1) (by omega) (by omega)]
          show ∃ m', _
          exact ⟨S.ky.length - (v + 1), by omega, v + 1, by rw [hzs]; rfl, by omega, by omega, rfl⟩
    · have hlt := of_decide_eq_false hlt
      have : v = S.ky.length := by omega
      subst this
      refine zs0 ?_
      rfl
end
end Go.PE
namespace Go.PE
open Go.RowKit Go.Proofs.Tryz
set_option maxRecDepth 100000
variable {k : Nat}
/-! ### prepare -/
theorem form_look {t : List Node} (h : formV t = true) : ∃ ps rs, lookV t = some (ps, rs) ∧ ps.length = t.length ∧ 0 < t.length := by
  unfold formV at h
  simp only [Bool.and_eq_true, decide_eq_true_eq] at h
  have h := h.2
  unfold srtV at h
  cases hk : knownV t with
  | none => rw [hk] at h; simp at h
  | some ps =>
    obtain ⟨h1, h2⟩ := knownV_len hk
    unfold knownV at hk
    split at hk
    · cases hk
    · split at hk
      · rename_i p r hl
        split at hk
        · cases hk
          exact ⟨_, _, hl, h1, List.length_pos_iff.2 h2⟩
        · cases hk
      · cases hk
def bigE (t : List Node) (ps : List Part) : Bool := decide (10000 < sizeV t ps (encV t ps).2 (encV t ps).2.ky.length)
def prepV (t : List Node) : Option (List Part) :=
  if formV t = true then match lookV t with
    | some (ps, _) => if bigE t ps = true then none else some ps
    | none => none
  else none
def prepP (t : List Node) : PV := match prepV t with
  | some ps => .tup [.iptr (encI t ps (encV t ps)) 0, .int .i64 0]
  | none => .tup [.nilp, .int .i64 (if formV t = true then 6 else 1)]
/-- What a prepared formula is. -/
theorem prep_some {t : List Node} {ps : List Part} (h : prepV t = some ps) : ∃ rs, lookV t = some (ps, rs) ∧ ps.length = t.length ∧ 0 < t.length := by
  unfold prepV at h
  split at h
  · rename_i hf
    obtain ⟨ps', rs, h1, h2, h3⟩ := form_look hf
    rw [h1] at h
    simp only at h
    split at h
    · cases h
    · cases h
      exact ⟨rs, h1, h2, h3⟩
  · cases h
set_option maxHeartbeats 4000000 in
theorem prep_T {t : List Node} (hs : Sm t) : T (k + 206) 32 [.imm 5 (nrow t)] = some (prepP t, []) := by
  have hF := form_T (k := k + 193) t (by have := hs.len; omega) fun n hn => by have := hs.txt n hn; omega
  unfold prepP prepV
  cases hf : formV t with
  | false =>
    rw [hf] at hF
    refine enter rfl func32 rfl (by decide) (by kernel_rfl) rfl rfl ?_
    refine zs1 hF ?_
    rfl
  | true =>
    rw [hf] at hF
    obtain ⟨ps, rs, h1, h2, h3⟩ := form_look hf
    have hI := look_tree h1
    have hE := encode_T (k := k + 1) h1 hs h2 h3
    have hZ := esize_T (k := k + 203) hI hs h2 (root := (encV t ps).1) (enc_g hI hs h3)
    rw [h1]
    simp only [if_true]
    have hb : bigE t ps = decide (10000 < sizeV t ps (encV t ps).2 (encV t ps).2.ky.length) := rfl
    cases hc : bigE t ps
    all_goals (
      rw [hc] at hb
      simp only [if_true, Bool.false_eq_true, if_false]
      generalize encV t ps = R at *
      obtain ⟨root, S⟩ := R
      simp only at *
      generalize sizeV t ps S S.ky.length = z at *
      unfold encI at *
      refine enter rfl func32 rfl (by decide) (by kernel_rfl) rfl rfl ?_
      refine zs1 hF ?_
      refine zs2 hE ?_
      refine zs3 hZ ?_
      repeat (first | refine WX.step tab_eq rfl rfl trivial ?_ | refine WX.step tab_eq rfl rfl (by decide) ?_ | refine WX.nil ?_ | refine W.seq ?_ | refine W.region ?_ | refine W.regionD ?_ | refine W.block ?_ | refine W.skip ?_ | refine W.exit ?_ | refine W.ret ?_ | refine W.condT rfl ?_ | refine W.condF rfl ?_ | refine WX.skip rfl ?_))
    · refine W.condF (hb ▸ rfl) ?_
      refine zs0 ?_
      rfl
    · refine W.condT (hb ▸ rfl) ?_
      refine zs0 ?_
      rfl
end Go.PE
