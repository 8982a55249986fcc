/- Minimal version selection, plain: it satisfies; the newest one; further roots; growing requirements. Graphs, plain: the shortest cycle as the program finds it. Graphs, plain: a shortest way is one, and no edge makes it shorter. Minimal version selection, plain: causes. -/
import Derived.Test.YtenfkejbndifdaaGreatDoorQP
import Derived.Test.YtenfkejbndifdaaGreatDoorQB
import Derived.Test.YtenfkejbndifdaaGreatDoorQH
import Derived.Test.YtenfkejbndifdaaGreatDoorQG
namespace Go.Proofs.YtenfkejbndifdaaGreatDoor
set_option linter.unusedVariables false
set_option linter.unusedSimpArgs false
open Go

/-- a selection as a list. -/
noncomputable def selL (nw : Bool) (X : List RelL) (roots : List ReqL) : List SelL := (topM nw X roots).map fun i => keyL (X.getD i default)
theorem selL_mem {nw : Bool} {X : List RelL} {roots : List ReqL} {y : SelL} : y ∈ selL nw X roots ↔ ∃ i, i ∈ topM nw X roots ∧ keyL (X.getD i default) = y := by
  unfold selL
  rw [List.mem_map]
theorem selL_incr {nw : Bool} {X : List RelL} {roots : List ReqL} (hX : IdxOk X) : incrS (selL nw X roots) := selM_incr hX
theorem sel_met {nw : Bool} {X : List RelL} {roots : List ReqL} (hp : PlainP X roots) {q : ReqL} (hq : UpQ q) {j : Nat} (hn : namedI nw X q = some j) (hj : RchM nw X roots j) : metB (selL nw X roots) q = true := by
  have hX := idx_ok hp.idx
  obtain ⟨k, hk, hle, hpk⟩ := top_of hj
  obtain ⟨hlt, h1, h2, _⟩ := candI_mem.1 (named_mem hn)
  have hkl := (topM_mem.1 hk).1.lt.1
  have p1 := (hX.rel j hlt).plc
  have p2 := (hX.rel k hkl).plc
  have hm := hX.mono hle hkl hpk.symm
  rw [hq.has p1.1 p1.2] at h2
  have h2 := of_decide_eq_true h2
  unfold metB
  rw [List.any_eq_true]
  refine ⟨keyL (X.getD k default), selL_mem.2 ⟨k, hk, rfl⟩, ?_⟩
  rw [Bool.and_eq_true]
  refine ⟨decide_eq_true (hpk.trans h1.symm), ?_⟩
  have : hasB q.2 (plc (X.getD k default).ver) = true := by
    rw [hq.has p2.1 p2.2]
    exact decide_eq_true (by omega)
  exact this
theorem reqsOf_key {X : List RelL} (hX : IdxOk X) {i : Nat} (hi : i < X.length) : reqsOf X (keyL (X.getD i default)) = (X.getD i default).reqs := by
  unfold reqsOf
  rw [findR_at hX hi]
theorem sel_sat {nw : Bool} {X : List RelL} {roots : List ReqL} (hp : PlainP X roots) (ha : AllM nw X roots) : SatP X roots (selL nw X roots) := by
  have hX := idx_ok hp.idx
  refine ⟨hp.idx, selM_incr hX, fun y hy => ?_, fun y hy q hq => ?_, fun q hq => ?_⟩
  · obtain ⟨i, hi, rfl⟩ := selL_mem.1 hy
    rw [findR_at hX (topM_mem.1 hi).1.lt.1]
    rfl
  · obtain ⟨i, hi, rfl⟩ := selL_mem.1 hy
    have h1 := (topM_mem.1 hi).1
    rw [reqsOf_key hX h1.lt.1] at hq
    obtain ⟨j, hj⟩ := ha.2 i h1 q hq
    exact sel_met hp ((hp.up h1.lt.1).q hq) hj (.step h1 hq hj)
  · obtain ⟨j, hj⟩ := ha.1 q hq
    exact sel_met hp (hp.roots.q hq) hj (.root hq hj)
/-- the newest selection has no smaller version. -/
theorem newest_ge {X : List RelL} {roots : List ReqL} (hp : PlainP X roots) {i j : Nat} (hi : i ∈ topM false X roots) (hj : j ∈ topM true X roots) (e : (X.getD i default).path = (X.getD j default).path) : i ≤ j := by
  have hX := idx_ok hp.idx
  have h1 := (topM_mem.1 hi).1.lt
  have h2 := (topM_mem.1 hj).1
  apply Classical.byContradiction
  intro hlt
  have hm := hX.mono (show j ≤ i by omega) h1.1 e.symm
  have p1 := (hX.rel i h1.1).plc
  have p2 := (hX.rel j h2.lt.1).plc
  have key : ∀ q, UpQ q → namedI true X q = some j → False := fun q hq hn => by
    obtain ⟨_, g1, g2, _⟩ := candI_mem.1 (named_mem hn)
    rw [hq.has p2.1 p2.2] at g2
    have g2 := of_decide_eq_true g2
    have : i ∈ candI X q := candI_mem.2 ⟨h1.1, g1.trans e.symm, by rw [hq.has p1.1 p1.2]; exact decide_eq_true (by omega), h1.2⟩
    have := named_great hn this
    omega
  cases h2 with
  | root hq hn => exact key _ (hp.roots.q hq) hn
  | step hk hq hn => exact key _ ((hp.up hk.lt.1).q hq) hn
/-- further roots reach more. -/
theorem RchM.more {nw : Bool} {X : List RelL} {r1 r2 : List ReqL} (h : ∀ q ∈ r1, q ∈ r2) {i : Nat} (hi : RchM nw X r1 i) : RchM nw X r2 i := by
  induction hi with
  | root hq hn => exact .root (h _ hq) hn
  | step _ hq hn ih => exact .step ih hq hn
theorem more_ge {nw : Bool} {X : List RelL} {r1 r2 : List ReqL} (h : ∀ q ∈ r1, q ∈ r2) {i : Nat} (hi : i ∈ topM nw X r1) : ∃ j, j ∈ topM nw X r2 ∧ i ≤ j ∧ (X.getD j default).path = (X.getD i default).path := top_of ((topM_mem.1 hi).1.more h)
/-- the place of a path in a selection, or -1. -/
def leastS (s : List SelL) (p : ByteArray) : Int := match s.find? fun y => decide (y.1 = p) with
  | some y => plc y.2
  | none => -1
theorem leastS_at {s : List SelL} (h : incrS s) {y : SelL} (hy : y ∈ s) : leastS s y.1 = plc y.2 := by
  unfold leastS
  cases hf : s.find? fun z => decide (z.1 = y.1) with
  | none => have := List.find?_eq_none.1 hf y hy; simp at this
  | some z =>
    have h1 : z.1 = y.1 := by simpa using List.find?_some hf
    have h2 := List.mem_of_find?_eq_some hf
    obtain ⟨i, hi, rfl⟩ := List.mem_iff_getElem.1 hy
    obtain ⟨j, hj, rfl⟩ := List.mem_iff_getElem.1 h2
    have g : ∀ k (hk : k < s.length), s.getD k default = s[k] := fun k hk => by rw [List.getD_eq_getElem?_getD, List.getElem?_eq_getElem hk]; rfl
    have : j = i := incrS_inj h hj hi (by rw [g j hj, g i hi]; exact h1)
    subst this
    rfl
theorem more_least {nw : Bool} {X : List RelL} {r1 r2 : List ReqL} (hX : IdxOk X) (h : ∀ q ∈ r1, q ∈ r2) {y : SelL} (hy : y ∈ selL nw X r1) : leastS (selL nw X r1) y.1 ≤ leastS (selL nw X r2) y.1 := by
  rw [leastS_at (selL_incr hX) hy]
  obtain ⟨i, hi, rfl⟩ := selL_mem.1 hy
  obtain ⟨j, hj, hle, hp⟩ := more_ge h hi
  have e : (keyL (X.getD i default)).1 = (keyL (X.getD j default)).1 := hp.symm
  rw [e, leastS_at (selL_incr hX) (selL_mem.2 ⟨j, hj, rfl⟩)]
  exact hX.mono hle (topM_mem.1 hj).1.lt.1 hp.symm
/-- each release requires at least what the one before it requires. -/
def GrowP (X : List RelL) : Prop := ∀ i, i + 1 < X.length → (X.getD i default).path = (X.getD (i + 1) default).path → ∀ q ∈ (X.getD i default).reqs, ∃ p ∈ (X.getD (i + 1) default).reqs, p.1 = q.1 ∧ subB p.2 q.2 = true
theorem grow_far {X : List RelL} (hX : IdxOk X) (hg : GrowP X) {i : Nat} : ∀ d, i + d < X.length → (X.getD i default).path = (X.getD (i + d) default).path → ∀ q ∈ (X.getD i default).reqs, ∃ p ∈ (X.getD (i + d) default).reqs, p.1 = q.1 ∧ ∀ x, hasB p.2 x = true → hasB q.2 x = true
  | 0, _, _, q, hq => ⟨q, hq, rfl, fun _ h => h⟩
  | d + 1, hd, hp, q, hq => by
    have e := hX.between (i := i) (j := i + d) (k := i + (d + 1)) (by omega) (by omega) hd hp
    obtain ⟨p, hp1, hp2, hp3⟩ := grow_far hX hg d (by omega) e.symm q hq
    obtain ⟨r, hr1, hr2, hr3⟩ := hg (i + d) (by omega) (by rw [e, hp]; rfl) p hp1
    refine ⟨r, hr1, hr2.trans hp2, fun x hx => hp3 x ?_⟩
    rw [hasB_iff] at hx ⊢
    exact ⟨(sub_iff _ _).1 hr3 x hx.2.1 hx.2.2 hx.1, hx.2⟩
/-- a selection of available releases that satisfies the roots and itself has no smaller version. -/
theorem least_all {X : List RelL} {roots : List ReqL} {s : List SelL} (hp : PlainP X roots) (hg : GrowP X) (hs : SatP X roots s) (hy : ∀ y ∈ s, ∃ r, findR X y = some r ∧ r.yk = false) :
    AllM false X roots ∧ ∀ i, RchM false X roots i → ∃ k, keyL (X.getD k default) ∈ s ∧ k < X.length ∧ i ≤ k ∧ (X.getD k default).path = (X.getD i default).path := by
  have hX := idx_ok hp.idx
  -- what is met by the selection is named, by an element that is not greater
  have met : ∀ q, metB s q = true → ∃ k, keyL (X.getD k default) ∈ s ∧ k < X.length ∧ k ∈ candI X q := fun q hq => by
    unfold metB at hq
    obtain ⟨y, hy1, hy2⟩ := List.any_eq_true.1 hq
    rw [Bool.and_eq_true] at hy2
    obtain ⟨r, hr1, hr2⟩ := hy y hy1
    obtain ⟨k, hk, rfl, rfl⟩ := findR_some hr1
    exact ⟨k, hy1, hk, candI_mem.2 ⟨hk, (of_decide_eq_true hy2.1).symm, hy2.2, hr2⟩⟩
  have named : ∀ q, metB s q = true → ∃ i, namedI false X q = some i ∧ ∃ k, keyL (X.getD k default) ∈ s ∧ k < X.length ∧ i ≤ k ∧ (X.getD k default).path = (X.getD i default).path := fun q hq => by
    obtain ⟨k, h1, h2, h3⟩ := met q hq
    obtain ⟨i, hi⟩ := named_some (nw := false) h3
    exact ⟨i, hi, k, h1, h2, named_least hi h3, ((candI_mem.1 h3).2.1).symm.trans (candI_mem.1 (named_mem hi)).2.1⟩
  have step : ∀ i k q, keyL (X.getD k default) ∈ s → k < X.length → i ≤ k → (X.getD k default).path = (X.getD i default).path → q ∈ (X.getD i default).reqs → metB s q = true := fun i k q h1 h2 h3 h4 hq => by
    obtain ⟨d, rfl⟩ : ∃ d, k = i + d := ⟨k - i, by omega⟩
    obtain ⟨p, hp1, hp2, hp3⟩ := grow_far hX hg d h2 h4.symm q hq
    have := hs.own _ h1 p (by rw [reqsOf_key hX h2]; exact hp1)
    unfold metB at this ⊢
    obtain ⟨y, hy1, hy2⟩ := List.any_eq_true.1 this
    rw [Bool.and_eq_true] at hy2
    rw [List.any_eq_true]
    exact ⟨y, hy1, by rw [Bool.and_eq_true]; exact ⟨decide_eq_true ((of_decide_eq_true hy2.1).trans hp2), hp3 _ hy2.2⟩⟩
  have reach : ∀ i, RchM false X roots i → ∃ k, keyL (X.getD k default) ∈ s ∧ k < X.length ∧ i ≤ k ∧ (X.getD k default).path = (X.getD i default).path := by
    intro i hi
    induction hi with
    | root hq hn =>
      obtain ⟨j, hj, h⟩ := named _ (hs.root _ hq)
      rw [hn] at hj
      cases hj
      exact h
    | step hk hq hn ih =>
      obtain ⟨k, h1, h2, h3, h4⟩ := ih
      obtain ⟨j, hj, h⟩ := named _ (step _ k _ h1 h2 h3 h4 hq)
      rw [hn] at hj
      cases hj
      exact h
  refine ⟨⟨fun q hq => ?_, fun i hi q hq => ?_⟩, reach⟩
  · obtain ⟨j, hj, _⟩ := named q (hs.root q hq)
    exact ⟨j, hj⟩
  · obtain ⟨k, h1, h2, h3, h4⟩ := reach i hi
    obtain ⟨j, hj, _⟩ := named q (step i k q h1 h2 h3 h4 hq)
    exact ⟨j, hj⟩
theorem least_le {X : List RelL} {roots : List ReqL} {s : List SelL} (hp : PlainP X roots) (hg : GrowP X) (hs : SatP X roots s) (hy : ∀ y ∈ s, ∃ r, findR X y = some r ∧ r.yk = false) {y : SelL} (h : y ∈ selL false X roots) : leastS (selL false X roots) y.1 ≤ leastS s y.1 := by
  have hX := idx_ok hp.idx
  rw [leastS_at (selL_incr hX) h]
  obtain ⟨i, hi, rfl⟩ := selL_mem.1 h
  obtain ⟨k, h1, h2, h3, h4⟩ := (least_all hp hg hs hy).2 i (topM_mem.1 hi).1
  have e : (keyL (X.getD i default)).1 = (keyL (X.getD k default)).1 := h4.symm
  rw [e, leastS_at hs.incr h1]
  exact hX.mono h3 h2 h4.symm
end Go.Proofs.YtenfkejbndifdaaGreatDoor

namespace Go.Proofs.YtenfkejbndifdaaGreatDoor
set_option linter.unusedVariables false
set_option linter.unusedSimpArgs false

/-- the nearest successor so far, and its distance. -/
def cstep (far : List Int) (st : Int × Int) (k : Nat) : Int × Int := if 0 ≤ gD far k ∧ (st.1 < 0 ∨ gD far k < st.2) then ((k : Int), gD far k) else st
/-- the distances to a node over nodes that are not less. -/
def cfar (N : Nat) (es : List (Int × Int)) (first : Nat) : List Int := bfsD (sucs N (es.map swapE)) first first
/-- the best cycle so far. -/
def cycStep (N : Nat) (es : List (Int × Int)) (best : List Nat) (first : Nat) : List Nat :=
  let st := (ofP (sucs N es) first first).foldl (cstep (cfar N es first)) (-1, 0)
  if st.1 < 0 ∨ (best ≠ [] ∧ (best.length : Int) ≤ st.2 + 1) then best
  else if st.1 = (first : Int) then [first] else first :: (descP (sucs N es) (cfar N es first) (gD (cfar N es first) st.1.toNat).toNat st.1.toNat).dropLast
def cycF (N : Nat) (es : List (Int × Int)) (k : Nat) : List Nat := (List.range k).foldl (cycStep N es) []
theorem cycF_succ (N : Nat) (es : List (Int × Int)) (k : Nat) : cycF N es (k + 1) = cycStep N es (cycF N es k) k := by
  unfold cycF
  rw [List.range_succ, List.foldl_append]
  rfl
theorem descP_length (S : List (List Nat)) (far : List Int) : ∀ (m n : Nat), (descP S far m n).length ≤ m + 1
  | 0, n => by simp [descP]
  | m + 1, n => by
    unfold descP
    split
    · have := descP_length S far m ‹_›
      simp
      omega
    · simp
theorem descP_pos (S : List (List Nat)) (far : List Int) (m n : Nat) : 0 < (descP S far m n).length := by cases m <;> simp [descP]
/-- what is known of the nearest successor. -/
theorem cstep_ok {far : List Int} : ∀ (l : List Nat) (st : Int × Int), (st.1 < 0 ∨ (0 ≤ st.2 ∧ ∃ k : Nat, st.1 = (k : Int) ∧ gD far k = st.2)) →
    ((l.foldl (cstep far) st).1 < 0 ∨ (0 ≤ (l.foldl (cstep far) st).2 ∧ ∃ k : Nat, (l.foldl (cstep far) st).1 = (k : Int) ∧ gD far k = (l.foldl (cstep far) st).2))
  | [], st, h => h
  | k :: l, st, h => by
    refine cstep_ok l (cstep far st k) ?_
    unfold cstep
    split
    · rename_i hc
      exact .inr ⟨hc.1, k, rfl, rfl⟩
    · exact h
end Go.Proofs.YtenfkejbndifdaaGreatDoor

namespace Go.Proofs.YtenfkejbndifdaaGreatDoor
set_option linter.unusedVariables false
set_option linter.unusedSimpArgs false

/-- a way of so many steps. -/
inductive Walk (S : List (List Nat)) : Nat → Nat → Nat → Prop
  | nil (a : Nat) : Walk S a a 0
  | cons {a b c m : Nat} : b ∈ S.getD a [] → Walk S b c m → Walk S a c (m + 1)
theorem Walk.snoc {S : List (List Nat)} {a b c m : Nat} (h : Walk S a b m) (hc : c ∈ S.getD b []) : Walk S a c (m + 1) := by
  induction h with
  | nil a => exact .cons hc (.nil c)
  | cons hb _ ih => exact .cons hb (ih hc)
theorem Walk.append {S : List (List Nat)} {a b c m n : Nat} (h : Walk S a b m) (k : Walk S b c n) : Walk S a c (m + n) := by
  induction h with
  | nil a => rw [Nat.zero_add]; exact k
  | @cons a b' c' m hb _ ih => rw [show m + 1 + n = (m + n) + 1 by omega]; exact .cons hb (ih k)
theorem Walk.rch {S : List (List Nat)} {a b m : Nat} (h : Walk S a b m) : Rch S a b := by
  induction h with
  | nil a => exact .refl a
  | cons hb _ ih => exact .step hb ih
theorem Rch.walk {S : List (List Nat)} {a b : Nat} (h : Rch S a b) : ∃ m, Walk S a b m := by
  induction h with
  | refl a => exact ⟨0, .nil a⟩
  | step hb _ ih => obtain ⟨m, hm⟩ := ih; exact ⟨m + 1, .cons hb hm⟩
/-- a distance is a way's length. -/
theorem dist_walk {N : Nat} {es : List (Int × Int)} {tgt : Nat} {d : List Int} (h : DistR (sucs N (es.map swapE)) 0 tgt d) : ∀ (m a : Nat), gD d a = (m : Int) → Walk (sucs N es) a tgt m
  | 0, a, ha => by
    have := h.zero a (by simpa using ha)
    subst this
    exact .nil _
  | m + 1, a, ha => by
    obtain ⟨k, hk, hm⟩ := h.desc a m (by rw [ha]; simp)
    exact .cons hk (dist_walk h m k hm)
/-- no way is shorter. -/
theorem walk_dist {N : Nat} {es : List (Int × Int)} {tgt a m : Nat} {d : List Int} (h : DistR (sucs N (es.map swapE)) 0 tgt d) (hw : Walk (sucs N es) a tgt m) : 0 ≤ gD d a ∧ gD d a ≤ m := by
  induction hw with
  | nil a => rw [h.t0]; simp
  | @cons a b c m hb _ ih =>
    obtain ⟨h1, h2⟩ := ih h
    obtain ⟨m1, m2, m3⟩ := mem_sucs.1 hb
    obtain ⟨h3, h4⟩ := h.near b h1 a (by unfold ofP; exact List.mem_filter.2 ⟨mem_sucs.2 ⟨m2, m1, mem_swap.2 m3⟩, by simp⟩)
    refine ⟨h3, ?_⟩
    have : ((m + 1 : Nat) : Int) = (m : Int) + 1 := by simp
    omega
/-- a list of nodes that is a way. -/
def IsWay (S : List (List Nat)) (l : List Nat) (a b : Nat) : Prop := l.head? = some a ∧ l.getLast? = some b ∧ ∀ i x y, l[i]? = some x → l[i + 1]? = some y → y ∈ S.getD x []
theorem descP_way {N : Nat} {es : List (Int × Int)} {tgt : Nat} {d : List Int} (h : DistR (sucs N (es.map swapE)) 0 tgt d) : ∀ (m n : Nat), gD d n = (m : Int) → IsWay (sucs N es) (descP (sucs N es) d m n) n tgt ∧ (descP (sucs N es) d m n).length = m + 1
  | 0, n, hn => by
    have := h.zero n (by simpa using hn)
    subst this
    exact ⟨⟨rfl, rfl, fun i x y hx hy => by simp [descP] at hy⟩, rfl⟩
  | m + 1, n, hn => by
    obtain ⟨k0, hk0, hm0⟩ := h.desc n m (by rw [hn]; simp)
    unfold descP
    cases e : ((sucs N es).getD n []).find? (fun k => gD d k == (m : Int)) with
    | none =>
      have := List.find?_eq_none.1 e k0 hk0
      exact absurd (by simpa using hm0) this
    | some k =>
      have hk1 := List.mem_of_find?_eq_some e
      have hk2 : gD d k = (m : Int) := by simpa using List.find?_some e
      obtain ⟨⟨i1, i2, i3⟩, i4⟩ := descP_way h m k hk2
      simp only
      refine ⟨⟨rfl, ?_, fun i x y hx hy => ?_⟩, by rw [List.length_cons, i4]⟩
      · rw [List.getLast?_cons, i2]
        rfl
      · cases i with
        | zero =>
          simp at hx hy
          subst hx
          rw [← List.head?_eq_getElem?, i1] at hy
          cases hy
          exact hk1
        | succ i => exact i3 i x y (by simpa using hx) (by simpa using hy)
theorem swap_dist (N : Nat) (es : List (Int × Int)) (b : Nat) (hb : b < N) : DistR (sucs N (es.map swapE)) 0 b (bfsD (sucs N (es.map swapE)) 0 b) := bfsD_dist sucs_lt (by rw [sucs_length]; exact hb)
theorem pathF_nil {N : Nat} {es : List (Int × Int)} {a b : Nat} (hb : b < N) : pathF N es a b = [] ↔ ¬ Rch (sucs N es) a b := by
  have hd := swap_dist N es b hb
  unfold pathF
  simp only
  split
  · rename_i hn
    refine ⟨fun _ hr => ?_, fun _ => rfl⟩
    obtain ⟨m, hm⟩ := hr.walk
    have := (walk_dist hd hm).1
    omega
  · rename_i hn
    obtain ⟨m, hm⟩ : ∃ m : Nat, gD (bfsD (sucs N (es.map swapE)) 0 b) a = m := ⟨(gD (bfsD (sucs N (es.map swapE)) 0 b) a).toNat, by omega⟩
    rw [hm]
    have := (descP_way hd m a hm).2
    refine ⟨fun e => ?_, fun e => absurd (dist_walk hd m a hm).rch e⟩
    rw [Int.toNat_natCast] at e
    rw [e] at this
    simp at this
/-- a path is a way, of as many steps as the distance. -/
theorem pathF_way {N : Nat} {es : List (Int × Int)} {a b : Nat} (hb : b < N) (hr : Rch (sucs N es) a b) :
    IsWay (sucs N es) (pathF N es a b) a b ∧ ∃ m, (pathF N es a b).length = m + 1 ∧ Walk (sucs N es) a b m ∧ ∀ k, Walk (sucs N es) a b k → m ≤ k := by
  have hd := swap_dist N es b hb
  obtain ⟨k, hk⟩ := hr.walk
  have h0 := (walk_dist hd hk).1
  obtain ⟨m, hm⟩ : ∃ m : Nat, gD (bfsD (sucs N (es.map swapE)) 0 b) a = m := ⟨(gD (bfsD (sucs N (es.map swapE)) 0 b) a).toNat, by omega⟩
  have he : pathF N es a b = descP (sucs N es) (bfsD (sucs N (es.map swapE)) 0 b) m a := by
    unfold pathF
    simp only
    rw [if_neg (by omega), hm, Int.toNat_natCast]
  rw [he]
  obtain ⟨h1, h2⟩ := descP_way hd m a hm
  refine ⟨h1, m, h2, dist_walk hd m a hm, fun k hk => ?_⟩
  have := (walk_dist hd hk).2
  omega
/-- no edge makes a way shorter. -/
theorem pathF_edge {N : Nat} {es : List (Int × Int)} {a u v : Nat} (hu : u < N) (hv : v < N) (he : ((u : Int), (v : Int)) ∈ es) (hl : 0 < (pathF N es a u).length) : (pathF N es a v).length ≤ (pathF N es a u).length + 1 := by
  have hr : Rch (sucs N es) a u := Classical.byContradiction fun h => by
    rw [(pathF_nil hu).2 h] at hl
    simp at hl
  obtain ⟨_, m, h1, h2, _⟩ := pathF_way hu hr
  have hw := h2.snoc (mem_sucs.2 ⟨hu, hv, he⟩)
  obtain ⟨_, n, h3, _, h4⟩ := pathF_way hv hw.rch
  have := h4 _ hw
  omega
theorem pathF_self {N : Nat} {es : List (Int × Int)} {a : Nat} (ha : a < N) : (pathF N es a a).length = 1 := by
  obtain ⟨_, m, h1, _, h2⟩ := pathF_way (es := es) ha (.refl a)
  have := h2 0 (.nil a)
  omega
end Go.Proofs.YtenfkejbndifdaaGreatDoor

namespace Go.Proofs.YtenfkejbndifdaaGreatDoor
set_option linter.unusedVariables false
set_option linter.unusedSimpArgs false
open Go

/-- the edges between releases. -/
def relEs (X : List RelL) : List (Int × Int) := (List.range X.length).flatMap fun i => (X.getD i default).reqs.filterMap fun q => (namedI false X q).map fun (k : Nat) => ((i : Int), (k : Int))
theorem relEs_mem {X : List RelL} {x : Int × Int} : x ∈ relEs X ↔ ∃ (i : Nat) (q : ReqL) (k : Nat), i < X.length ∧ q ∈ (X.getD i default).reqs ∧ namedI false X q = some k ∧ x = ((i : Int), (k : Int)) := by
  unfold relEs
  rw [List.mem_flatMap]
  constructor
  · rintro ⟨i, hi, h⟩
    obtain ⟨q, hq, h1⟩ := List.mem_filterMap.1 h
    obtain ⟨k, hk, h2⟩ := Option.map_eq_some_iff.1 h1
    exact ⟨i, q, k, List.mem_range.1 hi, hq, hk, h2.symm⟩
  · rintro ⟨i, q, k, hi, hq, hk, rfl⟩
    exact ⟨i, List.mem_range.2 hi, List.mem_filterMap.2 ⟨q, hq, by rw [hk]; rfl⟩⟩
/-- the successors of a release. -/
theorem rel_suc {X : List RelL} {a b : Nat} : b ∈ (sucs X.length (relEs X)).getD a [] ↔ a < X.length ∧ ∃ q ∈ (X.getD a default).reqs, namedI false X q = some b := by
  rw [mem_sucs, relEs_mem]
  constructor
  · rintro ⟨ha, hb, i, q, k, hi, hq, hk, e⟩
    injection e with e1 e2
    have e1 : a = i := by omega
    have e2 : b = k := by omega
    subst e1 e2
    exact ⟨ha, q, hq, hk⟩
  · rintro ⟨ha, q, hq, hk⟩
    exact ⟨ha, (candI_mem.1 (named_mem hk)).1, a, q, b, ha, hq, hk, rfl⟩
/-- the first of the least numbers that are not negative. -/
def bestK (ds : List Int) : Nat → Option Nat
  | 0 => none
  | k + 1 => match bestK ds k with
    | none => if 0 ≤ ds.getD k (-1) then some k else none
    | some r => if 0 ≤ ds.getD k (-1) ∧ ds.getD k (-1) < ds.getD r (-1) then some k else some r
theorem bestK_some {ds : List Int} : ∀ {k r : Nat}, bestK ds k = some r → r < k ∧ 0 ≤ ds.getD r (-1)
  | 0, r, h => by cases h
  | k + 1, r, h => by
    unfold bestK at h
    cases hb : bestK ds k with
    | none =>
      rw [hb] at h
      simp only at h
      split at h
      · rename_i h1; cases h; exact ⟨by omega, h1⟩
      · cases h
    | some t =>
      rw [hb] at h
      obtain ⟨h1, h2⟩ := bestK_some hb
      simp only at h
      split at h
      · rename_i h3; cases h; exact ⟨by omega, h3.1⟩
      · cases h; exact ⟨by omega, h2⟩
theorem bestK_none {ds : List Int} : ∀ {k : Nat}, bestK ds k = none → ∀ r, r < k → ds.getD r (-1) < 0
  | 0, _, r, hr => by omega
  | k + 1, h, r, hr => by
    unfold bestK at h
    cases hb : bestK ds k with
    | none =>
      rw [hb] at h
      simp only at h
      split at h
      · cases h
      · rename_i h1
        rcases Nat.lt_or_eq_of_le (Nat.le_of_lt_succ hr) with h2 | rfl
        · exact bestK_none hb r h2
        · omega
    | some t =>
      rw [hb] at h
      simp only at h
      split at h <;> cases h
/-- distances to a release. -/
def dT (X : List RelL) (t : Nat) : List Int := bfsD (sucs X.length ((relEs X).map swapE)) 0 t
def rootD (X : List RelL) (roots : List ReqL) (t : Nat) : List Int := roots.map fun q => match namedI false X q with
  | some k => gD (dT X t) k
  | none => -1
abbrev CauL := ByteArray × Int × List SelL
/-- the greatest release of a path. -/
noncomputable def tgtM (X : List RelL) (roots : List ReqL) (p : ByteArray) : Option Nat := (topM false X roots).find? fun i => decide ((X.getD i default).path = p)
/-- the cause of a path, and the error. -/
noncomputable def whyV (X : List RelL) (roots : List ReqL) (p : ByteArray) : CauL × Int :=
  if (selM false X roots).2 ≠ 0 then ((⟨#[]⟩, 0, []), (selM false X roots).2)
  else match tgtM X roots p with
    | none => ((⟨#[]⟩, 0, []), 6)
    | some t => match bestK (rootD X roots t) roots.length with
      | none => ((p, 0, []), 0)
      | some r => ((p, (r : Int), (pathF X.length (relEs X) ((namedI false X (roots.getD r default)).getD 0) t).map fun i => keyL (X.getD i default)), 0)
/-- a chain of releases, each named by what the one before it requires. -/
def chainB (X : List RelL) : List ReqL → List SelL → Bool
  | _, [] => true
  | l, s :: t => match (l.filterMap (namedI false X)).find? fun k => decide (keyL (X.getD k default) = s) with
    | some k => chainB X (X.getD k default).reqs t
    | none => false
noncomputable def checkV (X : List RelL) (roots : List ReqL) (c : CauL) : Bool := open Classical in
  decide ((selM false X roots).2 = 0) && (decide (0 ≤ c.2.1 ∧ c.2.1 < roots.length) && (match c.2.2.getLast? with
    | none => false
    | some y => decide (y.1 = c.1) && (decide (y ∈ (selM false X roots).1) && chainB X [roots.getD c.2.1.toNat default] c.2.2)))
theorem chain_at {X : List RelL} (hX : IdxOk X) {l : List ReqL} {k : Nat} {t : List SelL} (h : ∃ q ∈ l, namedI false X q = some k) : chainB X l (keyL (X.getD k default) :: t) = chainB X (X.getD k default).reqs t := by
  obtain ⟨q, hq, hn⟩ := h
  have hm : k ∈ l.filterMap (namedI false X) := List.mem_filterMap.2 ⟨q, hq, hn⟩
  show (match (l.filterMap (namedI false X)).find? fun j => decide (keyL (X.getD j default) = keyL (X.getD k default)) with
    | some j => chainB X (X.getD j default).reqs t
    | none => false) = _
  cases hf : (l.filterMap (namedI false X)).find? fun j => decide (keyL (X.getD j default) = keyL (X.getD k default)) with
  | none => have := List.find?_eq_none.1 hf k hm; simp at this
  | some j =>
    have h1 : keyL (X.getD j default) = keyL (X.getD k default) := by simpa using List.find?_some hf
    obtain ⟨q2, _, hn2⟩ := List.mem_filterMap.1 (List.mem_of_find?_eq_some hf)
    have := hX.inj (candI_mem.1 (named_mem hn2)).1 (candI_mem.1 (named_mem hn)).1 h1
    subst this
    rfl
/-- the way down the distances: at each place the distance is one less. -/
theorem descP_dist {S : List (List Nat)} {far : List Int} : ∀ (m n : Nat), gD far n = (m : Int) → ∀ (i x : Nat), (descP S far m n)[i]? = some x → gD far x = (m : Int) - i
  | 0, n, hn, i, x, h => by
    unfold descP at h
    cases i with
    | zero => cases h; simpa using hn
    | succ i => simp at h
  | m + 1, n, hn, i, x, h => by
    unfold descP at h
    cases i with
    | zero => cases h; rw [hn]; simp
    | succ i =>
      rw [List.getElem?_cons_succ] at h
      cases hf : (S.getD n []).find? fun k => gD far k == (m : Int) with
      | none => rw [hf] at h; simp at h
      | some k =>
        rw [hf] at h
        have hk : gD far k = (m : Int) := by simpa using List.find?_some hf
        have := descP_dist m k hk i x h
        rw [this]
        push_cast
        omega
theorem path_desc {X : List RelL} {a t : Nat} (h : 0 ≤ gD (dT X t) a) :
    pathF X.length (relEs X) a t = descP (sucs X.length (relEs X)) (dT X t) (gD (dT X t) a).toNat a := by
  unfold pathF dT at *
  simp only
  rw [if_neg (by omega)]
theorem chain_desc {X : List RelL} (hX : IdxOk X) {t : Nat} (ht : t < X.length) : ∀ (m n : Nat) (l : List ReqL), gD (dT X t) n = (m : Int) → (∃ q ∈ l, namedI false X q = some n) →
    chainB X l ((descP (sucs X.length (relEs X)) (dT X t) m n).map fun i => keyL (X.getD i default)) = true
  | 0, n, l, hn, hl => by
    show chainB X l [keyL (X.getD n default)] = true
    rw [chain_at hX hl]
    rfl
  | m + 1, n, l, hn, hl => by
    obtain ⟨k0, hk0, hm0⟩ := (swap_dist X.length (relEs X) t ht).desc n m (by rw [← show ((m + 1 : Nat) : Int) = (m : Int) + 1 by simp]; exact hn)
    unfold descP
    cases hf : ((sucs X.length (relEs X)).getD n []).find? fun k => gD (dT X t) k == (m : Int) with
    | none => have := List.find?_eq_none.1 hf k0 hk0; exact absurd (show (gD (dT X t) k0 == (m : Int)) = true from by rw [show gD (dT X t) k0 = (m : Int) from hm0]; simp) this
    | some k =>
      have hk : gD (dT X t) k = (m : Int) := by simpa using List.find?_some hf
      have h2 := (rel_suc.1 (List.mem_of_find?_eq_some hf)).2
      rw [List.map_cons, chain_at hX hl]
      exact chain_desc hX ht m k _ hk h2
theorem reach_rch {X : List RelL} {roots : List ReqL} {i : Nat} (h : RchM false X roots i) : ∃ q ∈ roots, ∃ k, namedI false X q = some k ∧ Rch (sucs X.length (relEs X)) k i := by
  induction h with
  | root hq hn => exact ⟨_, hq, _, hn, .refl _⟩
  | step hk hq hn ih =>
    obtain ⟨q, hq2, k, hk2, hr⟩ := ih
    exact ⟨q, hq2, k, hk2, hr.trans (.step (rel_suc.2 ⟨hk.lt.1, _, hq, hn⟩) (.refl _))⟩
/-- each selected path has a cause. -/
theorem cause_ok {X : List RelL} {roots : List ReqL} (hp : PlainP X roots) (ha : AllM false X roots) {t : Nat} (ht : t ∈ topM false X roots) :
    ∃ (r n : Nat) (ch : List SelL), whyV X roots (X.getD t default).path = (((X.getD t default).path, (r : Int), ch), 0) ∧ r < roots.length ∧ ch.getLast? = some (keyL (X.getD t default)) ∧ ch.length = n + 1 ∧
      chainB X [roots.getD r default] ch = true ∧ ∀ z, ch.dropLast.getLast? = some z → z ≠ keyL (X.getD t default) := by
  have hX := idx_ok hp.idx
  have htl := (topM_mem.1 ht).1.lt.1
  have hm : selM false X roots = (selL false X roots, 0) := by
    unfold selM
    rw [if_neg (fun h => h hp), if_neg (fun h => h ha)]
    rfl
  have htg : tgtM X roots (X.getD t default).path = some t := by
    unfold tgtM
    cases hf : (topM false X roots).find? fun i => decide ((X.getD i default).path = (X.getD t default).path) with
    | none => have := List.find?_eq_none.1 hf t ht; simp at this
    | some j =>
      have h1 : (X.getD j default).path = (X.getD t default).path := by simpa using List.find?_some hf
      rw [top_one (List.mem_of_find?_eq_some hf) ht h1]
  have hds : ∀ r, r < roots.length → ∃ k, namedI false X (roots.getD r default) = some k ∧ (rootD X roots t).getD r (-1) = gD (dT X t) k := fun r hr => by
    have hmem : roots.getD r default ∈ roots := by rw [List.getD_eq_getElem?_getD, List.getElem?_eq_getElem hr]; exact List.getElem_mem hr
    obtain ⟨k, hk⟩ := ha.1 _ hmem
    refine ⟨k, hk, ?_⟩
    unfold rootD
    rw [List.getD_eq_getElem?_getD, List.getElem?_map, List.getElem?_eq_getElem hr]
    rw [List.getD_eq_getElem?_getD, List.getElem?_eq_getElem hr] at hk
    simp only [Option.getD_some] at hk
    simp only [Option.map_some, Option.getD_some]
    rw [hk]
  cases hb : bestK (rootD X roots t) roots.length with
  | none =>
    exfalso
    obtain ⟨q, hq, k, hk, hr⟩ := reach_rch (topM_mem.1 ht).1
    obtain ⟨r, hr2, rfl⟩ := List.mem_iff_getElem.1 hq
    obtain ⟨k2, hk2, hd⟩ := hds r hr2
    have e : roots.getD r default = roots[r] := by rw [List.getD_eq_getElem?_getD, List.getElem?_eq_getElem hr2]; rfl
    rw [e, hk] at hk2
    cases hk2
    have h1 := bestK_none hb r hr2
    obtain ⟨m, hw⟩ := hr.walk
    have := (walk_dist (swap_dist X.length (relEs X) t htl) hw).1
    unfold dT at hd
    omega
  | some r =>
    obtain ⟨hr, h0⟩ := bestK_some hb
    obtain ⟨k, hk, hd⟩ := hds r hr
    rw [hd] at h0
    obtain ⟨m, hmm⟩ : ∃ m : Nat, gD (dT X t) k = m := ⟨(gD (dT X t) k).toNat, by omega⟩
    have hpd := path_desc h0
    rw [hmm, Int.toNat_natCast] at hpd
    have hway := descP_way (swap_dist X.length (relEs X) t htl) m k (by unfold dT at hmm; exact hmm)
    refine ⟨r, m, (descP (sucs X.length (relEs X)) (dT X t) m k).map fun i => keyL (X.getD i default), ?_, hr, ?_, ?_, ?_, ?_⟩
    · unfold whyV
      rw [hm]
      simp only [ne_eq, not_true, if_false, htg, hb, hk, Option.getD_some]
      rw [hpd]
    · rw [List.getLast?_map, show (descP (sucs X.length (relEs X)) (dT X t) m k).getLast? = some t from hway.1.2.1]
      rfl
    · rw [List.length_map]
      exact hway.2
    · exact chain_desc hX htl m k _ hmm ⟨_, by simp, hk⟩
    · intro z hz e
      subst e
      rw [← List.map_dropLast, List.getLast?_map] at hz
      obtain ⟨u, hu, hz⟩ := Option.map_eq_some_iff.1 hz
      obtain ⟨i, hi, hx⟩ : ∃ i, i + 1 < m + 1 ∧ (descP (sucs X.length (relEs X)) (dT X t) m k)[i]? = some u := by
        rw [List.getLast?_eq_getElem?] at hu
        rw [List.length_dropLast, show (descP (sucs X.length (relEs X)) (dT X t) m k).length = m + 1 from hway.2] at hu
        by_cases hm0 : m = 0
        · subst hm0
          simp [descP] at hu
        · rw [List.getElem?_dropLast] at hu
          rw [show (descP (sucs X.length (relEs X)) (dT X t) m k).length = m + 1 from hway.2] at hu
          split at hu
          · exact ⟨m + 1 - 1 - 1, by omega, hu⟩
          · cases hu
      have hdu := descP_dist m k hmm i u hx
      have hdt : gD (dT X t) t = 0 := (swap_dist X.length (relEs X) t htl).t0
      have hut : u = t := by
        refine hX.inj ?_ htl hz
        have hlen : gD (dT X t) u ≠ -1 := by omega
        apply Classical.byContradiction
        intro hge
        apply hlen
        show (dT X t).getD u (-1) = -1
        have : (dT X t).length = X.length := by
          have := (swap_dist X.length (relEs X) t htl).len
          rw [sucs_length] at this
          exact this
        rw [List.getD_eq_getElem?_getD, List.getElem?_eq_none (by omega)]
        rfl
      rw [hut, hdt] at hdu
      omega
end Go.Proofs.YtenfkejbndifdaaGreatDoor
