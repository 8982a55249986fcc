/- Minimal version selection, plain: what the reference builds, step by step. Graphs, plain: the shortest cycle as the program finds it. Graphs, plain: a shortest way is one, and no edge makes it shorter. Minimal version selection, plain: causes. slices.IndexFunc and ContainsFunc at requirements, releases, what names them, lists of requirements, numbers, for any predicate. -/
import Derived.Test.YtenfkejbndifdaaGreatDoorYK
import Derived.Test.YtenfkejbndifdaaGreatDoorYD
import Derived.Test.YtenfkejbndifdaaGreatDoorYH
import Derived.Test.YtenfkejbndifdaaGreatDoorYC
namespace Go.Proofs.YtenfkejbndifdaaGreatDoor
set_option linter.unusedVariables false
set_option linter.unusedSimpArgs false
open Go

def candB (X : List RelL) (q : ReqL) (i : Nat) : Bool := reachB q (X.getD i default) && !(X.getD i default).yk
def candK (X : List RelL) (q : ReqL) (k : Nat) : List Nat := (List.range k).filter (candB X q)
theorem candK_succ (X : List RelL) (q : ReqL) (k : Nat) : candK X q (k + 1) = candK X q k ++ (if candB X q k = true then [k] else []) := by
  unfold candK
  rw [List.range_succ, List.filter_append]
  congr 1
  by_cases h : candB X q k = true
  · rw [if_pos h, List.filter_cons_of_pos h]; rfl
  · rw [if_neg h, List.filter_cons_of_neg h]; rfl
def namedK (nw : Bool) (X : List RelL) (q : ReqL) (k : Nat) : Option Nat := if nw = true then (candK X q k).getLast? else (candK X q k).head?
theorem namedK_zero (nw : Bool) (X : List RelL) (q : ReqL) : namedK nw X q 0 = none := by
  unfold namedK candK
  cases nw <;> simp
theorem namedK_all (nw : Bool) (X : List RelL) (q : ReqL) : namedK nw X q X.length = namedI nw X q := rfl
theorem namedK_no {nw : Bool} {X : List RelL} {q : ReqL} {k : Nat} (h : candB X q k = false) : namedK nw X q (k + 1) = namedK nw X q k := by
  have hc : candK X q (k + 1) = candK X q k := by rw [candK_succ, if_neg (by rw [h]; decide), List.append_nil]
  unfold namedK
  rw [hc]
theorem namedK_keep {X : List RelL} {q : ReqL} {k i : Nat} (h : namedK false X q k = some i) : namedK false X q (k + 1) = some i := by
  unfold namedK at h ⊢
  rw [if_neg (by decide)] at h ⊢
  rw [candK_succ, List.head?_append, h]
  rfl
theorem namedK_put {nw : Bool} {X : List RelL} {q : ReqL} {k : Nat} (h : candB X q k = true) (h2 : nw = true ∨ namedK nw X q k = none) : namedK nw X q (k + 1) = some k := by
  have hc : candK X q (k + 1) = candK X q k ++ [k] := by rw [candK_succ, if_pos h]
  unfold namedK at h2 ⊢
  rw [hc]
  by_cases hn : nw = true
  · rw [if_pos hn, List.getLast?_concat]
  · rw [if_neg hn] at h2 ⊢
    rcases h2 with h2 | h2
    · exact absurd h2 hn
    · rw [List.head?_append, h2]
      rfl
def optI : Option Nat → Int
  | some i => (i : Int)
  | none => -1
structure RchT (nw : Bool) (X : List RelL) (roots todo : List ReqL) (i : Nat) (s : List Nat) : Prop where
  le : i ≤ todo.length
  nod : s.Nodup
  rch : ∀ k ∈ s, RchM nw X roots k
  root : ∀ q ∈ roots, q ∈ todo
  own : ∀ k ∈ s, ∀ q ∈ (X.getD k default).reqs, q ∈ todo
  src : ∀ q ∈ todo, q ∈ roots ∨ ∃ k ∈ s, q ∈ (X.getD k default).reqs
  done : ∀ j, j < i → ∃ k ∈ s, namedI nw X (todo.getD j default) = some k
  len : todo.length ≤ roots.length + 16 * s.length
variable {nw : Bool} {X : List RelL} {roots todo : List ReqL} {i : Nat} {s : List Nat}
theorem RchT.start : RchT nw X roots roots 0 [] := ⟨Nat.zero_le _, List.nodup_nil, fun k hk => (by cases hk), fun q hq => hq, fun k hk => (by cases hk), fun q hq => .inl hq, fun j hj => absurd hj (Nat.not_lt_zero _), by simp⟩
theorem getD_memQ {l : List ReqL} {i : Nat} (hi : i < l.length) : l.getD i default ∈ l := by
  rw [List.getD_eq_getElem?_getD, List.getElem?_eq_getElem hi]
  exact List.getElem_mem hi
theorem RchT.fail (h : RchT nw X roots todo i s) (hi : i < todo.length) (hn : namedI nw X (todo.getD i default) = none) : ¬ AllM nw X roots := fun ha => by
  rcases h.src _ (getD_memQ hi) with hq | ⟨k, hk, hq⟩
  · obtain ⟨j, hj⟩ := ha.1 _ hq
    rw [hn] at hj; cases hj
  · obtain ⟨j, hj⟩ := ha.2 k (h.rch k hk) _ hq
    rw [hn] at hj; cases hj
theorem RchT.skip (h : RchT nw X roots todo i s) (hi : i < todo.length) {k : Nat} (hn : namedI nw X (todo.getD i default) = some k) (hk : k ∈ s) : RchT nw X roots todo (i + 1) s :=
  { h with
    le := hi
    done := fun j hj => by
      rcases Nat.lt_or_eq_of_le (Nat.le_of_lt_succ hj) with h1 | rfl
      · exact h.done j h1
      · exact ⟨k, hk, hn⟩ }
theorem RchT.mark (h : RchT nw X roots todo i s) (hi : i < todo.length) {k : Nat} (hn : namedI nw X (todo.getD i default) = some k) (hk : k ∉ s) (hl : (X.getD k default).reqs.length ≤ 16) : RchT nw X roots (todo ++ (X.getD k default).reqs) (i + 1) (k :: s) := by
  have hr : RchM nw X roots k := by
    rcases h.src _ (getD_memQ hi) with hq | ⟨j, hj, hq⟩
    · exact .root hq hn
    · exact .step (h.rch j hj) hq hn
  have hg : ∀ j, j < i + 1 → (todo ++ (X.getD k default).reqs).getD j default = todo.getD j default := fun j hj => by
    rw [List.getD_eq_getElem?_getD, List.getElem?_append_left (by omega), ← List.getD_eq_getElem?_getD]
  refine ⟨by rw [List.length_append]; omega, List.nodup_cons.2 ⟨hk, h.nod⟩, fun j hj => ?_, fun q hq => List.mem_append_left _ (h.root q hq), fun j hj q hq => ?_, fun q hq => ?_, fun j hj => ?_, by rw [List.length_append, List.length_cons]; have := h.len; omega⟩
  · rcases List.mem_cons.1 hj with rfl | hj
    · exact hr
    · exact h.rch j hj
  · rcases List.mem_cons.1 hj with rfl | hj
    · exact List.mem_append_right _ hq
    · exact List.mem_append_left _ (h.own j hj q hq)
  · rcases List.mem_append.1 hq with hq | hq
    · exact (h.src q hq).imp id fun ⟨j, hj, hq⟩ => ⟨j, by simp [hj], hq⟩
    · exact .inr ⟨k, by simp, hq⟩
  · rw [hg j hj]
    rcases Nat.lt_or_eq_of_le (Nat.le_of_lt_succ hj) with h1 | rfl
    · obtain ⟨m, hm, e⟩ := h.done j h1
      exact ⟨m, by simp [hm], e⟩
    · exact ⟨k, by simp, hn⟩
theorem RchT.end (h : RchT nw X roots todo todo.length s) : AllM nw X roots ∧ ∀ k, RchM nw X roots k ↔ k ∈ s := by
  have key : ∀ q ∈ todo, ∃ k ∈ s, namedI nw X q = some k := fun q hq => by
    obtain ⟨j, hj, rfl⟩ := List.mem_iff_getElem.1 hq
    have := h.done j hj
    rwa [List.getD_eq_getElem?_getD, List.getElem?_eq_getElem hj] at this
  have all : ∀ k, RchM nw X roots k → k ∈ s := fun k hk => by
    induction hk with
    | root hq hn =>
      obtain ⟨k, hk, e⟩ := key _ (h.root _ hq)
      rw [hn] at e; cases e; exact hk
    | step _ hq hn ih =>
      obtain ⟨k, hk, e⟩ := key _ (h.own _ ih _ hq)
      rw [hn] at e; cases e; exact hk
  refine ⟨⟨fun q hq => ?_, fun k hk q hq => ?_⟩, fun k => ⟨all k, h.rch k⟩⟩
  · obtain ⟨k, _, e⟩ := key q (h.root q hq)
    exact ⟨k, e⟩
  · obtain ⟨j, _, e⟩ := key q (h.own k (all k hk) q hq)
    exact ⟨j, e⟩
theorem RchT.slen (h : RchT nw X roots todo i s) : s.length ≤ X.length := by
  have := sub_length (l := s) (m := List.range X.length) h.nod fun k hk => List.mem_range.2 (h.rch k hk).lt.1
  simpa using this
open Classical in
noncomputable def topK (nw : Bool) (X : List RelL) (roots : List ReqL) (k : Nat) : List Nat :=
  (List.range k).filter fun i => decide (RchM nw X roots i ∧ ∀ j, j < k → RchM nw X roots j → (X.getD j default).path = (X.getD i default).path → j ≤ i)
theorem topK_zero : topK nw X roots 0 = [] := by unfold topK; rfl
theorem topK_mem {k m : Nat} : m ∈ topK nw X roots k ↔ m < k ∧ RchM nw X roots m ∧ ∀ j, j < k → RchM nw X roots j → (X.getD j default).path = (X.getD m default).path → j ≤ m := by
  unfold topK
  simp only [List.mem_filter, List.mem_range, decide_eq_true_eq]
theorem topK_sorted (k : Nat) : (topK nw X roots k).Pairwise (· < ·) := (range_sorted _).filter _
theorem topK_all : topK nw X roots X.length = topM nw X roots := by
  unfold topK topM
  refine List.filter_congr fun m _ => ?_
  congr 1
  exact propext ⟨fun h => ⟨h.1, fun j hj => h.2 j hj.lt.1 hj⟩, fun h => ⟨h.1, fun j _ hj => h.2 j hj⟩⟩
theorem topK_no {k : Nat} (h : ¬ RchM nw X roots k) : topK nw X roots (k + 1) = topK nw X roots k := by
  unfold topK
  rw [List.range_succ, List.filter_append, List.filter_cons_of_neg (by simpa using fun h1 => absurd h1 h), List.filter_nil, List.append_nil]
  refine List.filter_congr fun m hm => ?_
  congr 1
  refine propext ⟨fun g => ⟨g.1, fun j hj => g.2 j (by omega)⟩, fun g => ⟨g.1, fun j hj hr => ?_⟩⟩
  rcases Nat.lt_or_eq_of_le (Nat.le_of_lt_succ hj) with h1 | rfl
  · exact g.2 j h1 hr
  · exact absurd hr h
theorem topK_step {k : Nat} (h : RchM nw X roots k) : topK nw X roots (k + 1) = (topK nw X roots k).filter (fun m => decide ((X.getD m default).path ≠ (X.getD k default).path)) ++ [k] := by
  unfold topK
  rw [List.range_succ, List.filter_append, List.filter_cons_of_pos (by simpa using ⟨h, fun j hj _ _ => by omega⟩), List.filter_nil, List.filter_filter]
  congr 1
  refine List.filter_congr fun m hm => ?_
  have hmk := List.mem_range.1 hm
  rw [Bool.eq_iff_iff]
  simp only [Bool.and_eq_true, decide_eq_true_eq]
  constructor
  · intro g
    exact ⟨fun e => by have := g.2 k (by omega) h e.symm; omega, g.1, fun j hj => g.2 j (by omega)⟩
  · rintro ⟨hne, g1, g2⟩
    refine ⟨g1, fun j hj hr e => ?_⟩
    rcases Nat.lt_or_eq_of_le (Nat.le_of_lt_succ hj) with h1 | rfl
    · exact g2 j h1 hr e
    · exact absurd e.symm hne
theorem topK_new {k : Nat} (hX : IdxOk X) (hk : k < X.length) (h : RchM nw X roots k) (hn : ∀ m, (topK nw X roots k).getLast? = some m → (X.getD m default).path ≠ (X.getD k default).path) : topK nw X roots (k + 1) = topK nw X roots k ++ [k] := by
  rw [topK_step h, List.filter_eq_self.2 fun m hm => ?_]
  refine decide_eq_true fun e => ?_
  obtain ⟨l, hl⟩ : ∃ l, (topK nw X roots k).getLast? = some l := by
    cases hg : (topK nw X roots k).getLast? with
    | some l => exact ⟨l, rfl⟩
    | none => rw [List.getLast?_eq_none_iff.1 hg] at hm; cases hm
  have hlm : l ∈ topK nw X roots k := List.mem_of_getLast? hl
  have hml : m ≤ l := by
    obtain ⟨t, ht⟩ := List.getLast?_eq_some_iff.1 hl
    have hs := topK_sorted (nw := nw) (X := X) (roots := roots) k
    rw [ht] at hs hm
    rcases List.mem_append.1 hm with h1 | h1
    · exact Nat.le_of_lt ((List.pairwise_append.1 hs).2.2 m h1 l (by simp))
    · rw [List.mem_singleton.1 h1]; exact Nat.le_refl _
  have hlk := (topK_mem.1 hlm).1
  exact hn l hl ((hX.between hml (by omega) hk e).trans e)
theorem topK_same {k m : Nat} (h : RchM nw X roots k) (hl : (topK nw X roots k).getLast? = some m) (hp : (X.getD m default).path = (X.getD k default).path) : topK nw X roots (k + 1) = (topK nw X roots k).dropLast ++ [k] := by
  rw [topK_step h]
  congr 1
  obtain ⟨t, ht⟩ := List.getLast?_eq_some_iff.1 hl
  have hone : ∀ n ∈ topK nw X roots k, (X.getD n default).path = (X.getD k default).path → n = m := fun n hn e => by
    have h1 := topK_mem.1 hn
    have h2 := topK_mem.1 (List.mem_of_getLast? hl)
    have h3 := h1.2.2 m h2.1 h2.2.1 (hp.trans e.symm)
    have h4 := h2.2.2 n h1.1 h1.2.1 (e.trans hp.symm)
    omega
  have hnd := (topK_sorted (nw := nw) (X := X) (roots := roots) k).imp Nat.ne_of_lt
  rw [ht] at hone hnd ⊢
  rw [List.dropLast_concat, List.filter_append, List.filter_cons_of_neg (by simpa using hp), List.filter_nil, List.append_nil]
  refine List.filter_eq_self.2 fun n hn => decide_eq_true fun e => ?_
  have := hone n (by simp [hn]) e
  exact (List.pairwise_append.1 hnd).2.2 n hn m (by simp) this
end Go.Proofs.YtenfkejbndifdaaGreatDoor

namespace Go.Proofs.YtenfkejbndifdaaGreatDoor
set_option linter.unusedVariables false
set_option linter.unusedSimpArgs false

def cstep (far : List Int) (st : Int × Int) (k : Nat) : Int × Int := if 0 ≤ gD far k ∧ (st.1 < 0 ∨ gD far k < st.2) then ((k : Int), gD far k) else st
def cfar (N : Nat) (es : List (Int × Int)) (first : Nat) : List Int := bfsD (sucs N (es.map swapE)) first first
def cycStep (N : Nat) (es : List (Int × Int)) (best : List Nat) (first : Nat) : List Nat :=
  let st := (ofP (sucs N es) first first).foldl (cstep (cfar N es first)) (-1, 0)
  if st.1 < 0 ∨ (best ≠ [] ∧ (best.length : Int) ≤ st.2 + 1) then best
  else if st.1 = (first : Int) then [first] else first :: (descP (sucs N es) (cfar N es first) (gD (cfar N es first) st.1.toNat).toNat st.1.toNat).dropLast
def cycF (N : Nat) (es : List (Int × Int)) (k : Nat) : List Nat := (List.range k).foldl (cycStep N es) []
end Go.Proofs.YtenfkejbndifdaaGreatDoor

namespace Go.Proofs.YtenfkejbndifdaaGreatDoor
set_option linter.unusedVariables false
set_option linter.unusedSimpArgs false

inductive Walk (S : List (List Nat)) : Nat → Nat → Nat → Prop
  | nil (a : Nat) : Walk S a a 0
  | cons {a b c m : Nat} : b ∈ S.getD a [] → Walk S b c m → Walk S a c (m + 1)
theorem Rch.walk {S : List (List Nat)} {a b : Nat} (h : Rch S a b) : ∃ m, Walk S a b m := by
  induction h with
  | refl a => exact ⟨0, .nil a⟩
  | step hb _ ih => obtain ⟨m, hm⟩ := ih; exact ⟨m + 1, .cons hb hm⟩
theorem walk_dist {N : Nat} {es : List (Int × Int)} {tgt a m : Nat} {d : List Int} (h : DistR (sucs N (es.map swapE)) 0 tgt d) (hw : Walk (sucs N es) a tgt m) : 0 ≤ gD d a ∧ gD d a ≤ m := by
  induction hw with
  | nil a => rw [h.t0]; simp
  | @cons a b c m hb _ ih =>
    obtain ⟨h1, h2⟩ := ih h
    obtain ⟨m1, m2, m3⟩ := mem_sucs.1 hb
    obtain ⟨h3, h4⟩ := h.near b h1 a (by unfold ofP; exact List.mem_filter.2 ⟨mem_sucs.2 ⟨m2, m1, mem_swap.2 m3⟩, by simp⟩)
    refine ⟨h3, ?_⟩
    have : ((m + 1 : Nat) : Int) = (m : Int) + 1 := by simp
    omega
def IsWay (S : List (List Nat)) (l : List Nat) (a b : Nat) : Prop := l.head? = some a ∧ l.getLast? = some b ∧ ∀ i x y, l[i]? = some x → l[i + 1]? = some y → y ∈ S.getD x []
theorem descP_way {N : Nat} {es : List (Int × Int)} {tgt : Nat} {d : List Int} (h : DistR (sucs N (es.map swapE)) 0 tgt d) : ∀ (m n : Nat), gD d n = (m : Int) → IsWay (sucs N es) (descP (sucs N es) d m n) n tgt ∧ (descP (sucs N es) d m n).length = m + 1
  | 0, n, hn => by
    have := h.zero n (by simpa using hn)
    subst this
    exact ⟨⟨rfl, rfl, fun i x y hx hy => by simp [descP] at hy⟩, rfl⟩
  | m + 1, n, hn => by
    obtain ⟨k0, hk0, hm0⟩ := h.desc n m (by rw [hn]; simp)
    unfold descP
    cases e : ((sucs N es).getD n []).find? (fun k => gD d k == (m : Int)) with
    | none =>
      have := List.find?_eq_none.1 e k0 hk0
      exact absurd (by simpa using hm0) this
    | some k =>
      have hk1 := List.mem_of_find?_eq_some e
      have hk2 : gD d k = (m : Int) := by simpa using List.find?_some e
      obtain ⟨⟨i1, i2, i3⟩, i4⟩ := descP_way h m k hk2
      simp only
      refine ⟨⟨rfl, ?_, fun i x y hx hy => ?_⟩, by rw [List.length_cons, i4]⟩
      · rw [List.getLast?_cons, i2]
        rfl
      · cases i with
        | zero =>
          simp at hx hy
          subst hx
          rw [← List.head?_eq_getElem?, i1] at hy
          cases hy
          exact hk1
        | succ i => exact i3 i x y (by simpa using hx) (by simpa using hy)
theorem swap_dist (N : Nat) (es : List (Int × Int)) (b : Nat) (hb : b < N) : DistR (sucs N (es.map swapE)) 0 b (bfsD (sucs N (es.map swapE)) 0 b) := bfsD_dist sucs_lt (by rw [sucs_length]; exact hb)
end Go.Proofs.YtenfkejbndifdaaGreatDoor

namespace Go.Proofs.YtenfkejbndifdaaGreatDoor
set_option linter.unusedVariables false
set_option linter.unusedSimpArgs false
open Go

def relEs (X : List RelL) : List (Int × Int) := (List.range X.length).flatMap fun i => (X.getD i default).reqs.filterMap fun q => (namedI false X q).map fun (k : Nat) => ((i : Int), (k : Int))
theorem relEs_mem {X : List RelL} {x : Int × Int} : x ∈ relEs X ↔ ∃ (i : Nat) (q : ReqL) (k : Nat), i < X.length ∧ q ∈ (X.getD i default).reqs ∧ namedI false X q = some k ∧ x = ((i : Int), (k : Int)) := by
  unfold relEs
  rw [List.mem_flatMap]
  constructor
  · rintro ⟨i, hi, h⟩
    obtain ⟨q, hq, h1⟩ := List.mem_filterMap.1 h
    obtain ⟨k, hk, h2⟩ := Option.map_eq_some_iff.1 h1
    exact ⟨i, q, k, List.mem_range.1 hi, hq, hk, h2.symm⟩
  · rintro ⟨i, q, k, hi, hq, hk, rfl⟩
    exact ⟨i, List.mem_range.2 hi, List.mem_filterMap.2 ⟨q, hq, by rw [hk]; rfl⟩⟩
theorem rel_suc {X : List RelL} {a b : Nat} : b ∈ (sucs X.length (relEs X)).getD a [] ↔ a < X.length ∧ ∃ q ∈ (X.getD a default).reqs, namedI false X q = some b := by
  rw [mem_sucs, relEs_mem]
  constructor
  · rintro ⟨ha, hb, i, q, k, hi, hq, hk, e⟩
    injection e with e1 e2
    have e1 : a = i := by omega
    have e2 : b = k := by omega
    subst e1 e2
    exact ⟨ha, q, hq, hk⟩
  · rintro ⟨ha, q, hq, hk⟩
    exact ⟨ha, (candI_mem.1 (named_mem hk)).1, a, q, b, ha, hq, hk, rfl⟩
def bestK (ds : List Int) : Nat → Option Nat
  | 0 => none
  | k + 1 => match bestK ds k with
    | none => if 0 ≤ ds.getD k (-1) then some k else none
    | some r => if 0 ≤ ds.getD k (-1) ∧ ds.getD k (-1) < ds.getD r (-1) then some k else some r
theorem bestK_some {ds : List Int} : ∀ {k r : Nat}, bestK ds k = some r → r < k ∧ 0 ≤ ds.getD r (-1)
  | 0, r, h => by cases h
  | k + 1, r, h => by
    unfold bestK at h
    cases hb : bestK ds k with
    | none =>
      rw [hb] at h
      simp only at h
      split at h
      · rename_i h1; cases h; exact ⟨by omega, h1⟩
      · cases h
    | some t =>
      rw [hb] at h
      obtain ⟨h1, h2⟩ := bestK_some hb
      simp only at h
      split at h
      · rename_i h3; cases h; exact ⟨by omega, h3.1⟩
      · cases h; exact ⟨by omega, h2⟩
theorem bestK_none {ds : List Int} : ∀ {k : Nat}, bestK ds k = none → ∀ r, r < k → ds.getD r (-1) < 0
  | 0, _, r, hr => by omega
  | k + 1, h, r, hr => by
    unfold bestK at h
    cases hb : bestK ds k with
    | none =>
      rw [hb] at h
      simp only at h
      split at h
      · cases h
      · rename_i h1
        rcases Nat.lt_or_eq_of_le (Nat.le_of_lt_succ hr) with h2 | rfl
        · exact bestK_none hb r h2
        · omega
    | some t =>
      rw [hb] at h
      simp only at h
      split at h <;> cases h
def dT (X : List RelL) (t : Nat) : List Int := bfsD (sucs X.length ((relEs X).map swapE)) 0 t
def rootD (X : List RelL) (roots : List ReqL) (t : Nat) : List Int := roots.map fun q => match namedI false X q with
  | some k => gD (dT X t) k
  | none => -1
abbrev CauL := ByteArray × Int × List SelL
noncomputable def tgtM (X : List RelL) (roots : List ReqL) (p : ByteArray) : Option Nat := (topM false X roots).find? fun i => decide ((X.getD i default).path = p)
noncomputable def whyV (X : List RelL) (roots : List ReqL) (p : ByteArray) : CauL × Int :=
  if (selM false X roots).2 ≠ 0 then ((⟨#[]⟩, 0, []), (selM false X roots).2)
  else match tgtM X roots p with
    | none => ((⟨#[]⟩, 0, []), 6)
    | some t => match bestK (rootD X roots t) roots.length with
      | none => ((p, 0, []), 0)
      | some r => ((p, (r : Int), (pathF X.length (relEs X) ((namedI false X (roots.getD r default)).getD 0) t).map fun i => keyL (X.getD i default)), 0)
def chainB (X : List RelL) : List ReqL → List SelL → Bool
  | _, [] => true
  | l, s :: t => match (l.filterMap (namedI false X)).find? fun k => decide (keyL (X.getD k default) = s) with
    | some k => chainB X (X.getD k default).reqs t
    | none => false
noncomputable def checkV (X : List RelL) (roots : List ReqL) (c : CauL) : Bool := open Classical in
  decide ((selM false X roots).2 = 0) && (decide (0 ≤ c.2.1 ∧ c.2.1 < roots.length) && (match c.2.2.getLast? with
    | none => false
    | some y => decide (y.1 = c.1) && (decide (y ∈ (selM false X roots).1) && chainB X [roots.getD c.2.1.toNat default] c.2.2)))
theorem chain_at {X : List RelL} (hX : IdxOk X) {l : List ReqL} {k : Nat} {t : List SelL} (h : ∃ q ∈ l, namedI false X q = some k) : chainB X l (keyL (X.getD k default) :: t) = chainB X (X.getD k default).reqs t := by
  obtain ⟨q, hq, hn⟩ := h
  have hm : k ∈ l.filterMap (namedI false X) := List.mem_filterMap.2 ⟨q, hq, hn⟩
  show (match (l.filterMap (namedI false X)).find? fun j => decide (keyL (X.getD j default) = keyL (X.getD k default)) with
    | some j => chainB X (X.getD j default).reqs t
    | none => false) = _
  cases hf : (l.filterMap (namedI false X)).find? fun j => decide (keyL (X.getD j default) = keyL (X.getD k default)) with
  | none => have := List.find?_eq_none.1 hf k hm; simp at this
  | some j =>
    have h1 : keyL (X.getD j default) = keyL (X.getD k default) := by simpa using List.find?_some hf
    obtain ⟨q2, _, hn2⟩ := List.mem_filterMap.1 (List.mem_of_find?_eq_some hf)
    have := hX.inj (candI_mem.1 (named_mem hn2)).1 (candI_mem.1 (named_mem hn)).1 h1
    subst this
    rfl
theorem descP_dist {S : List (List Nat)} {far : List Int} : ∀ (m n : Nat), gD far n = (m : Int) → ∀ (i x : Nat), (descP S far m n)[i]? = some x → gD far x = (m : Int) - i
  | 0, n, hn, i, x, h => by
    unfold descP at h
    cases i with
    | zero => cases h; simpa using hn
    | succ i => simp at h
  | m + 1, n, hn, i, x, h => by
    unfold descP at h
    cases i with
    | zero => cases h; rw [hn]; simp
    | succ i =>
      rw [List.getElem?_cons_succ] at h
      cases hf : (S.getD n []).find? fun k => gD far k == (m : Int) with
      | none => rw [hf] at h; simp at h
      | some k =>
        rw [hf] at h
        have hk : gD far k = (m : Int) := by simpa using List.find?_some hf
        have := descP_dist m k hk i x h
        rw [this]
        push_cast
        omega
theorem path_desc {X : List RelL} {a t : Nat} (h : 0 ≤ gD (dT X t) a) :
    pathF X.length (relEs X) a t = descP (sucs X.length (relEs X)) (dT X t) (gD (dT X t) a).toNat a := by
  unfold pathF dT at *
  simp only
  rw [if_neg (by omega)]
theorem reach_rch {X : List RelL} {roots : List ReqL} {i : Nat} (h : RchM false X roots i) : ∃ q ∈ roots, ∃ k, namedI false X q = some k ∧ Rch (sucs X.length (relEs X)) k i := by
  induction h with
  | root hq hn => exact ⟨_, hq, _, hn, .refl _⟩
  | step hk hq hn ih =>
    obtain ⟨q, hq2, k, hk2, hr⟩ := ih
    exact ⟨q, hq2, k, hk2, hr.trans (.step (rel_suc.2 ⟨hk.lt.1, _, hq, hn⟩) (.refl _))⟩
end Go.Proofs.YtenfkejbndifdaaGreatDoor

namespace Go.Proofs.YtenfkejbndifdaaGreatDoor
set_option linter.unusedVariables false
set_option linter.unusedSimpArgs false
open Go Go.RowKit

def firstI {α : Type} (p : α → Bool) (l : List α) : Int := match l.findIdx? p with
  | some i => (i : Int)
  | none => -1
theorem firstI_none {α : Type} {p : α → Bool} {l : List α} (h : ∀ x ∈ l, p x = false) : firstI p l = -1 := by
  unfold firstI
  rw [List.findIdx?_eq_none_iff.2 fun x hx => by simp [h x hx]]
theorem firstI_at {α : Type} {p : α → Bool} {l : List α} {k : Nat} (hk : k < l.length) (h : ∀ x ∈ l.take k, p x = false) (h2 : p l[k] = true) : firstI p l = (k : Int) := by
  unfold firstI
  rw [List.findIdx?_eq_some_iff_getElem.2 ⟨hk, h2, fun j hj => by
    have : l[j] ∈ l.take k := by
      rw [List.mem_iff_getElem]
      exact ⟨j, by simp; omega, by simp⟩
    simp [h _ this]⟩]
theorem firstI_any {α : Type} (p : α → Bool) (l : List α) : (0 ≤ firstI p l ↔ l.any p = true) ∧ (firstI p l < 0 ↔ l.any p = false) := by
  unfold firstI
  cases h : l.findIdx? p with
  | none =>
    have := List.findIdx?_eq_none_iff.1 h
    have h2 : l.any p = false := by rw [List.any_eq_false]; exact fun x hx => by simp [this x hx]
    simp [h2]
  | some i =>
    obtain ⟨hi, h1, _⟩ := List.findIdx?_eq_some_iff_getElem.1 h
    have h2 : l.any p = true := by rw [List.any_eq_true]; exact ⟨_, List.getElem_mem hi, h1⟩
    simp [h2]
def PredQ (g : Nat) (lb : Array Value) (es : List ReqL) (p : ReqL → Bool) (w : World) : Prop :=
  ∀ (W : World) (x : ReqL) (r : Value), x ∈ es → Below w.heap.size w W → SpansOf W.heap.size r x.2 W → Calls Tryz.prog g (#[.agg #[.string x.1, r]] ++ lb) W fun e w' => e = .returned (.bool (p x)) ∧ Below w.heap.size w w'
set_option maxRecDepth 100000 in
set_option maxHeartbeats 4000000 in
theorem idx_req (g : Nat) (lb : Array Value) (eg : ∀ args w, (callFunc g args).run Tryz.prog w = .ok (.enter g args) w) (p : ReqL → Bool) (v : Value) (es : List ReqL) (w : World) (hes : es.length ≤ 1000000000) (hE : ReqsOf w.heap.size v es w) (hp : PredQ g lb es p w) :
    Calls Tryz.prog 92 #[v, .func (.func g) #[] lb] w fun e w' => e = .returned (.int .i64 (firstI p es)) ∧ Below w.heap.size w w' := by
  obtain ⟨ao, ec, rfl, hE⟩ := hE
  have HE := Lib.hid hE
  have HP := Lib.hid hp
  obtain ⟨R, hR⟩ : ∃ R, firstI p es = R := ⟨_, rfl⟩
  have HR := Lib.hid hR
  rw [hR]
  clear hE hp hR
  go_enter Tryz.func92, Tryz.ntmps92
  go_wp2_with fail
  go_loopw [8] (fun s wr => ∃ k : Nat, k ≤ es.length ∧ s = .int .i64 k ∧ Hid (Below w.heap.size w wr) ∧ Hid (∀ x ∈ es.take k, p x = false)) (fun s _ => es.length - (intOf s).toNat)
  case atStart => exact ⟨0, by omega, rfl, Lib.hid (Below.refl _ _), Lib.hid (by simp)⟩
  case round =>
    obtain ⟨k, hk, rfl, HB, HA⟩ := hrel
    by_cases hlt : k < es.length
    · have hlt2 : (k : Int) < (es.length : Int) := by omega
      obtain ⟨b, off, r, rfl, hb, hc1, hc2, hsp⟩ := HE.out k es[k] (by simp [hlt])
      have hd1 := (HB.out.cell (p := ⟨b, off + k * 2, none⟩) hb).trans hc1
      have hd2 := (HB.out.cell (p := ⟨b, off + k * 2 + 1, none⟩) hb).trans hc2
      have HSP := Lib.hid hsp
      have HT : Hid (es.take (k + 1) = es.take k ++ [es[k]]) := Lib.hid (List.take_succ_eq_append_getElem hlt)
      have HF : Hid (p es[k] = true → R = (k : Int)) := Lib.hid (fun h => by rw [← HR.out]; exact firstI_at hlt HA.out h)
      have HCALL := Lib.hid (HP.out wr es[k] r (List.getElem_mem hlt) HB.out ((hsp.below HB.out (Nat.le_refl _)).mono HB.out.size))
      obtain ⟨ra, rc, rfl, _⟩ := hsp
      clear HSP
      generalize es[k] = x at *
      cases hq : p x with
      | true =>
        rw [hq] at HCALL
        have HQ := Lib.hid (HF.out hq)
        clear hq
        go_wp2_with (go_at_fn g; refine HCALL.out.mono ?_; rintro e w' ⟨rfl, hb'⟩)
        go_ret
        exact ⟨by rw [HQ.out]; rfl, hb'⟩
      | false =>
        rw [hq] at HCALL
        have HQ := Lib.hid hq
        clear hq
        go_wp2_with (go_at_fn g; refine HCALL.out.mono ?_; rintro e w' ⟨rfl, hb'⟩)
        go_roundw
        case rel =>
          refine ⟨k + 1, by omega, by go_num, Lib.hid hb', Lib.hid ?_⟩
          rw [HT.out]
          intro y hy
          rcases List.mem_append.1 hy with hy | hy
          · exact HA.out y hy
          · rw [List.mem_singleton] at hy; rw [hy]; exact HQ.out
        case measure => simp [intOf]; omega
    · have hkk : k = es.length := by omega
      subst hkk
      rw [List.take_length] at HA
      have HN := Lib.hid (show R = -1 by rw [← HR.out]; exact firstI_none HA.out)
      go_wp2_with fail
      go_ret
      exact ⟨by rw [HN.out]; rfl, HB.out⟩
theorem has_req (g : Nat) (lb : Array Value) (eg : ∀ args w, (callFunc g args).run Tryz.prog w = .ok (.enter g args) w) (p : ReqL → Bool) (v : Value) (es : List ReqL) (w : World) (hes : es.length ≤ 1000000000) (hE : ReqsOf w.heap.size v es w) (hp : PredQ g lb es p w) :
    Calls Tryz.prog 33 #[v, .func (.func g) #[] lb] w fun e w' => e = .returned (.bool (es.any p)) ∧ Below w.heap.size w w' := by
  have HI := Lib.hid (idx_req g lb eg p v es w hes hE hp)
  obtain ⟨f1, f2⟩ := firstI_any p es
  generalize firstI p es = r at HI f1 f2
  generalize es.any p = q at f1 f2 ⊢
  have HF := Lib.hid (And.intro f1 f2)
  obtain ⟨ao, ec, rfl, _⟩ := hE
  clear hp eg f1 f2
  go_enter Tryz.func33, Tryz.ntmps33
  go_wp2_with fail
  refine HI.out.mono ?_
  rintro e w' ⟨rfl, hb⟩
  cases q with
  | true =>
    have h0 : 0 ≤ r := HF.out.1.2 rfl
    go_wp2_with fail
    go_ret
    exact ⟨rfl, hb⟩
  | false =>
    have h2 : r < 0 := HF.out.2.2 rfl
    have h0 : ¬ 0 ≤ r := by omega
    have h1 : decide (0 ≤ r) = false := decide_eq_false h0
    go_wp2_with fail
    go_ret
    exact ⟨rfl, hb⟩
def PredR (g : Nat) (lb : Array Value) (es : List RelL) (p : RelL → Bool) (w : World) : Prop :=
  ∀ (W : World) (x : RelL) (r : Value), x ∈ es → Below w.heap.size w W → ReqsOf W.heap.size r x.reqs W → Calls Tryz.prog g (#[.agg (relC x r)] ++ lb) W fun e w' => e = .returned (.bool (p x)) ∧ Below w.heap.size w w'
set_option maxRecDepth 100000 in
set_option maxHeartbeats 4000000 in
theorem idx_rel (g : Nat) (lb : Array Value) (eg : ∀ args w, (callFunc g args).run Tryz.prog w = .ok (.enter g args) w) (p : RelL → Bool) (v : Value) (es : List RelL) (w : World) (hes : es.length ≤ 1000000000) (hE : RelsOf w.heap.size v es w) (hp : PredR g lb es p w) :
    Calls Tryz.prog 120 #[v, .func (.func g) #[] lb] w fun e w' => e = .returned (.int .i64 (firstI p es)) ∧ Below w.heap.size w w' := by
  obtain ⟨ao, ec, rfl, hE⟩ := hE
  have HE := Lib.hid hE
  have HP := Lib.hid hp
  obtain ⟨R, hR⟩ : ∃ R, firstI p es = R := ⟨_, rfl⟩
  have HR := Lib.hid hR
  rw [hR]
  clear hE hp hR
  go_enter Tryz.func120, Tryz.ntmps120
  go_wp2_with fail
  go_loopw [8] (fun s wr => ∃ k : Nat, k ≤ es.length ∧ s = .int .i64 k ∧ Hid (Below w.heap.size w wr) ∧ Hid (∀ x ∈ es.take k, p x = false)) (fun s _ => es.length - (intOf s).toNat)
  case atStart => exact ⟨0, by omega, rfl, Lib.hid (Below.refl _ _), Lib.hid (by simp)⟩
  case round =>
    obtain ⟨k, hk, rfl, HB, HA⟩ := hrel
    by_cases hlt : k < es.length
    · have hlt2 : (k : Int) < (es.length : Int) := by omega
      obtain ⟨b, off, rfl, hb, hra⟩ := HE.out k es[k] (by simp [hlt])
      obtain ⟨r, hr, d0, d1, d2, d3, d4, d5, d6, d7, d8⟩ := (hra.below HB.out (Nat.le_refl _) hb).box
      have HT : Hid (es.take (k + 1) = es.take k ++ [es[k]]) := Lib.hid (List.take_succ_eq_append_getElem hlt)
      have HF : Hid (p es[k] = true → R = (k : Int)) := Lib.hid (fun h => by rw [← HR.out]; exact firstI_at hlt HA.out h)
      have HCALL := Lib.hid (HP.out wr es[k] r (List.getElem_mem hlt) HB.out (hr.mono HB.out.size))
      clear hra hr
      simp only [relC] at HCALL
      generalize es[k] = x at *
      cases hq : p x with
      | true =>
        rw [hq] at HCALL
        have HQ := Lib.hid (HF.out hq)
        clear hq
        go_wp2_with (go_at_fn g; refine HCALL.out.mono ?_; rintro e w' ⟨rfl, hb'⟩)
        go_ret
        exact ⟨by rw [HQ.out]; rfl, hb'⟩
      | false =>
        rw [hq] at HCALL
        have HQ := Lib.hid hq
        clear hq
        go_wp2_with (go_at_fn g; refine HCALL.out.mono ?_; rintro e w' ⟨rfl, hb'⟩)
        go_roundw
        case rel =>
          refine ⟨k + 1, by omega, by go_num, Lib.hid hb', Lib.hid ?_⟩
          rw [HT.out]
          intro y hy
          rcases List.mem_append.1 hy with hy | hy
          · exact HA.out y hy
          · rw [List.mem_singleton] at hy; rw [hy]; exact HQ.out
        case measure => simp [intOf]; omega
    · have hkk : k = es.length := by omega
      subst hkk
      rw [List.take_length] at HA
      have HN := Lib.hid (show R = -1 by rw [← HR.out]; exact firstI_none HA.out)
      go_wp2_with fail
      go_ret
      exact ⟨by rw [HN.out]; rfl, HB.out⟩
theorem has_rel (g : Nat) (lb : Array Value) (eg : ∀ args w, (callFunc g args).run Tryz.prog w = .ok (.enter g args) w) (p : RelL → Bool) (v : Value) (es : List RelL) (w : World) (hes : es.length ≤ 1000000000) (hE : RelsOf w.heap.size v es w) (hp : PredR g lb es p w) :
    Calls Tryz.prog 74 #[v, .func (.func g) #[] lb] w fun e w' => e = .returned (.bool (es.any p)) ∧ Below w.heap.size w w' := by
  have HI := Lib.hid (idx_rel g lb eg p v es w hes hE hp)
  obtain ⟨f1, f2⟩ := firstI_any p es
  generalize firstI p es = r at HI f1 f2
  generalize es.any p = q at f1 f2 ⊢
  have HF := Lib.hid (And.intro f1 f2)
  obtain ⟨ao, ec, rfl, _⟩ := hE
  clear hp eg f1 f2
  go_enter Tryz.func74, Tryz.ntmps74
  go_wp2_with fail
  refine HI.out.mono ?_
  rintro e w' ⟨rfl, hb⟩
  cases q with
  | true =>
    have h0 : 0 ≤ r := HF.out.1.2 rfl
    go_wp2_with fail
    go_ret
    exact ⟨rfl, hb⟩
  | false =>
    have h2 : r < 0 := HF.out.2.2 rfl
    have h0 : ¬ 0 ≤ r := by omega
    have h1 : decide (0 ≤ r) = false := decide_eq_false h0
    go_wp2_with fail
    go_ret
    exact ⟨rfl, hb⟩
def PredS4 (g : Nat) (lb : Array Value) (es : List SelL) (p : SelL → Bool) (w : World) : Prop :=
  ∀ (W : World) (x : SelL), x ∈ es → Below w.heap.size w W →  Calls Tryz.prog g (#[.agg #[.string x.1, intC x.2.1, intC x.2.2.1, intC x.2.2.2]] ++ lb) W fun e w' => e = .returned (.bool (p x)) ∧ Below w.heap.size w w'
end Go.Proofs.YtenfkejbndifdaaGreatDoor
