/- Graphs, plain: what is reached, and what a visit leaves. Graphs, plain: breadth-first distances. Graphs, plain: distances computed; the least shortest way; a reversed graph's successors. Graphs, plain: the shortest cycle as the program finds it. Graphs, plain: the numbering of components as the program does it. Graphs, plain: the components in order. Graphs, plain: the components as lists of nodes, and their edges, as the program does it. -/
import Derived.Test.YtlcgbkeggmaljaaPA
namespace Go.Proofs.Ytlcgbkeggmaljaa
set_option linter.unusedVariables false
set_option linter.unusedSimpArgs false

/-- a way leads from a node to another one. -/
inductive Rch (S : List (List Nat)) : Nat → Nat → Prop
  | refl (a : Nat) : Rch S a a
  | step {a b c : Nat} : b ∈ S.getD a [] → Rch S b c → Rch S a c
theorem Rch.trans {S : List (List Nat)} {a b c : Nat} (h : Rch S a b) (k : Rch S b c) : Rch S a c := by
  induction h with
  | refl => exact k
  | step hb _ ih => exact .step hb (ih k)

/-- the nodes that have been seen grow. -/
def Mono (a b : List Bool) : Prop := a.length = b.length ∧ ∀ i : Nat, a[i]? = some true → b[i]? = some true
theorem Mono.refl (a : List Bool) : Mono a a := ⟨rfl, fun _ h => h⟩
theorem Mono.trans {a b c : List Bool} (h : Mono a b) (k : Mono b c) : Mono a c := ⟨h.1.trans k.1, fun i hi => k.2 i (h.2 i hi)⟩

/-- what a visit of a node leaves. -/
def VisR (S : List (List Nat)) (seen : List Bool) (n : Nat) (seen' : List Bool) : Prop :=
  Mono seen seen' ∧ seen'[n]? = some true ∧ ∀ a : Nat, seen'[a]? = some true → seen[a]? ≠ some true → Rch S n a ∧ ∀ k ∈ S.getD a [], seen'[k]? = some true
/-- what the visits of some nodes leave. -/
def VisL (S : List (List Nat)) (s0 : List Bool) (pre : List Nat) (sn : List Bool) : Prop :=
  Mono s0 sn ∧ (∀ k ∈ pre, sn[k]? = some true) ∧ ∀ a : Nat, sn[a]? = some true → s0[a]? ≠ some true → (∃ k ∈ pre, Rch S k a) ∧ ∀ k ∈ S.getD a [], sn[k]? = some true

theorem VisL.nil (S : List (List Nat)) (s0 : List Bool) : VisL S s0 [] s0 := ⟨Mono.refl _, by simp, fun a h1 h2 => absurd h1 h2⟩
theorem VisL.snoc {S : List (List Nat)} {s0 sn sn' : List Bool} {pre : List Nat} {k : Nat} (h : VisL S s0 pre sn) (hv : VisR S sn k sn') : VisL S s0 (pre ++ [k]) sn' := by
  obtain ⟨h1, h2, h3⟩ := h
  obtain ⟨v1, v2, v3⟩ := hv
  refine ⟨h1.trans v1, fun j hj => ?_, fun a ha hna => ?_⟩
  · rcases List.mem_append.1 hj with hj | hj
    · exact v1.2 _ (h2 j hj)
    · rw [List.mem_singleton] at hj; rw [hj]; exact v2
  · by_cases hs : sn[a]? = some true
    · obtain ⟨⟨j, hj, hr⟩, hc⟩ := h3 a hs hna
      exact ⟨⟨j, by simp [hj], hr⟩, fun i hi => v1.2 _ (hc i hi)⟩
    · obtain ⟨hr, hc⟩ := v3 a ha hs
      exact ⟨⟨k, by simp, hr⟩, hc⟩
theorem VisR.seen {S : List (List Nat)} {seen : List Bool} {n : Nat} (h : seen[n]? = some true) : VisR S seen n seen := ⟨Mono.refl _, h, fun a h1 h2 => absurd h1 h2⟩
theorem VisR.done {S : List (List Nat)} {seen sn : List Bool} {n : Nat} (h : seen[n]? = some false) (hl : VisL S (seen.set n true) (S.getD n []) sn) : VisR S seen n sn := by
  obtain ⟨h1, h2, h3⟩ := hl
  have hn : n < seen.length := (List.getElem?_eq_some_iff.1 h).1
  have hnn : (seen.set n true)[n]? = some true := List.getElem?_set_self hn
  refine ⟨⟨by rw [← h1.1, List.length_set], fun i hi => ?_⟩, h1.2 _ hnn, fun a ha hna => ?_⟩
  · refine h1.2 _ ?_
    by_cases e : i = n
    · subst e; exact hnn
    · rw [List.getElem?_set_ne (Ne.symm e)]; exact hi
  · by_cases e : a = n
    · subst e
      exact ⟨.refl _, h2⟩
    · obtain ⟨⟨k, hk, hr⟩, hc⟩ := h3 a ha (by rw [List.getElem?_set_ne (Ne.symm e)]; exact hna)
      exact ⟨.step hk hr, hc⟩

/-- how many have not been seen. -/
def unseen (l : List Bool) : Nat := l.count false
theorem Mono.left : ∀ {a b : List Bool}, Mono a b → unseen b ≤ unseen a
  | [], [], _ => Nat.le_refl _
  | [], _ :: _, h => by have := h.1; simp at this
  | _ :: _, [], h => by have := h.1; simp at this
  | x :: a, y :: b, h => by
    have ih := Mono.left (a := a) (b := b) ⟨by have := h.1; simpa using this, fun i hi => by have := h.2 (i + 1) (by simpa using hi); simpa using this⟩
    unfold unseen at *
    have h0 := h.2 0
    simp at h0
    rw [List.count_cons, List.count_cons]
    cases x <;> cases y <;> simp at h0 ⊢ <;> omega
theorem unseen_set : ∀ (l : List Bool) (n : Nat), l[n]? = some false → unseen (l.set n true) + 1 = unseen l
  | [], n, h => by simp at h
  | x :: l, 0, h => by
    simp at h
    subst h
    simp [unseen]
  | x :: l, n + 1, h => by
    have := unseen_set l n (by simpa using h)
    unfold unseen at *
    rw [List.set_cons_succ, List.count_cons, List.count_cons]
    omega
end Go.Proofs.Ytlcgbkeggmaljaa

namespace Go.Proofs.Ytlcgbkeggmaljaa
set_option linter.unusedVariables false
set_option linter.unusedSimpArgs false

/-- what a range over of yields. -/
def ofP (S : List (List Nat)) (node least : Nat) : List Nat := (S.getD node []).filter (fun k => decide (least ≤ k))
/-- a node's distance. -/
abbrev gD (d : List Int) (a : Nat) : Int := d.getD a (-1)
/-- distances to a node: 0 there, and one more than at a node to which an edge leads. -/
structure DistR (S : List (List Nat)) (least to : Nat) (d : List Int) : Prop where
  len : d.length = S.length
  lo : ∀ a, -1 ≤ gD d a
  t0 : gD d to = 0
  zero : ∀ a, gD d a = 0 → a = to
  pred : ∀ (a m : Nat), gD d a = (m : Int) + 1 → ∃ b, a ∈ ofP S b least ∧ gD d b = m
  near : ∀ b, 0 ≤ gD d b → ∀ a ∈ ofP S b least, 0 ≤ gD d a ∧ gD d a ≤ gD d b + 1

theorem DistR.le {S : List (List Nat)} {least to : Nat} {d e : List Int} (hd : DistR S least to d) (he : DistR S least to e) : ∀ (m a : Nat), gD d a = (m : Int) → 0 ≤ gD e a ∧ gD e a ≤ m
  | 0, a, h => by
    have : a = to := hd.zero a (by simpa using h)
    subst this
    rw [he.t0]; simp
  | m + 1, a, h => by
    obtain ⟨b, hb, hm⟩ := hd.pred a m (by rw [h]; simp)
    obtain ⟨h1, h2⟩ := DistR.le hd he m b hm
    obtain ⟨h3, h4⟩ := he.near b h1 a hb
    refine ⟨h3, ?_⟩
    have : ((m + 1 : Nat) : Int) = (m : Int) + 1 := by simp
    omega
theorem DistR.unique {S : List (List Nat)} {least to : Nat} {d e : List Int} (hd : DistR S least to d) (he : DistR S least to e) : d = e := by
  have hl : d.length = e.length := hd.len.trans he.len.symm
  refine List.ext_getElem hl fun i h1 h2 => ?_
  have e1 : gD d i = d[i] := by unfold gD; rw [List.getD_eq_getElem?_getD, List.getElem?_eq_getElem h1]; rfl
  have e2 : gD e i = e[i] := by unfold gD; rw [List.getD_eq_getElem?_getD, List.getElem?_eq_getElem h2]; rfl
  rw [← e1, ← e2]
  have a1 := hd.lo i
  have a2 := he.lo i
  by_cases h : 0 ≤ gD d i
  · have b1 := hd.le he (gD d i).toNat i (by omega)
    have b2 := he.le hd (gD e i).toNat i (by omega)
    omega
  · by_cases h' : 0 ≤ gD e i
    · have b2 := he.le hd (gD e i).toNat i (by omega)
      omega
    · omega

/-- one more node of a breadth-first search. -/
def bstep (n : Nat) (st : List Int × List Nat) (k : Nat) : List Int × List Nat := if gD st.1 k < 0 then (st.1.set k (gD st.1 n + 1), st.2 ++ [k]) else st
/-- how many nodes have no distance. -/
def unass (d : List Int) : Nat := d.countP (fun x => decide (x < 0))
theorem unass_set : ∀ (d : List Int) (k : Nat) (x : Int), k < d.length → gD d k < 0 → 0 ≤ x → unass (d.set k x) + 1 = unass d
  | [], k, x, h, _, _ => by simp at h
  | y :: d, 0, x, _, h, hx => by
    have hy : y < 0 := h
    unfold unass
    rw [List.set_cons_zero, List.countP_cons, List.countP_cons]
    simp [hy, show ¬ x < 0 by omega]
  | y :: d, k + 1, x, hk, h, hx => by
    have := unass_set d k x (by simpa using hk) h hx
    unfold unass at *
    rw [List.set_cons_succ, List.countP_cons, List.countP_cons]
    omega
theorem gD_set (d : List Int) (k : Nat) (x : Int) (a : Nat) (hk : k < d.length) : gD (d.set k x) a = if a = k then x else gD d a := by
  unfold gD
  rw [List.getD_eq_getElem?_getD, List.getD_eq_getElem?_getD]
  by_cases h : a = k
  · subst h; rw [if_pos rfl, List.getElem?_set_self hk]; rfl
  · rw [if_neg h, List.getElem?_set_ne (Ne.symm h)]
theorem gD_lt {d : List Int} {a : Nat} (h : 0 ≤ gD d a) : a < d.length := by
  unfold gD at h
  rw [List.getD_eq_getElem?_getD] at h
  cases e : d[a]? with
  | none => rw [e] at h; simp at h
  | some x => exact (List.getElem?_eq_some_iff.1 e).1

/-- what is known between two nodes of the queue. -/
structure BfsI (S : List (List Nat)) (least to : Nat) (d : List Int) (q : List Nat) : Prop where
  len : d.length = S.length
  lo : ∀ a, -1 ≤ gD d a
  t0 : gD d to = 0
  zero : ∀ a, gD d a = 0 → a = to
  pred : ∀ (a m : Nat), gD d a = (m : Int) + 1 → ∃ b, a ∈ ofP S b least ∧ gD d b = m
  bound : ∀ a, gD d a + unass d < S.length
  qok : ∀ k ∈ q, 0 ≤ gD d k
  mono : q.Pairwise fun x y => gD d x ≤ gD d y
  near : ∀ a h, q.head? = some h → gD d a ≤ gD d h + 1
  done : ∀ b, 0 ≤ gD d b → b ∉ q → ∀ a ∈ ofP S b least, 0 ≤ gD d a ∧ gD d a ≤ gD d b + 1
/-- what is known while a node's row is looked at. -/
structure BfsJ (S : List (List Nat)) (least to n : Nat) (pre : List Nat) (d : List Int) (q : List Nat) : Prop where
  len : d.length = S.length
  lo : ∀ a, -1 ≤ gD d a
  t0 : gD d to = 0
  zero : ∀ a, gD d a = 0 → a = to
  pred : ∀ (a m : Nat), gD d a = (m : Int) + 1 → ∃ b, a ∈ ofP S b least ∧ gD d b = m
  bound : ∀ a, gD d a + unass d < S.length
  n0 : 0 ≤ gD d n
  qok : ∀ k ∈ q, gD d n ≤ gD d k
  mono : q.Pairwise fun x y => gD d x ≤ gD d y
  near : ∀ a, gD d a ≤ gD d n + 1
  done : ∀ b, 0 ≤ gD d b → b ∉ q → b ≠ n → ∀ a ∈ ofP S b least, 0 ≤ gD d a ∧ gD d a ≤ gD d b + 1
  row : ∀ a ∈ pre, 0 ≤ gD d a ∧ gD d a ≤ gD d n + 1

theorem BfsJ.start {S : List (List Nat)} {least to n : Nat} {d : List Int} {q : List Nat} (h : BfsI S least to d (n :: q)) : BfsJ S least to n [] d q := by
  have hm := List.pairwise_cons.1 h.mono
  exact ⟨h.len, h.lo, h.t0, h.zero, h.pred, h.bound, h.qok n (by simp), hm.1, hm.2, fun a => h.near a n rfl, fun b hb hq hn => h.done b hb (by simp [hn, hq]), by simp⟩
theorem BfsJ.step {S : List (List Nat)} {least to n : Nat} {pre : List Nat} {st : List Int × List Nat} (h : BfsJ S least to n pre st.1 st.2) (k : Nat) (hk : k ∈ ofP S n least) (hkl : k < S.length) :
    BfsJ S least to n (pre ++ [k]) (bstep n st k).1 (bstep n st k).2 ∧ unass (bstep n st k).1 + (bstep n st k).2.length = unass st.1 + st.2.length := by
  obtain ⟨d, q⟩ := st
  simp only at h
  unfold bstep
  by_cases hneg : gD d k < 0
  · simp only [hneg, if_true]
    have hkd : k < d.length := by rw [h.len]; exact hkl
    have hn0 := h.n0
    have hu := unass_set d k (gD d n + 1) hkd hneg (by omega)
    have hkn : n ≠ k := fun e => by subst e; omega
    have hnn : gD (d.set k (gD d n + 1)) n = gD d n := by rw [gD_set _ _ _ _ hkd, if_neg hkn]
    have hg : ∀ a, gD (d.set k (gD d n + 1)) a = if a = k then gD d n + 1 else gD d a := fun a => gD_set _ _ _ _ hkd
    refine ⟨⟨by rw [List.length_set]; exact h.len, fun a => ?_, ?_, fun a ha => ?_, fun a m ha => ?_, fun a => ?_, by rw [hnn]; exact hn0, fun j hj => ?_, ?_, fun a => ?_, fun b hb hq hbn a ha => ?_, fun a ha => ?_⟩, ?_⟩
    · rw [hg]; split
      · omega
      · exact h.lo a
    · rw [hg]; split
      · rename_i e; subst e; have := h.t0; omega
      · exact h.t0
    · rw [hg] at ha; split at ha
      · omega
      · exact h.zero a ha
    · rw [hg] at ha; split at ha
      · rename_i e
        subst e
        exact ⟨n, hk, by rw [hnn]; omega⟩
      · obtain ⟨b, hb, hm⟩ := h.pred a m ha
        refine ⟨b, hb, ?_⟩
        rw [hg, if_neg (fun e => by subst e; omega)]
        exact hm
    · rw [hg]
      have b1 := h.bound n
      have b2 := h.bound a
      split <;> omega
    · rw [hnn, hg]
      split
      · omega
      · rename_i e
        rcases List.mem_append.1 hj with hj | hj
        · exact h.qok j hj
        · rw [List.mem_singleton] at hj; exact absurd hj e
    · rw [List.pairwise_append]
      refine ⟨h.mono.imp_of_mem fun {x y} hx hy hxy => ?_, by simp, fun x hx y hy => ?_⟩
      · have e1 : x ≠ k := fun e => by subst e; have := h.qok x hx; omega
        have e2 : y ≠ k := fun e => by subst e; have := h.qok y hy; omega
        rw [hg, hg, if_neg e1, if_neg e2]
        exact hxy
      · rw [List.mem_singleton] at hy
        subst hy
        have e1 : x ≠ y := fun e => by subst e; have := h.qok x hx; omega
        rw [hg, hg, if_neg e1, if_pos rfl]
        exact h.near x
    · rw [hnn, hg]
      split
      · omega
      · exact h.near a
    · have hbk : b ≠ k := fun e => hq (by simp [e])
      rw [hg, if_neg hbk] at hb
      obtain ⟨h1, h2⟩ := h.done b hb (fun e => hq (by simp [e])) hbn a ha
      have hak : a ≠ k := fun e => by subst e; omega
      rw [hg, hg, if_neg hak, if_neg hbk]
      exact ⟨h1, h2⟩
    · rw [hnn, hg]
      split
      · omega
      · rename_i e
        rcases List.mem_append.1 ha with ha | ha
        · exact h.row a ha
        · rw [List.mem_singleton] at ha; exact absurd ha e
    · rw [List.length_append, List.length_singleton]; omega
  · simp only [hneg, if_false]
    refine ⟨⟨h.len, h.lo, h.t0, h.zero, h.pred, h.bound, h.n0, h.qok, h.mono, h.near, h.done, fun a ha => ?_⟩, trivial⟩
    rcases List.mem_append.1 ha with ha | ha
    · exact h.row a ha
    · rw [List.mem_singleton] at ha
      subst ha
      exact ⟨by omega, h.near a⟩
theorem BfsJ.fin {S : List (List Nat)} {least to n : Nat} {d : List Int} {q : List Nat} (h : BfsJ S least to n (ofP S n least) d q) : BfsI S least to d q := by
  refine ⟨h.len, h.lo, h.t0, h.zero, h.pred, h.bound, fun k hk => by have := h.qok k hk; have := h.n0; omega, h.mono, fun a x hx => ?_, fun b hb hq a ha => ?_⟩
  · have h1 := h.near a
    have h2 := h.qok x (List.mem_of_mem_head? hx)
    omega
  · by_cases e : b = n
    · subst e; exact h.row a ha
    · exact h.done b hb hq e a ha
theorem BfsI.dist {S : List (List Nat)} {least to : Nat} {d : List Int} (h : BfsI S least to d []) : DistR S least to d :=
  ⟨h.len, h.lo, h.t0, h.zero, h.pred, fun b hb => h.done b hb (by simp)⟩
theorem gD_rep (N a : Nat) : gD (List.replicate N (-1)) a = -1 := by
  unfold gD
  rw [List.getD_eq_getElem?_getD, List.getElem?_replicate]
  split <;> rfl
theorem BfsI.start {S : List (List Nat)} {least to : Nat} (hto : to < S.length) : BfsI S least to ((List.replicate S.length (-1)).set to 0) [to] := by
  have hl : to < (List.replicate S.length (-1 : Int)).length := by simpa using hto
  have hg : ∀ a, gD ((List.replicate S.length (-1)).set to 0) a = if a = to then 0 else -1 := fun a => by rw [gD_set _ _ _ _ hl, gD_rep]
  have hu : unass ((List.replicate S.length (-1)).set to 0) + 1 = S.length := by
    rw [unass_set _ _ _ hl (by rw [gD_rep]; omega) (by omega)]
    unfold unass
    rw [List.countP_replicate]
    simp
  refine ⟨by simp, fun a => ?_, ?_, fun a ha => ?_, fun a m ha => ?_, fun a => ?_, fun k hk => ?_, by simp, fun a h hh => ?_, fun b hb hq a ha => ?_⟩
  · rw [hg]; split <;> omega
  · rw [hg, if_pos rfl]
  · rw [hg] at ha; split at ha
    · assumption
    · omega
  · rw [hg] at ha; split at ha <;> omega
  · rw [hg]; split <;> omega
  · rw [List.mem_singleton] at hk; subst hk; rw [hg, if_pos rfl]; omega
  · simp at hh; subst hh; rw [hg, hg, if_pos rfl]; split <;> omega
  · rw [hg] at hb; split at hb
    · rename_i e; exact absurd (by simp [e]) hq
    · omega
end Go.Proofs.Ytlcgbkeggmaljaa

namespace Go.Proofs.Ytlcgbkeggmaljaa
set_option linter.unusedVariables false
set_option linter.unusedSimpArgs false

/-- a breadth-first search, by a count of rounds. -/
def bfsRun (S : List (List Nat)) (least : Nat) : Nat → List Int → List Nat → List Int
  | 0, d, _ => d
  | _ + 1, d, [] => d
  | m + 1, d, n :: q => let st := (ofP S n least).foldl (bstep n) (d, q); bfsRun S least m st.1 st.2
/-- the distances to a node. -/
def bfsD (S : List (List Nat)) (least to : Nat) : List Int := bfsRun S least (S.length + 1) ((List.replicate S.length (-1)).set to 0) [to]

theorem BfsJ.fold {S : List (List Nat)} {least to n : Nat} (hS : ∀ a, ∀ k ∈ S.getD a [], k < S.length) : ∀ (l : List Nat) (pre : List Nat) (st : List Int × List Nat), pre ++ l = ofP S n least → BfsJ S least to n pre st.1 st.2 →
    BfsJ S least to n (ofP S n least) (l.foldl (bstep n) st).1 (l.foldl (bstep n) st).2 ∧ unass (l.foldl (bstep n) st).1 + (l.foldl (bstep n) st).2.length = unass st.1 + st.2.length
  | [], pre, st, hp, h => by rw [List.append_nil] at hp; subst hp; exact ⟨h, rfl⟩
  | k :: l, pre, st, hp, h => by
    have hk : k ∈ ofP S n least := by rw [← hp]; simp
    have hkl : k < S.length := by unfold ofP at hk; exact hS n k (List.mem_filter.1 hk).1
    obtain ⟨h1, h2⟩ := h.step k hk hkl
    obtain ⟨h3, h4⟩ := BfsJ.fold hS l (pre ++ [k]) (bstep n st k) (by rw [← hp]; simp) h1
    exact ⟨h3, h4.trans h2⟩
theorem bfsRun_dist {S : List (List Nat)} {least to : Nat} (hS : ∀ a, ∀ k ∈ S.getD a [], k < S.length) : ∀ (m : Nat) (d : List Int) (q : List Nat), BfsI S least to d q → unass d + q.length < m → DistR S least to (bfsRun S least m d q)
  | 0, _, _, _, h => by omega
  | m + 1, d, [], hI, _ => hI.dist
  | m + 1, d, n :: q, hI, h => by
    obtain ⟨h1, h2⟩ := BfsJ.fold hS (ofP S n least) [] (d, q) rfl (BfsJ.start hI)
    refine bfsRun_dist hS m _ _ h1.fin ?_
    rw [h2]
    simp at h ⊢
    omega
theorem bfsD_dist {S : List (List Nat)} {least to : Nat} (hS : ∀ a, ∀ k ∈ S.getD a [], k < S.length) (hto : to < S.length) : DistR S least to (bfsD S least to) := by
  have hu : unass ((List.replicate S.length (-1)).set to 0) + 1 = S.length := by
    rw [unass_set _ _ _ (by simpa using hto) (by rw [gD_rep]; omega) (by omega)]
    unfold unass
    rw [List.countP_replicate]
    simp
  exact bfsRun_dist hS _ _ _ (BfsI.start hto) (by simp; omega)
theorem DistR.eq {S : List (List Nat)} {least to : Nat} {d : List Int} (h : DistR S least to d) (hS : ∀ a, ∀ k ∈ S.getD a [], k < S.length) (hto : to < S.length) : d = bfsD S least to := h.unique (bfsD_dist hS hto)

/-- an edge turned round. -/
def swapE (x : Int × Int) : Int × Int := (x.2, x.1)
theorem sucs_lt {N : Nat} {es : List (Int × Int)} : ∀ a, ∀ k ∈ (sucs N es).getD a [], k < (sucs N es).length := fun a k hk => by
  rw [sucs_length]
  by_cases ha : a < N
  · rw [sucs_getD _ _ _ ha] at hk; exact (mem_sucL.1 hk).1
  · rw [List.getD_eq_getElem?_getD, List.getElem?_eq_none (by rw [sucs_length]; omega)] at hk; simp at hk
theorem sucs_row {N : Nat} {es : List (Int × Int)} (a : Nat) : ((sucs N es).getD a []).length ≤ N := by
  by_cases ha : a < N
  · rw [sucs_getD _ _ _ ha]; exact sucL_length N es a
  · rw [List.getD_eq_getElem?_getD, List.getElem?_eq_none (by rw [sucs_length]; omega)]; simp
theorem mem_sucs {N : Nat} {es : List (Int × Int)} {a k : Nat} : k ∈ (sucs N es).getD a [] ↔ a < N ∧ k < N ∧ ((a : Int), (k : Int)) ∈ es := by
  constructor
  · intro h
    by_cases ha : a < N
    · rw [sucs_getD _ _ _ ha] at h; exact ⟨ha, mem_sucL.1 h⟩
    · rw [List.getD_eq_getElem?_getD, List.getElem?_eq_none (by rw [sucs_length]; omega)] at h; simp at h
  · rintro ⟨ha, h⟩
    rw [sucs_getD _ _ _ ha]
    exact mem_sucL.2 h
theorem mem_swap {es : List (Int × Int)} {a b : Int} : (a, b) ∈ es.map swapE ↔ (b, a) ∈ es := by
  rw [List.mem_map]
  constructor
  · rintro ⟨⟨x, y⟩, h, e⟩
    unfold swapE at e
    simp at e
    obtain ⟨rfl, rfl⟩ := e
    exact h
  · intro h; exact ⟨(b, a), h, rfl⟩
theorem validG_swap {N : Nat} {es : List (Int × Int)} (h : validG N es = true) : validG N (es.map swapE) = true := by
  have h1 := validG_n h
  unfold validG
  simp only [Bool.and_eq_true, List.all_eq_true, decide_eq_true_eq, List.length_map]
  refine ⟨h1, fun e he => ?_⟩
  obtain ⟨x, hx, rfl⟩ := List.mem_map.1 he
  have := validG_edge h hx
  unfold swapE
  simp only
  omega
/-- a node that is one further has a successor that is one nearer. -/
theorem DistR.desc {N : Nat} {es : List (Int × Int)} {least to : Nat} {d : List Int} (h : DistR (sucs N (es.map swapE)) least to d) : ∀ a (m : Nat), gD d a = (m : Int) + 1 → ∃ k ∈ (sucs N es).getD a [], gD d k = (m : Int) := fun a m ha => by
  obtain ⟨b, hb, hm⟩ := h.pred a m ha
  unfold ofP at hb
  have := (List.mem_filter.1 hb).1
  obtain ⟨h1, h2, h3⟩ := mem_sucs.1 this
  exact ⟨b, mem_sucs.2 ⟨h2, h1, mem_swap.1 h3⟩, hm⟩
/-- what breadth-first distances are bounded by. -/
theorem DistR.bound {S : List (List Nat)} {least to : Nat} {d : List Int} (h : DistR S least to d) (hS : ∀ a, ∀ k ∈ S.getD a [], k < S.length) (hto : to < S.length) : ∀ a, gD d a ≤ S.length := by
  have key : ∀ (m : Nat) (d : List Int) (q : List Nat), BfsI S least to d q → unass d + q.length < m → ∀ a, gD (bfsRun S least m d q) a ≤ S.length := by
    intro m
    induction m with
    | zero => intro _ _ _ h; omega
    | succ m ih =>
      intro d q hI hm
      cases q with
      | nil => intro a; have := hI.bound a; show gD d a ≤ S.length; omega
      | cons n q =>
        obtain ⟨h1, h2⟩ := BfsJ.fold hS (ofP S n least) [] (d, q) rfl (BfsJ.start hI)
        exact ih _ _ h1.fin (by rw [h2]; simp at hm ⊢; omega)
  rw [h.eq hS hto]
  have hu : unass ((List.replicate S.length (-1)).set to 0) + 1 = S.length := by
    rw [unass_set _ _ _ (by simpa using hto) (by rw [gD_rep]; omega) (by omega)]
    unfold unass
    rw [List.countP_replicate]
    simp
  exact key _ _ _ (BfsI.start hto) (by simp; omega)

/-- the least way down the distances. -/
def descP (S : List (List Nat)) (far : List Int) : Nat → Nat → List Nat
  | 0, n => [n]
  | m + 1, n => n :: (match (S.getD n []).find? (fun k => gD far k == (m : Int)) with | some k => descP S far m k | none => [])
/-- the shortest way from a node to another one, if there is one. -/
def pathF (N : Nat) (es : List (Int × Int)) (a b : Nat) : List Nat := let far := bfsD (sucs N (es.map swapE)) 0 b; if gD far a < 0 then [] else descP (sucs N es) far (gD far a).toNat a
end Go.Proofs.Ytlcgbkeggmaljaa

namespace Go.Proofs.Ytlcgbkeggmaljaa
set_option linter.unusedVariables false
set_option linter.unusedSimpArgs false

/-- the nearest successor so far, and its distance. -/
def cstep (far : List Int) (st : Int × Int) (k : Nat) : Int × Int := if 0 ≤ gD far k ∧ (st.1 < 0 ∨ gD far k < st.2) then ((k : Int), gD far k) else st
/-- the distances to a node over nodes that are not less. -/
def cfar (N : Nat) (es : List (Int × Int)) (first : Nat) : List Int := bfsD (sucs N (es.map swapE)) first first
/-- the best cycle so far. -/
def cycStep (N : Nat) (es : List (Int × Int)) (best : List Nat) (first : Nat) : List Nat :=
  let st := (ofP (sucs N es) first first).foldl (cstep (cfar N es first)) (-1, 0)
  if st.1 < 0 ∨ (best ≠ [] ∧ (best.length : Int) ≤ st.2 + 1) then best
  else if st.1 = (first : Int) then [first] else first :: (descP (sucs N es) (cfar N es first) (gD (cfar N es first) st.1.toNat).toNat st.1.toNat).dropLast
def cycF (N : Nat) (es : List (Int × Int)) (k : Nat) : List Nat := (List.range k).foldl (cycStep N es) []
theorem cycF_succ (N : Nat) (es : List (Int × Int)) (k : Nat) : cycF N es (k + 1) = cycStep N es (cycF N es k) k := by
  unfold cycF
  rw [List.range_succ, List.foldl_append]
  rfl
theorem descP_length (S : List (List Nat)) (far : List Int) : ∀ (m n : Nat), (descP S far m n).length ≤ m + 1
  | 0, n => by simp [descP]
  | m + 1, n => by
    unfold descP
    split
    · have := descP_length S far m ‹_›
      simp
      omega
    · simp
theorem descP_pos (S : List (List Nat)) (far : List Int) (m n : Nat) : 0 < (descP S far m n).length := by cases m <;> simp [descP]
/-- what is known of the nearest successor. -/
theorem cstep_ok {far : List Int} : ∀ (l : List Nat) (st : Int × Int), (st.1 < 0 ∨ (0 ≤ st.2 ∧ ∃ k : Nat, st.1 = (k : Int) ∧ gD far k = st.2)) →
    ((l.foldl (cstep far) st).1 < 0 ∨ (0 ≤ (l.foldl (cstep far) st).2 ∧ ∃ k : Nat, (l.foldl (cstep far) st).1 = (k : Int) ∧ gD far k = (l.foldl (cstep far) st).2))
  | [], st, h => h
  | k :: l, st, h => by
    refine cstep_ok l (cstep far st k) ?_
    unfold cstep
    split
    · rename_i hc
      exact .inr ⟨hc.1, k, rfl, rfl⟩
    · exact h
end Go.Proofs.Ytlcgbkeggmaljaa

namespace Go.Proofs.Ytlcgbkeggmaljaa
set_option linter.unusedVariables false
set_option linter.unusedSimpArgs false

/-- the state of a numbering. -/
structure TS where
  ix : List Int
  lo : List Int
  co : List Int
  st : List Nat
  nx : Nat
  ct : Nat
/-- a node is entered. -/
def tmark (s : TS) (n : Nat) : TS := ⟨s.ix.set n s.nx, s.lo.set n s.nx, s.co, s.st ++ [n], s.nx + 1, s.ct⟩
/-- a node's least number becomes less. -/
def tlow (s : TS) (n : Nat) (x : Int) : TS := { s with lo := s.lo.set n (min (gD s.lo n) x) }
/-- a successor. -/
def tstep (v : TS → Nat → TS) (n : Nat) (s : TS) (k : Nat) : TS :=
  if gD s.ix k = 0 then tlow (v s k) n (gD (v s k).lo k) else if gD s.co k < 0 then tlow s n (gD s.ix k) else s
/-- a component is taken off a stack that is turned. -/
def tpopL (ct : Int) (n : Nat) : List Nat → List Int → List Nat × List Int
  | [], co => ([], co)
  | k :: r, co => if k = n then (r, co.set k ct) else tpopL ct n r (co.set k ct)
def tpop (s : TS) (n : Nat) : TS := { s with st := (tpopL s.ct n s.st.reverse s.co).1.reverse, co := (tpopL s.ct n s.st.reverse s.co).2, ct := s.ct + 1 }
/-- a node is left. -/
def tfin (s : TS) (n : Nat) : TS := if gD s.lo n < gD s.ix n then s else tpop s n
/-- a visit. -/
def visitT (S : List (List Nat)) : Nat → TS → Nat → TS
  | 0, s, _ => s
  | f + 1, s, n => tfin ((S.getD n []).foldl (tstep (visitT S f) n) (tmark s n)) n
/-- the start. -/
def tinit (N : Nat) : TS := ⟨List.replicate N 0, List.replicate N 0, List.replicate N (-1), [], 1, 0⟩
/-- a node of the outer loop. -/
def tround (S : List (List Nat)) (s : TS) (n : Nat) : TS := if gD s.ix n = 0 then visitT S S.length s n else s
def tarjan (S : List (List Nat)) : TS := (List.range S.length).foldl (tround S) (tinit S.length)

/-- how many nodes have no number. -/
def zeros (d : List Int) : Nat := d.countP (fun x => decide (x = 0))
theorem zeros_set : ∀ (d : List Int) (k : Nat) (x : Int), k < d.length → gD d k = 0 → x ≠ 0 → zeros (d.set k x) + 1 = zeros d
  | [], k, x, h, _, _ => by simp at h
  | y :: d, 0, x, _, h, hx => by
    have hy : y = 0 := h
    unfold zeros
    rw [List.set_cons_zero, List.countP_cons, List.countP_cons]
    simp [hy, hx]
  | y :: d, k + 1, x, hk, h, hx => by
    have := zeros_set d k x (by simpa using hk) h hx
    unfold zeros at *
    rw [List.set_cons_succ, List.countP_cons, List.countP_cons]
    omega
/-- what holds between two visits. -/
structure TInv (N : Nat) (s : TS) : Prop where
  li : s.ix.length = N
  ll : s.lo.length = N
  lc : s.co.length = N
  nz : s.nx + zeros s.ix = N + 1
  sl : s.st.length < s.nx
  sk : ∀ k ∈ s.st, k < N
  ct : s.ct < s.nx
/-- what a visit leaves of what it found. -/
structure TRel (s s' : TS) : Prop where
  z : zeros s'.ix ≤ zeros s.ix
  p : ∃ zs, s'.st = s.st ++ zs
  k : s.nx + s'.ct ≤ s'.nx + s.ct
theorem TRel.refl (s : TS) : TRel s s := ⟨Nat.le_refl _, ⟨[], by simp⟩, Nat.le_refl _⟩
theorem TRel.trans {a b c : TS} (h : TRel a b) (k : TRel b c) : TRel a c := by
  refine ⟨Nat.le_trans k.z h.z, ?_, by have := h.k; have := k.k; omega⟩
  obtain ⟨x, hx⟩ := h.p
  obtain ⟨y, hy⟩ := k.p
  exact ⟨x ++ y, by rw [hy, hx, List.append_assoc]⟩
theorem TInv.mark {N : Nat} {s : TS} {n : Nat} (h : TInv N s) (hn : n < N) (h0 : gD s.ix n = 0) : TInv N (tmark s n) ∧ zeros (tmark s n).ix + 1 = zeros s.ix := by
  have hx : ((s.nx : Nat) : Int) ≠ 0 := by have := h.ct; omega
  have hz := zeros_set s.ix n s.nx (by rw [h.li]; exact hn) h0 hx
  refine ⟨⟨by simp [tmark, h.li], by simp [tmark, h.ll], h.lc, ?_, ?_, ?_, ?_⟩, hz⟩
  · have := h.nz; show s.nx + 1 + zeros (s.ix.set n s.nx) = N + 1; omega
  · have := h.sl; simp [tmark]; exact this
  · intro k hk
    rcases List.mem_append.1 hk with hk | hk
    · exact h.sk k hk
    · rw [List.mem_singleton] at hk; omega
  · have := h.ct; show s.ct < s.nx + 1; omega
theorem TInv.low {N : Nat} {s : TS} (h : TInv N s) (n : Nat) (x : Int) : TInv N (tlow s n x) := ⟨h.li, by simp [tlow, h.ll], h.lc, h.nz, h.sl, h.sk, h.ct⟩
theorem TRel.low (s : TS) (n : Nat) (x : Int) : TRel s (tlow s n x) := ⟨Nat.le_refl _, ⟨[], by simp [tlow]⟩, Nat.le_refl _⟩
theorem tpopL_spec (ct : Int) (n : Nat) : ∀ (r : List Nat) (co : List Int), (tpopL ct n r co).2.length = co.length ∧ (tpopL ct n r co).1.length ≤ r.length ∧ ∃ zs, r = zs ++ (tpopL ct n r co).1
  | [], co => ⟨rfl, Nat.le_refl _, [], rfl⟩
  | k :: r, co => by
    unfold tpopL
    split
    · exact ⟨by simp, by simp, [k], rfl⟩
    · obtain ⟨h1, h2, zs, h3⟩ := tpopL_spec ct n r (co.set k ct)
      exact ⟨by simpa using h1, by simp; omega, k :: zs, by rw [List.cons_append, ← h3]⟩
/-- a stack on which the node lies is taken down to below it. -/
theorem tpopL_above (ct : Int) (n : Nat) : ∀ (zs r : List Nat) (co : List Int), n ∈ zs → ∃ ys, (tpopL ct n (zs ++ r) co).1 = ys ++ r
  | [], r, co, h => by simp at h
  | k :: zs, r, co, h => by
    show ∃ ys, (if k = n then (zs ++ r, co.set k ct) else tpopL ct n (zs ++ r) (co.set k ct)).1 = ys ++ r
    by_cases e : k = n
    · rw [if_pos e]; exact ⟨zs, rfl⟩
    · rw [if_neg e]
      exact tpopL_above ct n zs r _ (by rcases List.mem_cons.1 h with h | h; exact absurd h.symm e; exact h)
theorem TInv.pop {N : Nat} {s : TS} (h : TInv N s) (n : Nat) (hc : s.ct + 1 < s.nx) : TInv N (tpop s n) := by
  obtain ⟨h1, h2, zs, h3⟩ := tpopL_spec s.ct n s.st.reverse s.co
  refine ⟨h.li, h.ll, by show (tpopL s.ct n s.st.reverse s.co).2.length = N; rw [h1, h.lc], h.nz, ?_, ?_, hc⟩
  · have := h.sl
    show (tpopL s.ct n s.st.reverse s.co).1.reverse.length < s.nx
    rw [List.length_reverse] at *
    omega
  · intro k hk
    have hk2 : k ∈ (tpopL s.ct n s.st.reverse s.co).1 := List.mem_reverse.1 hk
    refine h.sk k (List.mem_reverse.1 ?_)
    rw [h3]
    exact List.mem_append_right _ hk2
/-- the successors of a node, one after the other. -/
theorem tfold_ok {N f n : Nat} {v : TS → Nat → TS} (hv : ∀ s k, zeros s.ix ≤ f → TInv N s → k < N → gD s.ix k = 0 → TInv N (v s k) ∧ TRel s (v s k)) :
    ∀ (l : List Nat) (s : TS), (∀ k ∈ l, k < N) → zeros s.ix ≤ f → TInv N s → TInv N (l.foldl (tstep v n) s) ∧ TRel s (l.foldl (tstep v n) s)
  | [], s, _, _, h => ⟨h, TRel.refl _⟩
  | k :: l, s, hl, hz, h => by
    have h1 : TInv N (tstep v n s k) ∧ TRel s (tstep v n s k) := by
      unfold tstep
      split
      · obtain ⟨h1, h2⟩ := hv s k hz h (hl k (by simp)) ‹_›
        exact ⟨h1.low _ _, h2.trans (TRel.low _ _ _)⟩
      · split
        · exact ⟨h.low _ _, TRel.low _ _ _⟩
        · exact ⟨h, TRel.refl _⟩
    obtain ⟨h2, h3⟩ := tfold_ok (n := n) hv l (tstep v n s k) (fun j hj => hl j (by simp [hj])) (Nat.le_trans h1.2.z hz) h1.1
    exact ⟨h2, h1.2.trans h3⟩
theorem visitT_ok {S : List (List Nat)} (hS : ∀ a, ∀ k ∈ S.getD a [], k < S.length) : ∀ (f : Nat) (s : TS) (n : Nat), zeros s.ix ≤ f → TInv S.length s → n < S.length → gD s.ix n = 0 → TInv S.length (visitT S f s n) ∧ TRel s (visitT S f s n)
  | 0, s, n, hz, h, hn, h0 => by
    have := zeros_set s.ix n 1 (by rw [h.li]; exact hn) h0 (by decide)
    omega
  | f + 1, s, n, hz, h, hn, h0 => by
    obtain ⟨m1, m2⟩ := h.mark hn h0
    obtain ⟨f1, f2⟩ := tfold_ok (n := n) (fun s k a b c d => visitT_ok hS f s k a b c d) (S.getD n []) (tmark s n) (hS n) (by omega) m1
    unfold visitT
    generalize (S.getD n []).foldl (tstep (visitT S f) n) (tmark s n) = t at *
    obtain ⟨zs, hzs⟩ := f2.p
    have hk := f2.k
    have e1 : (tmark s n).nx = s.nx + 1 := rfl
    have e2 : (tmark s n).ct = s.ct := rfl
    have e3 : (tmark s n).st = s.st ++ [n] := rfl
    have hz2 := f2.z
    have hct := h.ct
    unfold tfin
    split
    · exact ⟨f1, by omega, ⟨[n] ++ zs, by rw [hzs, e3, List.append_assoc]⟩, by omega⟩
    · refine ⟨f1.pop n (by omega), by show zeros t.ix ≤ _; omega, ?_, by show s.nx + (t.ct + 1) ≤ t.nx + s.ct; omega⟩
      obtain ⟨ys, hys⟩ := tpopL_above t.ct n (zs.reverse ++ [n]) s.st.reverse t.co (by simp)
      refine ⟨ys.reverse, ?_⟩
      show (tpopL t.ct n t.st.reverse t.co).1.reverse = _
      have : t.st.reverse = zs.reverse ++ [n] ++ s.st.reverse := by rw [hzs, e3]; simp
      rw [this, hys]
      simp
theorem tinit_ok (N : Nat) : TInv N (tinit N) := by
  refine ⟨by simp [tinit], by simp [tinit], by simp [tinit], ?_, by simp [tinit], by simp [tinit], by simp [tinit]⟩
  have : zeros (List.replicate N 0) = N := by
    unfold zeros
    rw [List.countP_replicate]
    simp
  show 1 + zeros (List.replicate N 0) = N + 1
  omega
theorem zeros_le (d : List Int) : zeros d ≤ d.length := List.countP_le_length
theorem tround_ok {S : List (List Nat)} (hS : ∀ a, ∀ k ∈ S.getD a [], k < S.length) (s : TS) (n : Nat) (hn : n < S.length) (h : TInv S.length s) : TInv S.length (tround S s n) := by
  unfold tround
  split
  · exact (visitT_ok hS S.length s n (by have := zeros_le s.ix; rw [h.li] at this; exact this) h hn ‹_›).1
  · exact h
/-- the outer loop's first rounds. -/
def trun (S : List (List Nat)) (k : Nat) : TS := (List.range k).foldl (tround S) (tinit S.length)
theorem trun_succ (S : List (List Nat)) (k : Nat) : trun S (k + 1) = tround S (trun S k) k := by
  unfold trun
  rw [List.range_succ, List.foldl_append]
  rfl
theorem tarj_inv {S : List (List Nat)} (hS : ∀ a, ∀ k ∈ S.getD a [], k < S.length) : ∀ k, k ≤ S.length → TInv S.length (trun S k)
  | 0, _ => tinit_ok _
  | k + 1, h => by
    rw [trun_succ]
    exact tround_ok hS _ k (by omega) (tarj_inv hS k (by omega))
end Go.Proofs.Ytlcgbkeggmaljaa

namespace Go.Proofs.Ytlcgbkeggmaljaa
set_option linter.unusedVariables false
set_option linter.unusedSimpArgs false

abbrev bD (d : List Bool) (a : Nat) : Bool := d.getD a false
/-- a row whose nodes are all done. -/
def lrdy (S : List (List Nat)) (done : List Bool) (k : Nat) : Bool := !bD done k && !((S.getD k []).any fun j => !bD done j)
/-- the first node that is ready; 0 if there is none. -/
def lpick (S : List (List Nat)) (done : List Bool) : Nat := ((List.range S.length).find? (lrdy S done)).getD 0
def lstep (S : List (List Nat)) (st : List Bool × List Nat) : List Bool × List Nat := (st.1.set (lpick S st.1) true, st.2 ++ [lpick S st.1])
def lrun (S : List (List Nat)) : Nat → List Bool × List Nat
  | 0 => (List.replicate S.length false, [])
  | k + 1 => lstep S (lrun S k)
def listF (S : List (List Nat)) : List Nat := (lrun S S.length).2
theorem lrun_len (S : List (List Nat)) : ∀ k, (lrun S k).1.length = S.length ∧ (lrun S k).2.length = k
  | 0 => by simp [lrun]
  | k + 1 => by
    obtain ⟨h1, h2⟩ := lrun_len S k
    unfold lrun lstep
    simp [h1, h2]
theorem lpick_lt (S : List (List Nat)) (done : List Bool) (h : 0 < S.length) : lpick S done < S.length := by
  unfold lpick
  cases e : (List.range S.length).find? (lrdy S done) with
  | none => exact h
  | some x => exact List.mem_range.1 (List.mem_of_find?_eq_some e)
theorem lrun_lt (S : List (List Nat)) : ∀ k, k ≤ S.length → ∀ x ∈ (lrun S k).2, x < S.length
  | 0, _, x, hx => by simp [lrun] at hx
  | k + 1, hk, x, hx => by
    unfold lrun lstep at hx
    simp only [List.mem_append, List.mem_singleton] at hx
    rcases hx with hx | rfl
    · exact lrun_lt S k (by omega) x hx
    · exact lpick_lt S _ (by omega)
theorem listF_length (S : List (List Nat)) : (listF S).length = S.length := (lrun_len S _).2
theorem listF_lt (S : List (List Nat)) : ∀ x ∈ listF S, x < S.length := lrun_lt S _ (Nat.le_refl _)
/-- none of the first k is ready. -/
def NoneRdy (S : List (List Nat)) (done : List Bool) (k : Nat) : Prop := ∀ j, j < k → lrdy S done j = false
theorem lpick_at {S : List (List Nat)} {done : List Bool} {k : Nat} (hk : k < S.length) (hn : NoneRdy S done k) (hr : lrdy S done k = true) : lpick S done = k := by
  unfold lpick
  have : (List.range S.length).find? (lrdy S done) = some k := by
    rw [List.find?_eq_some_iff_append]
    refine ⟨hr, List.range k, (List.range (S.length - k - 1)).map (· + (k + 1)), ?_, fun a ha => ?_⟩
    · have e : S.length = k + (1 + (S.length - k - 1)) := by omega
      rw [e, List.range_add, List.range_add]
      have e2 : k + (1 + (S.length - k - 1)) - k - 1 = S.length - k - 1 := by omega
      simp [List.range_succ, Function.comp_def, Nat.add_comm, Nat.add_left_comm]
    · rw [hn a (List.mem_range.1 ha)]; rfl
  rw [this]; rfl
theorem lpick_none {S : List (List Nat)} {done : List Bool} (hn : NoneRdy S done S.length) : lpick S done = 0 := by
  unfold lpick
  have : (List.range S.length).find? (lrdy S done) = none := by
    rw [List.find?_eq_none]
    intro x hx
    rw [hn x (List.mem_range.1 hx)]; simp
  rw [this]; rfl
end Go.Proofs.Ytlcgbkeggmaljaa

namespace Go.Proofs.Ytlcgbkeggmaljaa
set_option linter.unusedVariables false
set_option linter.unusedSimpArgs false

/-- a component is given a place. -/
def cput (st : List Int × List (List Nat)) (c : Nat) : List Int × List (List Nat) := if gD st.1 c < 0 then (st.1.set c (st.2.length : Int), st.2 ++ [[]]) else st
/-- a node is put into it. -/
def crow (st : List Int × List (List Nat)) (c n : Nat) : List Int × List (List Nat) := (st.1, st.2.set (gD st.1 c).toNat (st.2.getD (gD st.1 c).toNat [] ++ [n]))
def cstepN (co : List Int) (st : List Int × List (List Nat)) (n : Nat) : List Int × List (List Nat) := crow (cput st (gD co n).toNat) (gD co n).toNat n
def crun (co : List Int) (ct k : Nat) : List Int × List (List Nat) := (List.range k).foldl (cstepN co) (List.replicate ct (-1), [])
theorem crun_succ (co : List Int) (ct k : Nat) : crun co ct (k + 1) = cstepN co (crun co ct k) k := by
  unfold crun
  rw [List.range_succ, List.foldl_append]
  rfl
/-- what holds behind k nodes. -/
structure CInv (co : List Int) (ct k : Nat) (st : List Int × List (List Nat)) : Prop where
  len : st.1.length = ct
  lo : ∀ c, -1 ≤ gD st.1 c
  hi : ∀ c, gD st.1 c < (st.2.length : Int)
  few : st.2.length ≤ k
  row : ∀ i, (st.2.getD i []).length ≤ k
  old : ∀ n, n < k → 0 ≤ gD st.1 (gD co n).toNat
theorem gD_set' (d : List Int) (k : Nat) (x : Int) (a : Nat) : gD (d.set k x) a = if a = k ∧ k < d.length then x else gD d a := by
  by_cases hk : k < d.length
  · rw [gD_set d k x a hk]
    by_cases e : a = k
    · rw [if_pos e, if_pos ⟨e, hk⟩]
    · rw [if_neg e, if_neg (fun h => e h.1)]
  · rw [if_neg (fun h => hk h.2), List.set_eq_of_length_le (by omega)]
theorem getD_set_row (L : List (List Nat)) (i j : Nat) (r : List Nat) : (L.set i r).getD j [] = if j = i ∧ i < L.length then r else L.getD j [] := by
  rw [List.getD_eq_getElem?_getD, List.getD_eq_getElem?_getD, List.getElem?_set]
  by_cases e : i = j
  · subst e
    by_cases h : i < L.length
    · simp [h]
    · simp [h]
  · rw [if_neg e, if_neg (fun h => e h.1.symm)]
theorem CInv.put {co : List Int} {ct k : Nat} {st : List Int × List (List Nat)} (h : CInv co ct k st) (c : Nat) (hc : c < ct) : (cput st c).1.length = ct ∧ (∀ a, -1 ≤ gD (cput st c).1 a) ∧ (∀ a, gD (cput st c).1 a < ((cput st c).2.length : Int)) ∧ (cput st c).2.length ≤ k + 1 ∧ (∀ i, ((cput st c).2.getD i []).length ≤ k) ∧ 0 ≤ gD (cput st c).1 c ∧ ∀ n, n < k → 0 ≤ gD (cput st c).1 (gD co n).toNat := by
  unfold cput
  by_cases hlt : gD st.1 c < 0
  · rw [if_pos hlt]
    refine ⟨by simp [h.len], fun a => ?_, fun a => ?_, by simp; exact h.few, fun i => ?_, ?_, fun n hn => ?_⟩
    · show -1 ≤ gD (st.1.set c _) a
      rw [gD_set']; split
      · omega
      · exact h.lo a
    · show gD (st.1.set c _) a < ((st.2 ++ [[]]).length : Int)
      have := h.hi a
      rw [gD_set', List.length_append, List.length_singleton]; split <;> omega
    · show ((st.2 ++ [[]]).getD i []).length ≤ k
      rw [List.getD_eq_getElem?_getD, List.getElem?_append]
      split
      · have := h.row i
        rwa [List.getD_eq_getElem?_getD] at this
      · cases e : [([] : List Nat)][i - st.2.length]? with
        | none => simp
        | some r => have := List.mem_of_getElem? e; simp at this; simp [this]
    · show 0 ≤ gD (st.1.set c _) c
      rw [gD_set', if_pos ⟨rfl, by rw [h.len]; exact hc⟩]; omega
    · show 0 ≤ gD (st.1.set c _) _
      have := h.old n hn
      rw [gD_set']; split <;> omega
  · rw [if_neg hlt]
    exact ⟨h.len, h.lo, h.hi, by have := h.few; omega, h.row, by omega, h.old⟩
theorem CInv.step {co : List Int} {ct k : Nat} {st : List Int × List (List Nat)} (h : CInv co ct k st) (hc0 : 0 ≤ gD co k) (hc : gD co k < (ct : Int)) : CInv co ct (k + 1) (cstepN co st k) := by
  obtain ⟨h1, h2, h3, h4, h5, h6, h7⟩ := h.put (gD co k).toNat (by omega)
  unfold cstepN
  generalize cput st (gD co k).toNat = s1 at *
  refine ⟨h1, h2, fun a => ?_, by show (List.set _ _ _).length ≤ k + 1; rw [List.length_set]; exact h4, fun i => ?_, fun n hn => ?_⟩
  · show gD s1.1 a < ((List.set s1.2 _ _).length : Int)
    rw [List.length_set]; exact h3 a
  · show ((List.set s1.2 _ _).getD i []).length ≤ k + 1
    rw [getD_set_row]
    split
    · rw [List.length_append, List.length_singleton]
      have := h5 (gD s1.1 (gD co k).toNat).toNat
      omega
    · have := h5 i; omega
  · show 0 ≤ gD s1.1 _
    by_cases e : n = k
    · subst e; exact h6
    · exact h7 n (by omega)
theorem crun_inv {co : List Int} {ct N : Nat} (hco : ∀ n, n < N → 0 ≤ gD co n ∧ gD co n < (ct : Int)) : ∀ k, k ≤ N → CInv co ct k (crun co ct k)
  | 0, _ => by
    have hg : ∀ c, gD (List.replicate ct (-1 : Int)) c = -1 := fun c => by
      unfold gD
      rw [List.getD_eq_getElem?_getD, List.getElem?_replicate]
      split <;> rfl
    refine ⟨by simp [crun], fun c => by show -1 ≤ gD (List.replicate ct (-1)) c; rw [hg]; omega, fun c => by show gD (List.replicate ct (-1)) c < _; rw [hg]; simp [crun], by simp [crun], fun i => by simp [crun], fun n hn => by omega⟩
  | k + 1, h => by
    rw [crun_succ]
    exact (crun_inv hco k (by omega)).step (hco k (by omega)).1 (hco k (by omega)).2

/-- an edge between components. -/
def cedge (co pl : List Int) (n : Nat) (out : List (List Nat)) (k : Nat) : List (List Nat) :=
  if gD co k = gD co n then out else out.set (gD pl (gD co n).toNat).toNat (out.getD (gD pl (gD co n).toNat).toNat [] ++ [(gD pl (gD co k).toNat).toNat])
def couts (co pl : List Int) (S : List (List Nat)) (M k : Nat) : List (List Nat) := (List.range k).foldl (fun out n => (S.getD n []).foldl (cedge co pl n) out) (List.replicate M [])
theorem couts_succ (co pl : List Int) (S : List (List Nat)) (M k : Nat) : couts co pl S M (k + 1) = (S.getD k []).foldl (cedge co pl k) (couts co pl S M k) := by
  unfold couts
  rw [List.range_succ, List.foldl_append]
  rfl
theorem cedge_len {co pl : List Int} {n : Nat} {m : Nat} {out : List (List Nat)} (h : ∀ i, (out.getD i []).length ≤ m) (k : Nat) : (cedge co pl n out k).length = out.length ∧ ∀ i, ((cedge co pl n out k).getD i []).length ≤ m + 1 := by
  unfold cedge
  split
  · exact ⟨rfl, fun i => by have := h i; omega⟩
  · refine ⟨by simp, fun i => ?_⟩
    rw [getD_set_row]
    split
    · rw [List.length_append, List.length_singleton]; have := h (gD pl (gD co n).toNat).toNat; omega
    · have := h i; omega
theorem cedges_len {co pl : List Int} {n : Nat} : ∀ (l : List Nat) {m : Nat} {out : List (List Nat)}, (∀ i, (out.getD i []).length ≤ m) → (l.foldl (cedge co pl n) out).length = out.length ∧ ∀ i, ((l.foldl (cedge co pl n) out).getD i []).length ≤ m + l.length
  | [], m, out, h => ⟨rfl, h⟩
  | k :: l, m, out, h => by
    obtain ⟨h1, h2⟩ := cedge_len (co := co) (pl := pl) (n := n) h k
    obtain ⟨h3, h4⟩ := cedges_len (co := co) (pl := pl) (n := n) l h2
    exact ⟨h3.trans h1, fun i => by have := h4 i; simp only [List.length_cons, List.foldl_cons] at *; omega⟩
theorem couts_len {co pl : List Int} {S : List (List Nat)} {M R : Nat} (hS : ∀ a, (S.getD a []).length ≤ R) : ∀ k, (couts co pl S M k).length = M ∧ ∀ i, ((couts co pl S M k).getD i []).length ≤ k * R
  | 0 => by
    refine ⟨by simp [couts], fun i => ?_⟩
    show ((List.replicate M []).getD i []).length ≤ _
    rw [List.getD_eq_getElem?_getD, List.getElem?_replicate]
    split <;> simp
  | k + 1 => by
    obtain ⟨h1, h2⟩ := couts_len (co := co) (pl := pl) (M := M) hS k
    obtain ⟨h3, h4⟩ := cedges_len (co := co) (pl := pl) (n := k) (S.getD k []) h2
    rw [couts_succ]
    refine ⟨h3.trans h1, fun i => ?_⟩
    have := h4 i
    have := hS k
    rw [Nat.add_mul]
    omega
end Go.Proofs.Ytlcgbkeggmaljaa
