/- Graphs, plain: breadth-first distances. Graphs, plain: distances computed; the least shortest way; a reversed graph's successors. A selection that is needed whole: all its nodes are reached. Solving, plain: what is needed, one path after another. -/
import Derived.Test.YtenfkejbndifdaaGreatDoorQG
namespace Go.Proofs.YtenfkejbndifdaaGreatDoor
set_option linter.unusedVariables false
set_option linter.unusedSimpArgs false

/-- what a range over of yields. -/
def ofP (S : List (List Nat)) (node least : Nat) : List Nat := (S.getD node []).filter (fun k => decide (least ≤ k))
/-- a node's distance. -/
abbrev gD (d : List Int) (a : Nat) : Int := d.getD a (-1)
/-- distances to a node: 0 there, and one more than at a node to which an edge leads. -/
structure DistR (S : List (List Nat)) (least tgt : Nat) (d : List Int) : Prop where
  len : d.length = S.length
  lo : ∀ a, -1 ≤ gD d a
  t0 : gD d tgt = 0
  zero : ∀ a, gD d a = 0 → a = tgt
  pred : ∀ (a m : Nat), gD d a = (m : Int) + 1 → ∃ b, a ∈ ofP S b least ∧ gD d b = m
  near : ∀ b, 0 ≤ gD d b → ∀ a ∈ ofP S b least, 0 ≤ gD d a ∧ gD d a ≤ gD d b + 1

theorem DistR.le {S : List (List Nat)} {least tgt : Nat} {d e : List Int} (hd : DistR S least tgt d) (he : DistR S least tgt e) : ∀ (m a : Nat), gD d a = (m : Int) → 0 ≤ gD e a ∧ gD e a ≤ m
  | 0, a, h => by
    have : a = tgt := hd.zero a (by simpa using h)
    subst this
    rw [he.t0]; simp
  | m + 1, a, h => by
    obtain ⟨b, hb, hm⟩ := hd.pred a m (by rw [h]; simp)
    obtain ⟨h1, h2⟩ := DistR.le hd he m b hm
    obtain ⟨h3, h4⟩ := he.near b h1 a hb
    refine ⟨h3, ?_⟩
    have : ((m + 1 : Nat) : Int) = (m : Int) + 1 := by simp
    omega
theorem DistR.unique {S : List (List Nat)} {least tgt : Nat} {d e : List Int} (hd : DistR S least tgt d) (he : DistR S least tgt e) : d = e := by
  have hl : d.length = e.length := hd.len.trans he.len.symm
  refine List.ext_getElem hl fun i h1 h2 => ?_
  have e1 : gD d i = d[i] := by unfold gD; rw [List.getD_eq_getElem?_getD, List.getElem?_eq_getElem h1]; rfl
  have e2 : gD e i = e[i] := by unfold gD; rw [List.getD_eq_getElem?_getD, List.getElem?_eq_getElem h2]; rfl
  rw [← e1, ← e2]
  have a1 := hd.lo i
  have a2 := he.lo i
  by_cases h : 0 ≤ gD d i
  · have b1 := hd.le he (gD d i).toNat i (by omega)
    have b2 := he.le hd (gD e i).toNat i (by omega)
    omega
  · by_cases h' : 0 ≤ gD e i
    · have b2 := he.le hd (gD e i).toNat i (by omega)
      omega
    · omega

/-- one more node of a breadth-first search. -/
def bstep (n : Nat) (st : List Int × List Nat) (k : Nat) : List Int × List Nat := if gD st.1 k < 0 then (st.1.set k (gD st.1 n + 1), st.2 ++ [k]) else st
/-- how many nodes have no distance. -/
def unass (d : List Int) : Nat := d.countP (fun x => decide (x < 0))
theorem unass_set : ∀ (d : List Int) (k : Nat) (x : Int), k < d.length → gD d k < 0 → 0 ≤ x → unass (d.set k x) + 1 = unass d
  | [], k, x, h, _, _ => by simp at h
  | y :: d, 0, x, _, h, hx => by
    have hy : y < 0 := h
    unfold unass
    rw [List.set_cons_zero, List.countP_cons, List.countP_cons]
    simp [hy, show ¬ x < 0 by omega]
  | y :: d, k + 1, x, hk, h, hx => by
    have := unass_set d k x (by simpa using hk) h hx
    unfold unass at *
    rw [List.set_cons_succ, List.countP_cons, List.countP_cons]
    omega
theorem gD_set (d : List Int) (k : Nat) (x : Int) (a : Nat) (hk : k < d.length) : gD (d.set k x) a = if a = k then x else gD d a := by
  unfold gD
  rw [List.getD_eq_getElem?_getD, List.getD_eq_getElem?_getD]
  by_cases h : a = k
  · subst h; rw [if_pos rfl, List.getElem?_set_self hk]; rfl
  · rw [if_neg h, List.getElem?_set_ne (Ne.symm h)]
theorem gD_lt {d : List Int} {a : Nat} (h : 0 ≤ gD d a) : a < d.length := by
  unfold gD at h
  rw [List.getD_eq_getElem?_getD] at h
  cases e : d[a]? with
  | none => rw [e] at h; simp at h
  | some x => exact (List.getElem?_eq_some_iff.1 e).1

/-- what is known between two nodes of the queue. -/
structure BfsI (S : List (List Nat)) (least tgt : Nat) (d : List Int) (q : List Nat) : Prop where
  len : d.length = S.length
  lo : ∀ a, -1 ≤ gD d a
  t0 : gD d tgt = 0
  zero : ∀ a, gD d a = 0 → a = tgt
  pred : ∀ (a m : Nat), gD d a = (m : Int) + 1 → ∃ b, a ∈ ofP S b least ∧ gD d b = m
  bound : ∀ a, gD d a + unass d < S.length
  qok : ∀ k ∈ q, 0 ≤ gD d k
  mono : q.Pairwise fun x y => gD d x ≤ gD d y
  near : ∀ a h, q.head? = some h → gD d a ≤ gD d h + 1
  done : ∀ b, 0 ≤ gD d b → b ∉ q → ∀ a ∈ ofP S b least, 0 ≤ gD d a ∧ gD d a ≤ gD d b + 1
/-- what is known while a node's row is looked at. -/
structure BfsJ (S : List (List Nat)) (least tgt n : Nat) (pre : List Nat) (d : List Int) (q : List Nat) : Prop where
  len : d.length = S.length
  lo : ∀ a, -1 ≤ gD d a
  t0 : gD d tgt = 0
  zero : ∀ a, gD d a = 0 → a = tgt
  pred : ∀ (a m : Nat), gD d a = (m : Int) + 1 → ∃ b, a ∈ ofP S b least ∧ gD d b = m
  bound : ∀ a, gD d a + unass d < S.length
  n0 : 0 ≤ gD d n
  qok : ∀ k ∈ q, gD d n ≤ gD d k
  mono : q.Pairwise fun x y => gD d x ≤ gD d y
  near : ∀ a, gD d a ≤ gD d n + 1
  done : ∀ b, 0 ≤ gD d b → b ∉ q → b ≠ n → ∀ a ∈ ofP S b least, 0 ≤ gD d a ∧ gD d a ≤ gD d b + 1
  row : ∀ a ∈ pre, 0 ≤ gD d a ∧ gD d a ≤ gD d n + 1

theorem BfsJ.start {S : List (List Nat)} {least tgt n : Nat} {d : List Int} {q : List Nat} (h : BfsI S least tgt d (n :: q)) : BfsJ S least tgt n [] d q := by
  have hm := List.pairwise_cons.1 h.mono
  exact ⟨h.len, h.lo, h.t0, h.zero, h.pred, h.bound, h.qok n (by simp), hm.1, hm.2, fun a => h.near a n rfl, fun b hb hq hn => h.done b hb (by simp [hn, hq]), by simp⟩
theorem BfsJ.step {S : List (List Nat)} {least tgt n : Nat} {pre : List Nat} {st : List Int × List Nat} (h : BfsJ S least tgt n pre st.1 st.2) (k : Nat) (hk : k ∈ ofP S n least) (hkl : k < S.length) :
    BfsJ S least tgt n (pre ++ [k]) (bstep n st k).1 (bstep n st k).2 ∧ unass (bstep n st k).1 + (bstep n st k).2.length = unass st.1 + st.2.length := by
  obtain ⟨d, q⟩ := st
  simp only at h
  unfold bstep
  by_cases hneg : gD d k < 0
  · simp only [hneg, if_true]
    have hkd : k < d.length := by rw [h.len]; exact hkl
    have hn0 := h.n0
    have hu := unass_set d k (gD d n + 1) hkd hneg (by omega)
    have hkn : n ≠ k := fun e => by subst e; omega
    have hnn : gD (d.set k (gD d n + 1)) n = gD d n := by rw [gD_set _ _ _ _ hkd, if_neg hkn]
    have hg : ∀ a, gD (d.set k (gD d n + 1)) a = if a = k then gD d n + 1 else gD d a := fun a => gD_set _ _ _ _ hkd
    refine ⟨⟨by rw [List.length_set]; exact h.len, fun a => ?_, ?_, fun a ha => ?_, fun a m ha => ?_, fun a => ?_, by rw [hnn]; exact hn0, fun j hj => ?_, ?_, fun a => ?_, fun b hb hq hbn a ha => ?_, fun a ha => ?_⟩, ?_⟩
    · rw [hg]; split
      · omega
      · exact h.lo a
    · rw [hg]; split
      · rename_i e; subst e; have := h.t0; omega
      · exact h.t0
    · rw [hg] at ha; split at ha
      · omega
      · exact h.zero a ha
    · rw [hg] at ha; split at ha
      · rename_i e
        subst e
        exact ⟨n, hk, by rw [hnn]; omega⟩
      · obtain ⟨b, hb, hm⟩ := h.pred a m ha
        refine ⟨b, hb, ?_⟩
        rw [hg, if_neg (fun e => by subst e; omega)]
        exact hm
    · rw [hg]
      have b1 := h.bound n
      have b2 := h.bound a
      split <;> omega
    · rw [hnn, hg]
      split
      · omega
      · rename_i e
        rcases List.mem_append.1 hj with hj | hj
        · exact h.qok j hj
        · rw [List.mem_singleton] at hj; exact absurd hj e
    · rw [List.pairwise_append]
      refine ⟨h.mono.imp_of_mem fun {x y} hx hy hxy => ?_, by simp, fun x hx y hy => ?_⟩
      · have e1 : x ≠ k := fun e => by subst e; have := h.qok x hx; omega
        have e2 : y ≠ k := fun e => by subst e; have := h.qok y hy; omega
        rw [hg, hg, if_neg e1, if_neg e2]
        exact hxy
      · rw [List.mem_singleton] at hy
        subst hy
        have e1 : x ≠ y := fun e => by subst e; have := h.qok x hx; omega
        rw [hg, hg, if_neg e1, if_pos rfl]
        exact h.near x
    · rw [hnn, hg]
      split
      · omega
      · exact h.near a
    · have hbk : b ≠ k := fun e => hq (by simp [e])
      rw [hg, if_neg hbk] at hb
      obtain ⟨h1, h2⟩ := h.done b hb (fun e => hq (by simp [e])) hbn a ha
      have hak : a ≠ k := fun e => by subst e; omega
      rw [hg, hg, if_neg hak, if_neg hbk]
      exact ⟨h1, h2⟩
    · rw [hnn, hg]
      split
      · omega
      · rename_i e
        rcases List.mem_append.1 ha with ha | ha
        · exact h.row a ha
        · rw [List.mem_singleton] at ha; exact absurd ha e
    · rw [List.length_append, List.length_singleton]; omega
  · simp only [hneg, if_false]
    refine ⟨⟨h.len, h.lo, h.t0, h.zero, h.pred, h.bound, h.n0, h.qok, h.mono, h.near, h.done, fun a ha => ?_⟩, trivial⟩
    rcases List.mem_append.1 ha with ha | ha
    · exact h.row a ha
    · rw [List.mem_singleton] at ha
      subst ha
      exact ⟨by omega, h.near a⟩
theorem BfsJ.fin {S : List (List Nat)} {least tgt n : Nat} {d : List Int} {q : List Nat} (h : BfsJ S least tgt n (ofP S n least) d q) : BfsI S least tgt d q := by
  refine ⟨h.len, h.lo, h.t0, h.zero, h.pred, h.bound, fun k hk => by have := h.qok k hk; have := h.n0; omega, h.mono, fun a x hx => ?_, fun b hb hq a ha => ?_⟩
  · have h1 := h.near a
    have h2 := h.qok x (List.mem_of_mem_head? hx)
    omega
  · by_cases e : b = n
    · subst e; exact h.row a ha
    · exact h.done b hb hq e a ha
theorem BfsI.dist {S : List (List Nat)} {least tgt : Nat} {d : List Int} (h : BfsI S least tgt d []) : DistR S least tgt d :=
  ⟨h.len, h.lo, h.t0, h.zero, h.pred, fun b hb => h.done b hb (by simp)⟩
theorem gD_rep (N a : Nat) : gD (List.replicate N (-1)) a = -1 := by
  unfold gD
  rw [List.getD_eq_getElem?_getD, List.getElem?_replicate]
  split <;> rfl
theorem BfsI.start {S : List (List Nat)} {least tgt : Nat} (hto : tgt < S.length) : BfsI S least tgt ((List.replicate S.length (-1)).set tgt 0) [tgt] := by
  have hl : tgt < (List.replicate S.length (-1 : Int)).length := by simpa using hto
  have hg : ∀ a, gD ((List.replicate S.length (-1)).set tgt 0) a = if a = tgt then 0 else -1 := fun a => by rw [gD_set _ _ _ _ hl, gD_rep]
  have hu : unass ((List.replicate S.length (-1)).set tgt 0) + 1 = S.length := by
    rw [unass_set _ _ _ hl (by rw [gD_rep]; omega) (by omega)]
    unfold unass
    rw [List.countP_replicate]
    simp
  refine ⟨by simp, fun a => ?_, ?_, fun a ha => ?_, fun a m ha => ?_, fun a => ?_, fun k hk => ?_, by simp, fun a h hh => ?_, fun b hb hq a ha => ?_⟩
  · rw [hg]; split <;> omega
  · rw [hg, if_pos rfl]
  · rw [hg] at ha; split at ha
    · assumption
    · omega
  · rw [hg] at ha; split at ha <;> omega
  · rw [hg]; split <;> omega
  · rw [List.mem_singleton] at hk; subst hk; rw [hg, if_pos rfl]; omega
  · simp at hh; subst hh; rw [hg, hg, if_pos rfl]; split <;> omega
  · rw [hg] at hb; split at hb
    · rename_i e; exact absurd (by simp [e]) hq
    · omega
end Go.Proofs.YtenfkejbndifdaaGreatDoor

namespace Go.Proofs.YtenfkejbndifdaaGreatDoor
set_option linter.unusedVariables false
set_option linter.unusedSimpArgs false

/-- a breadth-first search, by a count of rounds. -/
def bfsRun (S : List (List Nat)) (least : Nat) : Nat → List Int → List Nat → List Int
  | 0, d, _ => d
  | _ + 1, d, [] => d
  | m + 1, d, n :: q => let st := (ofP S n least).foldl (bstep n) (d, q); bfsRun S least m st.1 st.2
/-- the distances to a node. -/
def bfsD (S : List (List Nat)) (least tgt : Nat) : List Int := bfsRun S least (S.length + 1) ((List.replicate S.length (-1)).set tgt 0) [tgt]

theorem BfsJ.fold {S : List (List Nat)} {least tgt n : Nat} (hS : ∀ a, ∀ k ∈ S.getD a [], k < S.length) : ∀ (l : List Nat) (pre : List Nat) (st : List Int × List Nat), pre ++ l = ofP S n least → BfsJ S least tgt n pre st.1 st.2 →
    BfsJ S least tgt n (ofP S n least) (l.foldl (bstep n) st).1 (l.foldl (bstep n) st).2 ∧ unass (l.foldl (bstep n) st).1 + (l.foldl (bstep n) st).2.length = unass st.1 + st.2.length
  | [], pre, st, hp, h => by rw [List.append_nil] at hp; subst hp; exact ⟨h, rfl⟩
  | k :: l, pre, st, hp, h => by
    have hk : k ∈ ofP S n least := by rw [← hp]; simp
    have hkl : k < S.length := by unfold ofP at hk; exact hS n k (List.mem_filter.1 hk).1
    obtain ⟨h1, h2⟩ := h.step k hk hkl
    obtain ⟨h3, h4⟩ := BfsJ.fold hS l (pre ++ [k]) (bstep n st k) (by rw [← hp]; simp) h1
    exact ⟨h3, h4.trans h2⟩
theorem bfsRun_dist {S : List (List Nat)} {least tgt : Nat} (hS : ∀ a, ∀ k ∈ S.getD a [], k < S.length) : ∀ (m : Nat) (d : List Int) (q : List Nat), BfsI S least tgt d q → unass d + q.length < m → DistR S least tgt (bfsRun S least m d q)
  | 0, _, _, _, h => by omega
  | m + 1, d, [], hI, _ => hI.dist
  | m + 1, d, n :: q, hI, h => by
    obtain ⟨h1, h2⟩ := BfsJ.fold hS (ofP S n least) [] (d, q) rfl (BfsJ.start hI)
    refine bfsRun_dist hS m _ _ h1.fin ?_
    rw [h2]
    simp at h ⊢
    omega
theorem bfsD_dist {S : List (List Nat)} {least tgt : Nat} (hS : ∀ a, ∀ k ∈ S.getD a [], k < S.length) (hto : tgt < S.length) : DistR S least tgt (bfsD S least tgt) := by
  have hu : unass ((List.replicate S.length (-1)).set tgt 0) + 1 = S.length := by
    rw [unass_set _ _ _ (by simpa using hto) (by rw [gD_rep]; omega) (by omega)]
    unfold unass
    rw [List.countP_replicate]
    simp
  exact bfsRun_dist hS _ _ _ (BfsI.start hto) (by simp; omega)
theorem DistR.eq {S : List (List Nat)} {least tgt : Nat} {d : List Int} (h : DistR S least tgt d) (hS : ∀ a, ∀ k ∈ S.getD a [], k < S.length) (hto : tgt < S.length) : d = bfsD S least tgt := h.unique (bfsD_dist hS hto)

/-- an edge turned round. -/
def swapE (x : Int × Int) : Int × Int := (x.2, x.1)
theorem sucs_lt {N : Nat} {es : List (Int × Int)} : ∀ a, ∀ k ∈ (sucs N es).getD a [], k < (sucs N es).length := fun a k hk => by
  rw [sucs_length]
  by_cases ha : a < N
  · rw [sucs_getD _ _ _ ha] at hk; exact (mem_sucL.1 hk).1
  · rw [List.getD_eq_getElem?_getD, List.getElem?_eq_none (by rw [sucs_length]; omega)] at hk; simp at hk
theorem sucs_row {N : Nat} {es : List (Int × Int)} (a : Nat) : ((sucs N es).getD a []).length ≤ N := by
  by_cases ha : a < N
  · rw [sucs_getD _ _ _ ha]; exact sucL_length N es a
  · rw [List.getD_eq_getElem?_getD, List.getElem?_eq_none (by rw [sucs_length]; omega)]; simp
theorem mem_sucs {N : Nat} {es : List (Int × Int)} {a k : Nat} : k ∈ (sucs N es).getD a [] ↔ a < N ∧ k < N ∧ ((a : Int), (k : Int)) ∈ es := by
  constructor
  · intro h
    by_cases ha : a < N
    · rw [sucs_getD _ _ _ ha] at h; exact ⟨ha, mem_sucL.1 h⟩
    · rw [List.getD_eq_getElem?_getD, List.getElem?_eq_none (by rw [sucs_length]; omega)] at h; simp at h
  · rintro ⟨ha, h⟩
    rw [sucs_getD _ _ _ ha]
    exact mem_sucL.2 h
theorem mem_swap {es : List (Int × Int)} {a b : Int} : (a, b) ∈ es.map swapE ↔ (b, a) ∈ es := by
  rw [List.mem_map]
  constructor
  · rintro ⟨⟨x, y⟩, h, e⟩
    unfold swapE at e
    simp at e
    obtain ⟨rfl, rfl⟩ := e
    exact h
  · intro h; exact ⟨(b, a), h, rfl⟩
theorem validG_swap {N : Nat} {es : List (Int × Int)} (h : validG N es = true) : validG N (es.map swapE) = true := by
  have h1 := validG_n h
  unfold validG
  simp only [Bool.and_eq_true, List.all_eq_true, decide_eq_true_eq, List.length_map]
  refine ⟨h1, fun e he => ?_⟩
  obtain ⟨x, hx, rfl⟩ := List.mem_map.1 he
  have := validG_edge h hx
  unfold swapE
  simp only
  omega
/-- a node that is one further has a successor that is one nearer. -/
theorem DistR.desc {N : Nat} {es : List (Int × Int)} {least tgt : Nat} {d : List Int} (h : DistR (sucs N (es.map swapE)) least tgt d) : ∀ a (m : Nat), gD d a = (m : Int) + 1 → ∃ k ∈ (sucs N es).getD a [], gD d k = (m : Int) := fun a m ha => by
  obtain ⟨b, hb, hm⟩ := h.pred a m ha
  unfold ofP at hb
  have := (List.mem_filter.1 hb).1
  obtain ⟨h1, h2, h3⟩ := mem_sucs.1 this
  exact ⟨b, mem_sucs.2 ⟨h2, h1, mem_swap.1 h3⟩, hm⟩
/-- what breadth-first distances are bounded by. -/
theorem DistR.bound {S : List (List Nat)} {least tgt : Nat} {d : List Int} (h : DistR S least tgt d) (hS : ∀ a, ∀ k ∈ S.getD a [], k < S.length) (hto : tgt < S.length) : ∀ a, gD d a ≤ S.length := by
  have key : ∀ (m : Nat) (d : List Int) (q : List Nat), BfsI S least tgt d q → unass d + q.length < m → ∀ a, gD (bfsRun S least m d q) a ≤ S.length := by
    intro m
    induction m with
    | zero => intro _ _ _ h; omega
    | succ m ih =>
      intro d q hI hm
      cases q with
      | nil => intro a; have := hI.bound a; show gD d a ≤ S.length; omega
      | cons n q =>
        obtain ⟨h1, h2⟩ := BfsJ.fold hS (ofP S n least) [] (d, q) rfl (BfsJ.start hI)
        exact ih _ _ h1.fin (by rw [h2]; simp at hm ⊢; omega)
  rw [h.eq hS hto]
  have hu : unass ((List.replicate S.length (-1)).set tgt 0) + 1 = S.length := by
    rw [unass_set _ _ _ (by simpa using hto) (by rw [gD_rep]; omega) (by omega)]
    unfold unass
    rw [List.countP_replicate]
    simp
  exact key _ _ _ (BfsI.start hto) (by simp; omega)

/-- the least way down the distances. -/
def descP (S : List (List Nat)) (far : List Int) : Nat → Nat → List Nat
  | 0, n => [n]
  | m + 1, n => n :: (match (S.getD n []).find? (fun k => gD far k == (m : Int)) with | some k => descP S far m k | none => [])
/-- the shortest way from a node to another one, if there is one. -/
def pathF (N : Nat) (es : List (Int × Int)) (a b : Nat) : List Nat := let far := bfsD (sucs N (es.map swapE)) 0 b; if gD far a < 0 then [] else descP (sucs N es) far (gD far a).toNat a
end Go.Proofs.YtenfkejbndifdaaGreatDoor

namespace Go.Proofs.YtenfkejbndifdaaGreatDoor
set_option linter.unusedVariables false
set_option linter.unusedSimpArgs false
open Go

theorem incrS_inj {s : List SelL} (h : incrS s) {i j : Nat} (hi : i < s.length) (hj : j < s.length) (e : (s.getD i default).1 = (s.getD j default).1) : i = j := by
  have hp := List.pairwise_iff_getElem.1 h
  rw [List.getD_eq_getElem?_getD, List.getD_eq_getElem?_getD, List.getElem?_eq_getElem hi, List.getElem?_eq_getElem hj] at e
  simp only [Option.getD_some] at e
  rcases Nat.lt_trichotomy i j with h1 | h1 | h1
  · have := hp i j hi hj h1; rw [e, ltB_irrefl] at this; cases this
  · exact h1
  · have := hp j i hj hi h1; rw [e, ltB_irrefl] at this; cases this
theorem pathIx_some {s : List SelL} {p : ByteArray} {k : Nat} (h : pathIx s p = some k) : k < s.length ∧ (s.getD k default).1 = p := by
  unfold pathIx at h
  obtain ⟨hk, h1, _⟩ := List.findIdx?_eq_some_iff_getElem.1 h
  refine ⟨hk, ?_⟩
  rw [List.getD_eq_getElem?_getD, List.getElem?_eq_getElem hk]
  exact of_decide_eq_true h1
theorem pathIx_at {s : List SelL} (hs : incrS s) {i : Nat} (hi : i < s.length) : pathIx s (s.getD i default).1 = some i := by
  cases h : pathIx s (s.getD i default).1 with
  | none =>
    unfold pathIx at h
    have := List.findIdx?_eq_none_iff.1 h (s.getD i default) (by rw [List.getD_eq_getElem?_getD, List.getElem?_eq_getElem hi]; exact List.getElem_mem hi)
    simp at this
  | some k =>
    obtain ⟨hk, e⟩ := pathIx_some h
    rw [incrS_inj hs hk hi e]
theorem nodeE_mem {s : List SelL} {i : Nat} {l : List ReqL} {x : Int × Int} : x ∈ nodeE s i l ↔ ∃ q k, q ∈ l ∧ pathIx s q.1 = some k ∧ x = ((i : Int), (k : Int)) := by
  unfold nodeE
  rw [List.mem_filterMap]
  constructor
  · rintro ⟨q, hq, h⟩
    cases hk : pathIx s q.1 with
    | none => rw [hk] at h; cases h
    | some k => rw [hk] at h; exact ⟨q, k, hq, hk, (Option.some.inj h).symm⟩
  · rintro ⟨q, k, hq, hk, rfl⟩
    exact ⟨q, hq, by rw [hk]; rfl⟩
theorem edgesK_mem {X : List RelL} {s : List SelL} {n : Nat} {x : Int × Int} : x ∈ edgesK X s n ↔ ∃ i q k, i < n ∧ q ∈ reqsOf X (s.getD i default) ∧ pathIx s q.1 = some k ∧ x = ((i : Int), (k : Int)) := by
  unfold edgesK
  rw [List.mem_flatMap]
  constructor
  · rintro ⟨i, hi, h⟩
    obtain ⟨q, k, h1, h2, h3⟩ := nodeE_mem.1 h
    exact ⟨i, q, k, List.mem_range.1 hi, h1, h2, h3⟩
  · rintro ⟨i, q, k, hi, h1, h2, h3⟩
    exact ⟨i, List.mem_range.2 hi, nodeE_mem.2 ⟨q, k, h1, h2, h3⟩⟩
/-- a path that is needed is reached from what the roots name. -/
theorem need_reach {X : List RelL} {roots : List ReqL} {s : List SelL} {fr : List Int} (hs : incrS s)
    (hfr : ∀ i : Nat, i < s.length → (∃ q, q ∈ roots ∧ q.1 = (s.getD i default).1) → (i : Int) ∈ fr) {p : ByteArray} (h : Need X roots s p) :
    ∀ i, i < s.length → (s.getD i default).1 = p → ∃ a : Nat, (a : Int) ∈ fr ∧ Rch (sucs s.length (edgesK X s s.length)) a i := by
  induction h with
  | root hq => exact fun i hi e => ⟨i, hfr i hi ⟨_, hq, e.symm⟩, .refl i⟩
  | @step y q hy hn hq ih =>
    intro i hi e
    obtain ⟨j, hj, rfl⟩ := List.mem_iff_getElem.1 hy
    have hjD : s.getD j default = s[j] := by rw [List.getD_eq_getElem?_getD, List.getElem?_eq_getElem hj]; rfl
    obtain ⟨a, ha, hr⟩ := ih j hj (by rw [hjD])
    refine ⟨a, ha, hr.trans (.step (b := i) ?_ (.refl i))⟩
    rw [mem_sucs]
    refine ⟨hj, hi, edgesK_mem.2 ⟨j, q, i, hj, by rw [hjD]; exact hq, ?_, rfl⟩⟩
    rw [← e]
    exact pathIx_at hs hi
theorem edgesK_valid {X : List RelL} {s : List SelL} (hs : s.length ≤ 14) (hr : ∀ y, (reqsOf X y).length ≤ 20) : validG s.length (edgesK X s s.length) = true := by
  unfold validG
  have h1 := edgesK_len X s 20 hr s.length
  rw [Bool.and_eq_true, Bool.and_eq_true]
  refine ⟨⟨decide_eq_true (by omega), decide_eq_true (by omega)⟩, List.all_eq_true.2 fun x hx => ?_⟩
  obtain ⟨i, q, k, hi, _, hk, rfl⟩ := edgesK_mem.1 hx
  have := (pathIx_some hk).1
  exact decide_eq_true ⟨by omega, by simp; omega, by omega, by simp; omega⟩
end Go.Proofs.YtenfkejbndifdaaGreatDoor

namespace Go.Proofs.YtenfkejbndifdaaGreatDoor
set_option linter.unusedVariables false
set_option linter.unusedSimpArgs false
open Go

theorem sub_length {α : Type} [DecidableEq α] : ∀ {l m : List α}, l.Nodup → (∀ a ∈ l, a ∈ m) → l.length ≤ m.length
  | [], m, _, _ => Nat.zero_le _
  | a :: l, m, hn, hs => by
    rw [List.nodup_cons] at hn
    have h1 := hs a (by simp)
    have h2 : l.length ≤ (m.erase a).length := sub_length hn.2 fun b hb => (List.mem_erase_of_ne (fun e => by subst e; exact hn.1 hb)).2 (hs b (by simp [hb]))
    have h3 := List.length_erase_of_mem h1
    have h4 := List.length_pos_of_mem h1
    rw [List.length_cons]
    omega
theorem sub_all {α : Type} [DecidableEq α] {l m : List α} (hn : l.Nodup) (hs : ∀ a ∈ l, a ∈ m) (hl : m.length ≤ l.length) : ∀ a ∈ m, a ∈ l := by
  intro a ha
  by_cases h : a ∈ l
  · exact h
  · have h1 : (a :: l).length ≤ m.length := sub_length (List.nodup_cons.2 ⟨h, hn⟩) fun b hb => by
      rcases List.mem_cons.1 hb with rfl | hb
      · exact ha
      · exact hs b hb
    rw [List.length_cons] at h1
    omega
theorem incrS_nodup {s : List SelL} (h : incrS s) : (s.map (·.1)).Nodup := by
  unfold List.Nodup
  rw [List.pairwise_map]
  exact h.imp fun {a b} hab e => by rw [e, ltB_irrefl] at hab; cases hab
/-- a selection satisfies some roots and its own releases. -/
structure SatP (X : List RelL) (roots : List ReqL) (s : List SelL) : Prop where
  ok : checkX X = 0
  incr : incrS s
  found : ∀ y ∈ s, (findR X y).isSome = true
  own : ∀ y ∈ s, ∀ q ∈ reqsOf X y, metB s q = true
  root : ∀ q ∈ roots, metB s q = true
theorem metB_path {s : List SelL} {q : ReqL} (h : metB s q = true) : ∃ y ∈ s, y.1 = q.1 := by
  unfold metB at h
  obtain ⟨y, hy, h1⟩ := List.any_eq_true.1 h
  rw [Bool.and_eq_true] at h1
  exact ⟨y, hy, of_decide_eq_true h1.1⟩
/-- what holds between two rounds: the paths that have been marked, and what is to do. -/
structure NeedI (X : List RelL) (roots : List ReqL) (s : List SelL) (seen : List ByteArray) (todo : List ReqL) : Prop where
  nodup : seen.Nodup
  seen : ∀ p ∈ seen, Need X roots s p ∧ p ∈ s.map (·.1)
  todo : ∀ q ∈ todo, Need X roots s q.1 ∧ q.1 ∈ s.map (·.1)
theorem NeedI.start {X : List RelL} {roots : List ReqL} {s : List SelL} (h : SatP X roots s) : NeedI X roots s [] roots :=
  ⟨List.nodup_nil, fun p hp => (by cases hp), fun q hq => ⟨.root hq, by obtain ⟨y, hy, e⟩ := metB_path (h.root q hq); exact List.mem_map.2 ⟨y, hy, e⟩⟩⟩
theorem NeedI.skip {X : List RelL} {roots : List ReqL} {s : List SelL} {seen : List ByteArray} {q : ReqL} {todo : List ReqL} (h : NeedI X roots s seen (q :: todo)) : NeedI X roots s seen todo :=
  ⟨h.nodup, h.seen, fun x hx => h.todo x (by simp [hx])⟩
theorem NeedI.mark {X : List RelL} {roots : List ReqL} {s : List SelL} {seen : List ByteArray} {q : ReqL} {todo : List ReqL} (hs : SatP X roots s) (h : NeedI X roots s seen (q :: todo)) (hq : q.1 ∉ seen) {y : SelL} (hy : y ∈ s) (e : y.1 = q.1) :
    NeedI X roots s (q.1 :: seen) (todo ++ reqsOf X y) := by
  have h1 := h.todo q (by simp)
  refine ⟨List.nodup_cons.2 ⟨hq, h.nodup⟩, fun p hp => ?_, fun x hx => ?_⟩
  · rcases List.mem_cons.1 hp with rfl | hp
    · exact h1
    · exact h.seen p hp
  · rcases List.mem_append.1 hx with hx | hx
    · exact h.todo x (by simp [hx])
    · refine ⟨.step hy (e ▸ h1.1) hx, ?_⟩
      obtain ⟨y', hy', e'⟩ := metB_path (hs.own y hy x hx)
      exact List.mem_map.2 ⟨y', hy', e'⟩
theorem NeedI.len {X : List RelL} {roots : List ReqL} {s : List SelL} {seen : List ByteArray} {todo : List ReqL} (h : NeedI X roots s seen todo) : seen.length ≤ s.length := by
  have := sub_length h.nodup fun p hp => (h.seen p hp).2
  rwa [List.length_map] at this
theorem NeedI.all {X : List RelL} {roots : List ReqL} {s : List SelL} {seen : List ByteArray} {todo : List ReqL} (h : NeedI X roots s seen todo) (hl : s.length ≤ seen.length) : ∀ y ∈ s, Need X roots s y.1 := fun y hy =>
  (h.seen y.1 (sub_all h.nodup (fun p hp => (h.seen p hp).2) (by rw [List.length_map]; exact hl) y.1 (List.mem_map.2 ⟨y, hy, rfl⟩))).1
/-- few requirements in an index that has been checked. -/
theorem reqsOf_len {X : List RelL} (h : checkX X = 0) (y : SelL) : (reqsOf X y).length ≤ 16 := by
  unfold reqsOf
  cases hf : findR X y with
  | none => simp
  | some r =>
    have hm : r ∈ X := List.mem_of_find?_eq_some hf
    obtain ⟨k, hk, rfl⟩ := List.mem_iff_getElem.1 hm
    unfold checkX at h
    split at h
    · exact absurd h (by decide)
    · have h1 := firstE_zero h k hk
      unfold idxErr at h1
      have h2 : relE (X.getD k default) = 0 := by
        by_cases e : relE (X.getD k default) = 0
        · exact e
        · rw [if_pos e] at h1; exact absurd h1 e
      rw [List.getD_eq_getElem?_getD, List.getElem?_eq_getElem hk] at h2
      simp only [Option.getD_some] at h2
      unfold relE at h2
      split at h2
      · exact absurd h2 (by decide)
      · split at h2
        · exact absurd h2 (by decide)
        · split at h2
          · rename_i h3; exact absurd h2 h3
          · rename_i h3
            have h4 : checkReqs X[k].reqs = 0 := Classical.not_not.1 h3
            unfold checkReqs at h4
            split at h4
            · exact absurd h4 (by decide)
            · simp only
              omega
end Go.Proofs.YtenfkejbndifdaaGreatDoor
