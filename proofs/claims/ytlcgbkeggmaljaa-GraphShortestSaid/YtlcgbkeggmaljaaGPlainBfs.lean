/- Graphs, plain: breadth-first distances. -/
import Derived.Test.YtlcgbkeggmaljaaGPlain
namespace Go.Proofs.Ytlcgbkeggmaljaa
set_option linter.unusedVariables false
set_option linter.unusedSimpArgs false

/-- what a range over of yields. -/
def ofP (S : List (List Nat)) (node least : Nat) : List Nat := (S.getD node []).filter (fun k => decide (least ≤ k))
/-- a node's distance. -/
abbrev gD (d : List Int) (a : Nat) : Int := d.getD a (-1)
/-- distances to a node: 0 there, and one more than at a node to which an edge leads. -/
structure DistR (S : List (List Nat)) (least to : Nat) (d : List Int) : Prop where
  len : d.length = S.length
  lo : ∀ a, -1 ≤ gD d a
  t0 : gD d to = 0
  zero : ∀ a, gD d a = 0 → a = to
  pred : ∀ (a m : Nat), gD d a = (m : Int) + 1 → ∃ b, a ∈ ofP S b least ∧ gD d b = m
  near : ∀ b, 0 ≤ gD d b → ∀ a ∈ ofP S b least, 0 ≤ gD d a ∧ gD d a ≤ gD d b + 1

theorem DistR.le {S : List (List Nat)} {least to : Nat} {d e : List Int} (hd : DistR S least to d) (he : DistR S least to e) : ∀ (m a : Nat), gD d a = (m : Int) → 0 ≤ gD e a ∧ gD e a ≤ m
  | 0, a, h => by
    have : a = to := hd.zero a (by simpa using h)
    subst this
    rw [he.t0]; simp
  | m + 1, a, h => by
    obtain ⟨b, hb, hm⟩ := hd.pred a m (by rw [h]; simp)
    obtain ⟨h1, h2⟩ := DistR.le hd he m b hm
    obtain ⟨h3, h4⟩ := he.near b h1 a hb
    refine ⟨h3, ?_⟩
    have : ((m + 1 : Nat) : Int) = (m : Int) + 1 := by simp
    omega
theorem DistR.unique {S : List (List Nat)} {least to : Nat} {d e : List Int} (hd : DistR S least to d) (he : DistR S least to e) : d = e := by
  have hl : d.length = e.length := hd.len.trans he.len.symm
  refine List.ext_getElem hl fun i h1 h2 => ?_
  have e1 : gD d i = d[i] := by unfold gD; rw [List.getD_eq_getElem?_getD, List.getElem?_eq_getElem h1]; rfl
  have e2 : gD e i = e[i] := by unfold gD; rw [List.getD_eq_getElem?_getD, List.getElem?_eq_getElem h2]; rfl
  rw [← e1, ← e2]
  have a1 := hd.lo i
  have a2 := he.lo i
  by_cases h : 0 ≤ gD d i
  · have b1 := hd.le he (gD d i).toNat i (by omega)
    have b2 := he.le hd (gD e i).toNat i (by omega)
    omega
  · by_cases h' : 0 ≤ gD e i
    · have b2 := he.le hd (gD e i).toNat i (by omega)
      omega
    · omega

/-- one more node of a breadth-first search. -/
def bstep (n : Nat) (st : List Int × List Nat) (k : Nat) : List Int × List Nat := if gD st.1 k < 0 then (st.1.set k (gD st.1 n + 1), st.2 ++ [k]) else st
/-- how many nodes have no distance. -/
def unass (d : List Int) : Nat := d.countP (fun x => decide (x < 0))
theorem unass_set : ∀ (d : List Int) (k : Nat) (x : Int), k < d.length → gD d k < 0 → 0 ≤ x → unass (d.set k x) + 1 = unass d
  | [], k, x, h, _, _ => by simp at h
  | y :: d, 0, x, _, h, hx => by
    have hy : y < 0 := h
    unfold unass
    rw [List.set_cons_zero, List.countP_cons, List.countP_cons]
    simp [hy, show ¬ x < 0 by omega]
  | y :: d, k + 1, x, hk, h, hx => by
    have := unass_set d k x (by simpa using hk) h hx
    unfold unass at *
    rw [List.set_cons_succ, List.countP_cons, List.countP_cons]
    omega
theorem gD_set (d : List Int) (k : Nat) (x : Int) (a : Nat) (hk : k < d.length) : gD (d.set k x) a = if a = k then x else gD d a := by
  unfold gD
  rw [List.getD_eq_getElem?_getD, List.getD_eq_getElem?_getD]
  by_cases h : a = k
  · subst h; rw [if_pos rfl, List.getElem?_set_self hk]; rfl
  · rw [if_neg h, List.getElem?_set_ne (Ne.symm h)]
theorem gD_lt {d : List Int} {a : Nat} (h : 0 ≤ gD d a) : a < d.length := by
  unfold gD at h
  rw [List.getD_eq_getElem?_getD] at h
  cases e : d[a]? with
  | none => rw [e] at h; simp at h
  | some x => exact (List.getElem?_eq_some_iff.1 e).1

/-- what is known between two nodes of the queue. -/
structure BfsI (S : List (List Nat)) (least to : Nat) (d : List Int) (q : List Nat) : Prop where
  len : d.length = S.length
  lo : ∀ a, -1 ≤ gD d a
  t0 : gD d to = 0
  zero : ∀ a, gD d a = 0 → a = to
  pred : ∀ (a m : Nat), gD d a = (m : Int) + 1 → ∃ b, a ∈ ofP S b least ∧ gD d b = m
  bound : ∀ a, gD d a + unass d < S.length
  qok : ∀ k ∈ q, 0 ≤ gD d k
  mono : q.Pairwise fun x y => gD d x ≤ gD d y
  near : ∀ a h, q.head? = some h → gD d a ≤ gD d h + 1
  done : ∀ b, 0 ≤ gD d b → b ∉ q → ∀ a ∈ ofP S b least, 0 ≤ gD d a ∧ gD d a ≤ gD d b + 1
/-- what is known while a node's row is looked at. -/
structure BfsJ (S : List (List Nat)) (least to n : Nat) (pre : List Nat) (d : List Int) (q : List Nat) : Prop where
  len : d.length = S.length
  lo : ∀ a, -1 ≤ gD d a
  t0 : gD d to = 0
  zero : ∀ a, gD d a = 0 → a = to
  pred : ∀ (a m : Nat), gD d a = (m : Int) + 1 → ∃ b, a ∈ ofP S b least ∧ gD d b = m
  bound : ∀ a, gD d a + unass d < S.length
  n0 : 0 ≤ gD d n
  qok : ∀ k ∈ q, gD d n ≤ gD d k
  mono : q.Pairwise fun x y => gD d x ≤ gD d y
  near : ∀ a, gD d a ≤ gD d n + 1
  done : ∀ b, 0 ≤ gD d b → b ∉ q → b ≠ n → ∀ a ∈ ofP S b least, 0 ≤ gD d a ∧ gD d a ≤ gD d b + 1
  row : ∀ a ∈ pre, 0 ≤ gD d a ∧ gD d a ≤ gD d n + 1

theorem BfsJ.start {S : List (List Nat)} {least to n : Nat} {d : List Int} {q : List Nat} (h : BfsI S least to d (n :: q)) : BfsJ S least to n [] d q := by
  have hm := List.pairwise_cons.1 h.mono
  exact ⟨h.len, h.lo, h.t0, h.zero, h.pred, h.bound, h.qok n (by simp), hm.1, hm.2, fun a => h.near a n rfl, fun b hb hq hn => h.done b hb (by simp [hn, hq]), by simp⟩
theorem BfsJ.step {S : List (List Nat)} {least to n : Nat} {pre : List Nat} {st : List Int × List Nat} (h : BfsJ S least to n pre st.1 st.2) (k : Nat) (hk : k ∈ ofP S n least) (hkl : k < S.length) :
    BfsJ S least to n (pre ++ [k]) (bstep n st k).1 (bstep n st k).2 ∧ unass (bstep n st k).1 + (bstep n st k).2.length = unass st.1 + st.2.length := by
  obtain ⟨d, q⟩ := st
  simp only at h
  unfold bstep
  by_cases hneg : gD d k < 0
  · simp only [hneg, if_true]
    have hkd : k < d.length := by rw [h.len]; exact hkl
    have hn0 := h.n0
    have hu := unass_set d k (gD d n + 1) hkd hneg (by omega)
    have hkn : n ≠ k := fun e => by subst e; omega
    have hnn : gD (d.set k (gD d n + 1)) n = gD d n := by rw [gD_set _ _ _ _ hkd, if_neg hkn]
    have hg : ∀ a, gD (d.set k (gD d n + 1)) a = if a = k then gD d n + 1 else gD d a := fun a => gD_set _ _ _ _ hkd
    refine ⟨⟨by rw [List.length_set]; exact h.len, fun a => ?_, ?_, fun a ha => ?_, fun a m ha => ?_, fun a => ?_, by rw [hnn]; exact hn0, fun j hj => ?_, ?_, fun a => ?_, fun b hb hq hbn a ha => ?_, fun a ha => ?_⟩, ?_⟩
    · rw [hg]; split
      · omega
      · exact h.lo a
    · rw [hg]; split
      · rename_i e; subst e; have := h.t0; omega
      · exact h.t0
    · rw [hg] at ha; split at ha
      · omega
      · exact h.zero a ha
    · rw [hg] at ha; split at ha
      · rename_i e
        subst e
        exact ⟨n, hk, by rw [hnn]; omega⟩
      · obtain ⟨b, hb, hm⟩ := h.pred a m ha
        refine ⟨b, hb, ?_⟩
        rw [hg, if_neg (fun e => by subst e; omega)]
        exact hm
    · rw [hg]
      have b1 := h.bound n
      have b2 := h.bound a
      split <;> omega
    · rw [hnn, hg]
      split
      · omega
      · rename_i e
        rcases List.mem_append.1 hj with hj | hj
        · exact h.qok j hj
        · rw [List.mem_singleton] at hj; exact absurd hj e
    · rw [List.pairwise_append]
      refine ⟨h.mono.imp_of_mem fun {x y} hx hy hxy => ?_, by simp, fun x hx y hy => ?_⟩
      · have e1 : x ≠ k := fun e => by subst e; have := h.qok x hx; omega
        have e2 : y ≠ k := fun e => by subst e; have := h.qok y hy; omega
        rw [hg, hg, if_neg e1, if_neg e2]
        exact hxy
      · rw [List.mem_singleton] at hy
        subst hy
        have e1 : x ≠ y := fun e => by subst e; have := h.qok x hx; omega
        rw [hg, hg, if_neg e1, if_pos rfl]
        exact h.near x
    · rw [hnn, hg]
      split
      · omega
      · exact h.near a
    · have hbk : b ≠ k := fun e => hq (by simp [e])
      rw [hg, if_neg hbk] at hb
      obtain ⟨h1, h2⟩ := h.done b hb (fun e => hq (by simp [e])) hbn a ha
      have hak : a ≠ k := fun e => by subst e; omega
      rw [hg, hg, if_neg hak, if_neg hbk]
      exact ⟨h1, h2⟩
    · rw [hnn, hg]
      split
      · omega
      · rename_i e
        rcases List.mem_append.1 ha with ha | ha
        · exact h.row a ha
        · rw [List.mem_singleton] at ha; exact absurd ha e
    · rw [List.length_append, List.length_singleton]; omega
  · simp only [hneg, if_false]
    refine ⟨⟨h.len, h.lo, h.t0, h.zero, h.pred, h.bound, h.n0, h.qok, h.mono, h.near, h.done, fun a ha => ?_⟩, trivial⟩
    rcases List.mem_append.1 ha with ha | ha
    · exact h.row a ha
    · rw [List.mem_singleton] at ha
      subst ha
      exact ⟨by omega, h.near a⟩
theorem BfsJ.fin {S : List (List Nat)} {least to n : Nat} {d : List Int} {q : List Nat} (h : BfsJ S least to n (ofP S n least) d q) : BfsI S least to d q := by
  refine ⟨h.len, h.lo, h.t0, h.zero, h.pred, h.bound, fun k hk => by have := h.qok k hk; have := h.n0; omega, h.mono, fun a x hx => ?_, fun b hb hq a ha => ?_⟩
  · have h1 := h.near a
    have h2 := h.qok x (List.mem_of_mem_head? hx)
    omega
  · by_cases e : b = n
    · subst e; exact h.row a ha
    · exact h.done b hb hq e a ha
theorem BfsI.dist {S : List (List Nat)} {least to : Nat} {d : List Int} (h : BfsI S least to d []) : DistR S least to d :=
  ⟨h.len, h.lo, h.t0, h.zero, h.pred, fun b hb => h.done b hb (by simp)⟩
theorem gD_rep (N a : Nat) : gD (List.replicate N (-1)) a = -1 := by
  unfold gD
  rw [List.getD_eq_getElem?_getD, List.getElem?_replicate]
  split <;> rfl
theorem BfsI.start {S : List (List Nat)} {least to : Nat} (hto : to < S.length) : BfsI S least to ((List.replicate S.length (-1)).set to 0) [to] := by
  have hl : to < (List.replicate S.length (-1 : Int)).length := by simpa using hto
  have hg : ∀ a, gD ((List.replicate S.length (-1)).set to 0) a = if a = to then 0 else -1 := fun a => by rw [gD_set _ _ _ _ hl, gD_rep]
  have hu : unass ((List.replicate S.length (-1)).set to 0) + 1 = S.length := by
    rw [unass_set _ _ _ hl (by rw [gD_rep]; omega) (by omega)]
    unfold unass
    rw [List.countP_replicate]
    simp
  refine ⟨by simp, fun a => ?_, ?_, fun a ha => ?_, fun a m ha => ?_, fun a => ?_, fun k hk => ?_, by simp, fun a h hh => ?_, fun b hb hq a ha => ?_⟩
  · rw [hg]; split <;> omega
  · rw [hg, if_pos rfl]
  · rw [hg] at ha; split at ha
    · assumption
    · omega
  · rw [hg] at ha; split at ha <;> omega
  · rw [hg]; split <;> omega
  · rw [List.mem_singleton] at hk; subst hk; rw [hg, if_pos rfl]; omega
  · simp at hh; subst hh; rw [hg, hg, if_pos rfl]; split <;> omega
  · rw [hg] at hb; split at hb
    · rename_i e; exact absurd (by simp [e]) hq
    · omega
end Go.Proofs.Ytlcgbkeggmaljaa
