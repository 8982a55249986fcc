/- Graphs, plain: distances computed; the least shortest way; a reversed graph's successors. -/
import Derived.Test.YtlcgbkeggmaljaaGPlainBfs
namespace Go.Proofs.Ytlcgbkeggmaljaa
set_option linter.unusedVariables false
set_option linter.unusedSimpArgs false

/-- a breadth-first search, by a count of rounds. -/
def bfsRun (S : List (List Nat)) (least : Nat) : Nat → List Int → List Nat → List Int
  | 0, d, _ => d
  | _ + 1, d, [] => d
  | m + 1, d, n :: q => let st := (ofP S n least).foldl (bstep n) (d, q); bfsRun S least m st.1 st.2
/-- the distances to a node. -/
def bfsD (S : List (List Nat)) (least to : Nat) : List Int := bfsRun S least (S.length + 1) ((List.replicate S.length (-1)).set to 0) [to]

theorem BfsJ.fold {S : List (List Nat)} {least to n : Nat} (hS : ∀ a, ∀ k ∈ S.getD a [], k < S.length) : ∀ (l : List Nat) (pre : List Nat) (st : List Int × List Nat), pre ++ l = ofP S n least → BfsJ S least to n pre st.1 st.2 →
    BfsJ S least to n (ofP S n least) (l.foldl (bstep n) st).1 (l.foldl (bstep n) st).2 ∧ unass (l.foldl (bstep n) st).1 + (l.foldl (bstep n) st).2.length = unass st.1 + st.2.length
  | [], pre, st, hp, h => by rw [List.append_nil] at hp; subst hp; exact ⟨h, rfl⟩
  | k :: l, pre, st, hp, h => by
    have hk : k ∈ ofP S n least := by rw [← hp]; simp
    have hkl : k < S.length := by unfold ofP at hk; exact hS n k (List.mem_filter.1 hk).1
    obtain ⟨h1, h2⟩ := h.step k hk hkl
    obtain ⟨h3, h4⟩ := BfsJ.fold hS l (pre ++ [k]) (bstep n st k) (by rw [← hp]; simp) h1
    exact ⟨h3, h4.trans h2⟩
theorem bfsRun_dist {S : List (List Nat)} {least to : Nat} (hS : ∀ a, ∀ k ∈ S.getD a [], k < S.length) : ∀ (m : Nat) (d : List Int) (q : List Nat), BfsI S least to d q → unass d + q.length < m → DistR S least to (bfsRun S least m d q)
  | 0, _, _, _, h => by omega
  | m + 1, d, [], hI, _ => hI.dist
  | m + 1, d, n :: q, hI, h => by
    obtain ⟨h1, h2⟩ := BfsJ.fold hS (ofP S n least) [] (d, q) rfl (BfsJ.start hI)
    refine bfsRun_dist hS m _ _ h1.fin ?_
    rw [h2]
    simp at h ⊢
    omega
theorem bfsD_dist {S : List (List Nat)} {least to : Nat} (hS : ∀ a, ∀ k ∈ S.getD a [], k < S.length) (hto : to < S.length) : DistR S least to (bfsD S least to) := by
  have hu : unass ((List.replicate S.length (-1)).set to 0) + 1 = S.length := by
    rw [unass_set _ _ _ (by simpa using hto) (by rw [gD_rep]; omega) (by omega)]
    unfold unass
    rw [List.countP_replicate]
    simp
  exact bfsRun_dist hS _ _ _ (BfsI.start hto) (by simp; omega)
theorem DistR.eq {S : List (List Nat)} {least to : Nat} {d : List Int} (h : DistR S least to d) (hS : ∀ a, ∀ k ∈ S.getD a [], k < S.length) (hto : to < S.length) : d = bfsD S least to := h.unique (bfsD_dist hS hto)

/-- an edge turned round. -/
def swapE (x : Int × Int) : Int × Int := (x.2, x.1)
theorem sucs_lt {N : Nat} {es : List (Int × Int)} : ∀ a, ∀ k ∈ (sucs N es).getD a [], k < (sucs N es).length := fun a k hk => by
  rw [sucs_length]
  by_cases ha : a < N
  · rw [sucs_getD _ _ _ ha] at hk; exact (mem_sucL.1 hk).1
  · rw [List.getD_eq_getElem?_getD, List.getElem?_eq_none (by rw [sucs_length]; omega)] at hk; simp at hk
theorem sucs_row {N : Nat} {es : List (Int × Int)} (a : Nat) : ((sucs N es).getD a []).length ≤ N := by
  by_cases ha : a < N
  · rw [sucs_getD _ _ _ ha]; exact sucL_length N es a
  · rw [List.getD_eq_getElem?_getD, List.getElem?_eq_none (by rw [sucs_length]; omega)]; simp
theorem mem_sucs {N : Nat} {es : List (Int × Int)} {a k : Nat} : k ∈ (sucs N es).getD a [] ↔ a < N ∧ k < N ∧ ((a : Int), (k : Int)) ∈ es := by
  constructor
  · intro h
    by_cases ha : a < N
    · rw [sucs_getD _ _ _ ha] at h; exact ⟨ha, mem_sucL.1 h⟩
    · rw [List.getD_eq_getElem?_getD, List.getElem?_eq_none (by rw [sucs_length]; omega)] at h; simp at h
  · rintro ⟨ha, h⟩
    rw [sucs_getD _ _ _ ha]
    exact mem_sucL.2 h
theorem mem_swap {es : List (Int × Int)} {a b : Int} : (a, b) ∈ es.map swapE ↔ (b, a) ∈ es := by
  rw [List.mem_map]
  constructor
  · rintro ⟨⟨x, y⟩, h, e⟩
    unfold swapE at e
    simp at e
    obtain ⟨rfl, rfl⟩ := e
    exact h
  · intro h; exact ⟨(b, a), h, rfl⟩
theorem validG_swap {N : Nat} {es : List (Int × Int)} (h : validG N es = true) : validG N (es.map swapE) = true := by
  have h1 := validG_n h
  unfold validG
  simp only [Bool.and_eq_true, List.all_eq_true, decide_eq_true_eq, List.length_map]
  refine ⟨h1, fun e he => ?_⟩
  obtain ⟨x, hx, rfl⟩ := List.mem_map.1 he
  have := validG_edge h hx
  unfold swapE
  simp only
  omega
/-- a node that is one further has a successor that is one nearer. -/
theorem DistR.desc {N : Nat} {es : List (Int × Int)} {least to : Nat} {d : List Int} (h : DistR (sucs N (es.map swapE)) least to d) : ∀ a (m : Nat), gD d a = (m : Int) + 1 → ∃ k ∈ (sucs N es).getD a [], gD d k = (m : Int) := fun a m ha => by
  obtain ⟨b, hb, hm⟩ := h.pred a m ha
  unfold ofP at hb
  have := (List.mem_filter.1 hb).1
  obtain ⟨h1, h2, h3⟩ := mem_sucs.1 this
  exact ⟨b, mem_sucs.2 ⟨h2, h1, mem_swap.1 h3⟩, hm⟩
/-- what breadth-first distances are bounded by. -/
theorem DistR.bound {S : List (List Nat)} {least to : Nat} {d : List Int} (h : DistR S least to d) (hS : ∀ a, ∀ k ∈ S.getD a [], k < S.length) (hto : to < S.length) : ∀ a, gD d a ≤ S.length := by
  have key : ∀ (m : Nat) (d : List Int) (q : List Nat), BfsI S least to d q → unass d + q.length < m → ∀ a, gD (bfsRun S least m d q) a ≤ S.length := by
    intro m
    induction m with
    | zero => intro _ _ _ h; omega
    | succ m ih =>
      intro d q hI hm
      cases q with
      | nil => intro a; have := hI.bound a; show gD d a ≤ S.length; omega
      | cons n q =>
        obtain ⟨h1, h2⟩ := BfsJ.fold hS (ofP S n least) [] (d, q) rfl (BfsJ.start hI)
        exact ih _ _ h1.fin (by rw [h2]; simp at hm ⊢; omega)
  rw [h.eq hS hto]
  have hu : unass ((List.replicate S.length (-1)).set to 0) + 1 = S.length := by
    rw [unass_set _ _ _ (by simpa using hto) (by rw [gD_rep]; omega) (by omega)]
    unfold unass
    rw [List.countP_replicate]
    simp
  exact key _ _ _ (BfsI.start hto) (by simp; omega)

/-- the least way down the distances. -/
def descP (S : List (List Nat)) (far : List Int) : Nat → Nat → List Nat
  | 0, n => [n]
  | m + 1, n => n :: (match (S.getD n []).find? (fun k => gD far k == (m : Int)) with | some k => descP S far m k | none => [])
/-- the shortest way from a node to another one, if there is one. -/
def pathF (N : Nat) (es : List (Int × Int)) (a b : Nat) : List Nat := let far := bfsD (sucs N (es.map swapE)) 0 b; if gD far a < 0 then [] else descP (sucs N es) far (gD far a).toNat a
end Go.Proofs.Ytlcgbkeggmaljaa
