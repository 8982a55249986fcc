/- Graphs, plain: edges, successors; a list that is sorted and compacted. -/
import Derived.Lib.SlicesCompact
namespace Go.Proofs.YtdhihdiifgcfdaaGreatDoor
set_option linter.unusedVariables false
set_option linter.unusedSimpArgs false
open Go.Lib

/-- the successors of a node in increasing order. -/
def sucL (n : Nat) (es : List (Int × Int)) (i : Nat) : List Nat := (List.range n).filter fun k => es.contains ((i : Int), (k : Int))
/-- the successors of all nodes. -/
def sucs (n : Nat) (es : List (Int × Int)) : List (List Nat) := (List.range n).map (sucL n es)
/-- the ends of the edges that begin at a node, in their order. -/
def rawL (es : List (Int × Int)) (i : Nat) : List Int := (es.filter fun e => e.1 == (i : Int)).map (·.2)
/-- a graph is valid. -/
def validG (n : Nat) (es : List (Int × Int)) : Bool := decide (n ≤ 1024) && decide (es.length ≤ 4096) && es.all fun e => decide (0 ≤ e.1 ∧ e.1 < n ∧ 0 ≤ e.2 ∧ e.2 < n)

theorem sucs_length (n : Nat) (es : List (Int × Int)) : (sucs n es).length = n := by simp [sucs]
theorem sucs_get (n : Nat) (es : List (Int × Int)) (i : Nat) (h : i < n) : (sucs n es)[i]? = some (sucL n es i) := by simp [sucs, h]
theorem sucs_getD (n : Nat) (es : List (Int × Int)) (i : Nat) (h : i < n) : (sucs n es).getD i [] = sucL n es i := by rw [List.getD_eq_getElem?_getD, sucs_get n es i h]; rfl
theorem mem_sucL {n : Nat} {es : List (Int × Int)} {i k : Nat} : k ∈ sucL n es i ↔ k < n ∧ ((i : Int), (k : Int)) ∈ es := by simp [sucL]
theorem sucL_length (n : Nat) (es : List (Int × Int)) (i : Nat) : (sucL n es i).length ≤ n := by
  unfold sucL
  have := List.length_filter_le (fun k : Nat => es.contains ((i : Int), (k : Int))) (List.range n)
  simpa using this
theorem sucL_sorted (n : Nat) (es : List (Int × Int)) (i : Nat) : (sucL n es i).Pairwise (· < ·) := List.Pairwise.filter _ List.pairwise_lt_range

theorem rawL_snoc (es : List (Int × Int)) (e : Int × Int) (i : Nat) : rawL (es ++ [e]) i = if e.1 = (i : Int) then rawL es i ++ [e.2] else rawL es i := by
  unfold rawL
  rw [List.filter_append]
  by_cases h : e.1 = (i : Int) <;> simp [h]
theorem mem_rawL {es : List (Int × Int)} {i : Nat} {x : Int} : x ∈ rawL es i ↔ ((i : Int), x) ∈ es := by
  unfold rawL
  rw [List.mem_map]
  constructor
  · rintro ⟨⟨a, b⟩, h, rfl⟩
    rw [List.mem_filter] at h
    have : a = (i : Int) := by simpa using h.2
    subst this
    exact h.1
  · intro h
    exact ⟨((i : Int), x), List.mem_filter.2 ⟨h, by simp⟩, rfl⟩

/-- two lists that increase and have the same members are one. -/
theorem incr_ext : ∀ {a b : List Int}, a.Pairwise (· < ·) → b.Pairwise (· < ·) → (∀ x, x ∈ a ↔ x ∈ b) → a = b
  | [], [], _, _, _ => rfl
  | [], y :: b, _, _, h => by have := (h y).2 (by simp); simp at this
  | x :: a, [], _, _, h => by have := (h x).1 (by simp); simp at this
  | x :: a, y :: b, ha, hb, h => by
    rw [List.pairwise_cons] at ha hb
    have hxy : x = y := by
      have h1 := (h x).1 (by simp)
      have h2 := (h y).2 (by simp)
      rcases List.mem_cons.1 h1 with h1 | h1
      · exact h1
      · rcases List.mem_cons.1 h2 with h2 | h2
        · exact h2.symm
        · have := hb.1 x h1
          have := ha.1 y h2
          omega
    subst hxy
    congr 1
    refine incr_ext ha.2 hb.2 fun z => ?_
    have := h z
    constructor
    · intro hz
      rcases List.mem_cons.1 (this.1 (by simp [hz])) with e | e
      · have := ha.1 z hz; omega
      · exact e
    · intro hz
      rcases List.mem_cons.1 (this.2 (by simp [hz])) with e | e
      · have := hb.1 z hz; omega
      · exact e

/-- what is sorted increases, once compacted. -/
theorem compactUpTo_incr (d : Array Int) (hs : ∀ i j, i ≤ j → j < d.size → d[i]! ≤ d[j]!) : ∀ m, m ≤ d.size →
    (compactUpTo d m).Pairwise (· < ·) ∧ (∀ x ∈ compactUpTo d m, ∃ j, j < m ∧ d[j]! = x) ∧ (∀ j, j < m → d[j]! ∈ compactUpTo d m)
  | 0, _ => by simp [compactUpTo]
  | m + 1, hm => by
    obtain ⟨h1, h2, h3⟩ := compactUpTo_incr d hs m (by omega)
    rw [compactUpTo_succ]
    by_cases hk : keeps d m = true
    · rw [if_pos hk]
      refine ⟨?_, ?_, ?_⟩
      · rw [List.pairwise_append]
        refine ⟨h1, by simp, fun x hx y hy => ?_⟩
        obtain ⟨j, hj, rfl⟩ := h2 x hx
        rw [List.mem_singleton] at hy
        subst hy
        unfold keeps at hk
        simp only [decide_eq_true_eq] at hk
        have h0 : d[m]! ≠ d[m - 1]! := by rcases hk with hk | hk
                                          · omega
                                          · exact hk
        have ha := hs j (m - 1) (by omega) (by omega)
        have hb := hs (m - 1) m (by omega) (by omega)
        omega
      · intro x hx
        rcases List.mem_append.1 hx with hx | hx
        · obtain ⟨j, hj, e⟩ := h2 x hx; exact ⟨j, by omega, e⟩
        · rw [List.mem_singleton] at hx; exact ⟨m, by omega, hx.symm⟩
      · intro j hj
        by_cases e : j = m
        · subst e; simp
        · exact List.mem_append_left _ (h3 j (by omega))
    · rw [if_neg hk, List.append_nil]
      refine ⟨h1, fun x hx => ?_, fun j hj => ?_⟩
      · obtain ⟨j, hj, e⟩ := h2 x hx; exact ⟨j, by omega, e⟩
      · by_cases e : j = m
        · subst e
          unfold keeps at hk
          simp only [decide_eq_true_eq, not_or, ne_eq, Decidable.not_not] at hk
          rw [hk.2]
          exact h3 (j - 1) (by omega)
        · exact h3 j (by omega)

theorem compact_sort (l : List Int) (t : List Int) (ht : t.Pairwise (· < ·)) (hm : ∀ x, x ∈ t ↔ x ∈ l) : compact (l.mergeSort fun x y => decide (x ≤ y)) = t := by
  have hp := List.mergeSort_perm l (fun x y => decide (x ≤ y))
  have hs := List.pairwise_mergeSort (le := fun (x y : Int) => decide (x ≤ y)) (fun a b c h1 h2 => by simp at *; omega) (fun a b => by simp; omega) l
  generalize l.mergeSort (fun x y => decide (x ≤ y)) = s at *
  have hsz : s.toArray.size = s.length := by simp
  have key := compactUpTo_incr s.toArray (fun i j hij hj => by
    have hj' : j < s.length := by simpa using hj
    rw [getElem!_pos s.toArray i (by simp; omega), getElem!_pos s.toArray j (by simpa using hj')]
    simp only [List.getElem_toArray]
    by_cases e : i = j
    · subst e; exact Int.le_refl _
    · have := List.pairwise_iff_getElem.1 hs i j (by omega) hj' (by omega)
      simpa using this) s.length (by simp)
  unfold compact
  refine incr_ext key.1 ht fun x => ?_
  rw [hm, ← hp.mem_iff]
  constructor
  · intro hx
    obtain ⟨j, hj, e⟩ := key.2.1 x hx
    rw [getElem!_pos s.toArray j (by simpa using hj)] at e
    simp only [List.getElem_toArray] at e
    rw [← e]
    exact List.getElem_mem hj
  · intro hx
    obtain ⟨j, hj, e⟩ := List.getElem_of_mem hx
    have := key.2.2 j hj
    rw [getElem!_pos s.toArray j (by simpa using hj)] at this
    simp only [List.getElem_toArray] at this
    rwa [e] at this

theorem validG_edge {n : Nat} {es : List (Int × Int)} (h : validG n es = true) {e : Int × Int} (he : e ∈ es) : 0 ≤ e.1 ∧ e.1 < n ∧ 0 ≤ e.2 ∧ e.2 < n := by
  unfold validG at h
  simp only [Bool.and_eq_true, List.all_eq_true, decide_eq_true_eq] at h
  exact h.2 e he
theorem validG_n {n : Nat} {es : List (Int × Int)} (h : validG n es = true) : n ≤ 1024 ∧ es.length ≤ 4096 := by
  unfold validG at h
  simp only [Bool.and_eq_true, decide_eq_true_eq] at h
  exact h.1
/-- sorted and compacted, the ends are the successors. -/
theorem compact_raw {n : Nat} {es : List (Int × Int)} (h : validG n es = true) (i : Nat) : compact ((rawL es i).mergeSort fun x y => decide (x ≤ y)) = ((sucL n es i).map Int.ofNat) := by
  refine compact_sort _ _ ?_ fun x => ?_
  · rw [List.pairwise_map]
    exact (sucL_sorted n es i).imp fun h => Int.ofNat_lt.2 h
  · rw [mem_rawL, List.mem_map]
    constructor
    · rintro ⟨k, hk, rfl⟩
      exact (mem_sucL.1 hk).2
    · intro hx
      have := validG_edge h hx
      have e : ((x.toNat : Nat) : Int) = x := by omega
      refine ⟨x.toNat, mem_sucL.2 ⟨by omega, ?_⟩, e⟩
      rw [e]
      exact hx
end Go.Proofs.YtdhihdiifgcfdaaGreatDoor
