/- Graphs, plain: the nodes of each level, as the program does it. -/
import Derived.Test.YtlcgbkeggmaljaaGComp
namespace Go.Proofs.Ytlcgbkeggmaljaa
set_option linter.unusedVariables false
set_option linter.unusedSimpArgs false
open Go.RowKit

/-- a component's level: above each to which an edge leads. -/
def lvstep (c : Nat) (lv : List Int) (d : Nat) : List Int := lv.set c (max (gD lv c) (gD lv d + 1))
/-- empty levels, till there is the m-th. -/
def lvpad (out : List (List Nat)) (m : Nat) : List (List Nat) := out ++ List.replicate (m + 1 - out.length) []
def lvput (nd out : List (List Nat)) (m c : Nat) : List (List Nat) := (lvpad out m).set m ((lvpad out m).getD m [] ++ nd.getD c [])
def lvadd (S nd : List (List Nat)) (st : List Int × List (List Nat)) (c : Nat) : List Int × List (List Nat) :=
  ((S.getD c []).foldl (lvstep c) st.1, lvput nd st.2 (gD ((S.getD c []).foldl (lvstep c) st.1) c).toNat c)
def lvrun (S nd : List (List Nat)) (L : List Nat) : List Int × List (List Nat) := L.foldl (lvadd S nd) (List.replicate nd.length 0, [])
def sortN (r : List Nat) : List Nat := ((r.map fun n : Nat => (n : Int)).mergeSort fun x y => decide (x ≤ y)).map Int.toNat
def levelsG (N : Nat) (es : List (Int × Int)) : List (List Nat) := (lvrun (condG N es) (nodesG N es) (listF (condG N es))).2.map sortN
theorem sortN_cells (r : List Nat) : (sortN r).map natC = ((r.map fun n : Nat => (n : Int)).mergeSort fun x y => decide (x ≤ y)).map intC := by
  unfold sortN
  rw [List.map_map]
  apply List.map_congr_left
  intro x hx
  have h1 := (List.mergeSort_perm (r.map fun n : Nat => (n : Int)) fun x y => decide (x ≤ y)).subset hx
  obtain ⟨y, _, rfl⟩ := List.mem_map.1 h1
  rfl
theorem lvsteps_ok {c M B : Nat} (hc : c < M) : ∀ (l : List Nat) (lv : List Int) (m : Nat), lv.length = M → (∀ d ∈ l, d < M) → (∀ a, a < M → 0 ≤ gD lv a ∧ gD lv a ≤ (m : Int)) → l.length ≤ B →
    (l.foldl (lvstep c) lv).length = M ∧ ∀ a, a < M → 0 ≤ gD (l.foldl (lvstep c) lv) a ∧ gD (l.foldl (lvstep c) lv) a ≤ ((m + l.length : Nat) : Int)
  | [], lv, m, h1, _, h3, _ => ⟨h1, h3⟩
  | d :: l, lv, m, h1, h2, h3, hB => by
    have hd := h3 d (h2 d (by simp))
    have hcc := h3 c hc
    have := lvsteps_ok (B := B) hc l (lvstep c lv d) (m + 1) (by unfold lvstep; rw [List.length_set]; exact h1) (fun j hj => h2 j (by simp [hj])) (fun a ha => by
      unfold lvstep
      have := h3 a ha
      rw [gD_set']
      split <;> omega) (by simp at hB; omega)
    rw [List.foldl_cons, List.length_cons]
    refine ⟨this.1, fun a ha => ?_⟩
    have := this.2 a ha
    omega
theorem lvpad_len (out : List (List Nat)) (m : Nat) : (lvpad out m).length = max out.length (m + 1) := by
  unfold lvpad
  rw [List.length_append, List.length_replicate]
  omega
theorem lvpad_row (out : List (List Nat)) (m i : Nat) : (lvpad out m).getD i [] = out.getD i [] := by
  unfold lvpad
  rw [List.getD_eq_getElem?_getD, List.getD_eq_getElem?_getD, List.getElem?_append]
  split
  · rfl
  · rw [List.getElem?_replicate, List.getElem?_eq_none (by omega)]
    split <;> rfl
/-- what holds behind k components. -/
structure LInv (M R N k : Nat) (st : List Int × List (List Nat)) : Prop where
  len : st.1.length = M
  lv : ∀ a, a < M → 0 ≤ gD st.1 a ∧ gD st.1 a ≤ ((k * R : Nat) : Int)
  out : st.2.length ≤ k * R + 1
  row : ∀ i, (st.2.getD i []).length ≤ k * N
theorem LInv.add {M R N k : Nat} {st : List Int × List (List Nat)} {S nd : List (List Nat)} (h : LInv M R N k st) (c : Nat) (hc : c < M) (hS : ∀ a, ∀ j ∈ S.getD a [], j < M) (hR : ∀ a, (S.getD a []).length ≤ R) (hN : ∀ i, (nd.getD i []).length ≤ N) : LInv M R N (k + 1) (lvadd S nd st c) := by
  obtain ⟨h1, h2⟩ := lvsteps_ok (B := R) hc (S.getD c []) st.1 (k * R) h.len (hS c) h.lv (hR c)
  have hr := hR c
  have e1 : (k + 1) * R = k * R + R := Nat.succ_mul k R
  have e2 : (k + 1) * N = k * N + N := Nat.succ_mul k N
  unfold lvadd
  refine ⟨h1, fun a ha => ?_, ?_, fun i => ?_⟩
  · have t := h2 a ha
    refine ⟨t.1, ?_⟩
    rw [e1]
    exact Int.le_trans t.2 (by omega)
  · show (lvput _ _ _ _).length ≤ _
    unfold lvput
    rw [List.length_set, lvpad_len, e1]
    have := h2 c hc
    have := h.out
    omega
  · show ((lvput _ _ _ _).getD i []).length ≤ _
    unfold lvput
    rw [getD_set_row]
    split
    · rw [List.length_append, lvpad_row]
      have := h.row (gD ((S.getD c []).foldl (lvstep c) st.1) c).toNat
      have := hN c
      omega
    · rw [lvpad_row]
      have := h.row i
      omega
theorem lvrun_inv {M R N : Nat} {S nd : List (List Nat)} (hnd : nd.length = M) (hS : ∀ a, ∀ j ∈ S.getD a [], j < M) (hR : ∀ a, (S.getD a []).length ≤ R) (hN : ∀ i, (nd.getD i []).length ≤ N) (L : List Nat) (hL : ∀ c ∈ L, c < M) :
    ∀ k, k ≤ L.length → LInv M R N k (lvrun S nd (L.take k)) := by
  intro k
  induction k with
  | zero =>
    intro _
    have hg : ∀ a, a < M → gD (List.replicate nd.length (0 : Int)) a = 0 := fun a ha => by
      unfold gD
      rw [List.getD_eq_getElem?_getD, List.getElem?_replicate, if_pos (by omega)]
      rfl
    refine ⟨by simp [lvrun, hnd], fun a ha => ?_, by simp [lvrun], fun i => by simp [lvrun]⟩
    show 0 ≤ gD (List.replicate nd.length (0 : Int)) a ∧ gD (List.replicate nd.length (0 : Int)) a ≤ _
    rw [hg a ha]
    omega
  | succ k ih =>
    intro hk
    have e : lvrun S nd (L.take (k + 1)) = lvadd S nd (lvrun S nd (L.take k)) L[k] := by
      unfold lvrun
      rw [List.take_succ_eq_append_getElem (by omega), List.foldl_append]
      rfl
    rw [e]
    exact (ih (by omega)).add _ (hL _ (List.getElem_mem _)) hS hR hN
theorem crun_pos {co : List Int} {ct N : Nat} (hco : ∀ n, n < N → 0 ≤ gD co n ∧ gD co n < (ct : Int)) : ∀ k, k ≤ N → ∀ i, i < (crun co ct k).2.length → 0 < ((crun co ct k).2.getD i []).length
  | 0, _, i, hi => by simp [crun] at hi
  | k + 1, hk, i, hi => by
    have h := crun_inv hco k (by omega)
    have ih := crun_pos hco k (by omega)
    have hp := h.put (gD co k).toNat (by have := hco k (by omega); omega)
    rw [crun_succ] at hi ⊢
    unfold cstepN crow at hi ⊢
    simp only [List.length_set] at hi
    show 0 < ((List.set _ _ _).getD i []).length
    rw [getD_set_row]
    split
    · rw [List.length_append, List.length_singleton]; omega
    · rename_i hne
      have hni : i ≠ (gD (cput (crun co ct k) (gD co k).toNat).1 (gD co k).toNat).toNat := fun e => hne ⟨e, by omega⟩
      have hcl : (gD co k).toNat < ct := by have := hco k (by omega); omega
      generalize (gD co k).toNat = c at *
      unfold cput at hi hni ⊢
      split
      · rename_i hlt
        rw [if_pos hlt] at hi hni
        simp only at hi hni ⊢
        rw [gD_set', if_pos ⟨rfl, by have h9 := h.len; omega⟩] at hni
        have hi2 : i < (crun co ct k).2.length := by simp at hi; omega
        have := ih i hi2
        rw [List.getD_eq_getElem?_getD, List.getElem?_append_left hi2]
        rwa [List.getD_eq_getElem?_getD] at this
      · rename_i hlt
        rw [if_neg hlt] at hi
        exact ih i hi
end Go.Proofs.Ytlcgbkeggmaljaa
