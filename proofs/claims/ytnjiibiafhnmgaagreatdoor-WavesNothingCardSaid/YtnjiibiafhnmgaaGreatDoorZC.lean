/- Graphs, plain: the components as lists of nodes, and their edges, as the program does it. -/
import Derived.Test.YtnjiibiafhnmgaaGreatDoorYY
namespace Go.Proofs.YtnjiibiafhnmgaaGreatDoor
set_option linter.unusedVariables false
set_option linter.unusedSimpArgs false

def cput (st : List Int × List (List Nat)) (c : Nat) : List Int × List (List Nat) := if gD st.1 c < 0 then (st.1.set c (st.2.length : Int), st.2 ++ [[]]) else st
def crow (st : List Int × List (List Nat)) (c n : Nat) : List Int × List (List Nat) := (st.1, st.2.set (gD st.1 c).toNat (st.2.getD (gD st.1 c).toNat [] ++ [n]))
def cstepN (co : List Int) (st : List Int × List (List Nat)) (n : Nat) : List Int × List (List Nat) := crow (cput st (gD co n).toNat) (gD co n).toNat n
def crun (co : List Int) (ct k : Nat) : List Int × List (List Nat) := (List.range k).foldl (cstepN co) (List.replicate ct (-1), [])
theorem crun_succ (co : List Int) (ct k : Nat) : crun co ct (k + 1) = cstepN co (crun co ct k) k := by
  unfold crun
  rw [List.range_succ, List.foldl_append]
  rfl
structure CInv (co : List Int) (ct k : Nat) (st : List Int × List (List Nat)) : Prop where
  len : st.1.length = ct
  lo : ∀ c, -1 ≤ gD st.1 c
  hi : ∀ c, gD st.1 c < (st.2.length : Int)
  few : st.2.length ≤ k
  row : ∀ i, (st.2.getD i []).length ≤ k
  old : ∀ n, n < k → 0 ≤ gD st.1 (gD co n).toNat
theorem gD_set' (d : List Int) (k : Nat) (x : Int) (a : Nat) : gD (d.set k x) a = if a = k ∧ k < d.length then x else gD d a := by
  by_cases hk : k < d.length
  · rw [gD_set d k x a hk]
    by_cases e : a = k
    · rw [if_pos e, if_pos ⟨e, hk⟩]
    · rw [if_neg e, if_neg (fun h => e h.1)]
  · rw [if_neg (fun h => hk h.2), List.set_eq_of_length_le (by omega)]
theorem getD_set_row (L : List (List Nat)) (i j : Nat) (r : List Nat) : (L.set i r).getD j [] = if j = i ∧ i < L.length then r else L.getD j [] := by
  rw [List.getD_eq_getElem?_getD, List.getD_eq_getElem?_getD, List.getElem?_set]
  by_cases e : i = j
  · subst e
    by_cases h : i < L.length
    · simp [h]
    · simp [h]
  · rw [if_neg e, if_neg (fun h => e h.1.symm)]
theorem CInv.put {co : List Int} {ct k : Nat} {st : List Int × List (List Nat)} (h : CInv co ct k st) (c : Nat) (hc : c < ct) : (cput st c).1.length = ct ∧ (∀ a, -1 ≤ gD (cput st c).1 a) ∧ (∀ a, gD (cput st c).1 a < ((cput st c).2.length : Int)) ∧ (cput st c).2.length ≤ k + 1 ∧ (∀ i, ((cput st c).2.getD i []).length ≤ k) ∧ 0 ≤ gD (cput st c).1 c ∧ ∀ n, n < k → 0 ≤ gD (cput st c).1 (gD co n).toNat := by
  unfold cput
  by_cases hlt : gD st.1 c < 0
  · rw [if_pos hlt]
    refine ⟨by simp [h.len], fun a => ?_, fun a => ?_, by simp; exact h.few, fun i => ?_, ?_, fun n hn => ?_⟩
    · show -1 ≤ gD (st.1.set c _) a
      rw [gD_set']; split
      · omega
      · exact h.lo a
    · show gD (st.1.set c _) a < ((st.2 ++ [[]]).length : Int)
      have := h.hi a
      rw [gD_set', List.length_append, List.length_singleton]; split <;> omega
    · show ((st.2 ++ [[]]).getD i []).length ≤ k
      rw [List.getD_eq_getElem?_getD, List.getElem?_append]
      split
      · have := h.row i
        rwa [List.getD_eq_getElem?_getD] at this
      · cases e : [([] : List Nat)][i - st.2.length]? with
        | none => simp
        | some r => have := List.mem_of_getElem? e; simp at this; simp [this]
    · show 0 ≤ gD (st.1.set c _) c
      rw [gD_set', if_pos ⟨rfl, by rw [h.len]; exact hc⟩]; omega
    · show 0 ≤ gD (st.1.set c _) _
      have := h.old n hn
      rw [gD_set']; split <;> omega
  · rw [if_neg hlt]
    exact ⟨h.len, h.lo, h.hi, by have := h.few; omega, h.row, by omega, h.old⟩
theorem CInv.step {co : List Int} {ct k : Nat} {st : List Int × List (List Nat)} (h : CInv co ct k st) (hc0 : 0 ≤ gD co k) (hc : gD co k < (ct : Int)) : CInv co ct (k + 1) (cstepN co st k) := by
  obtain ⟨h1, h2, h3, h4, h5, h6, h7⟩ := h.put (gD co k).toNat (by omega)
  unfold cstepN
  generalize cput st (gD co k).toNat = s1 at *
  refine ⟨h1, h2, fun a => ?_, by show (List.set _ _ _).length ≤ k + 1; rw [List.length_set]; exact h4, fun i => ?_, fun n hn => ?_⟩
  · show gD s1.1 a < ((List.set s1.2 _ _).length : Int)
    rw [List.length_set]; exact h3 a
  · show ((List.set s1.2 _ _).getD i []).length ≤ k + 1
    rw [getD_set_row]
    split
    · rw [List.length_append, List.length_singleton]
      have := h5 (gD s1.1 (gD co k).toNat).toNat
      omega
    · have := h5 i; omega
  · show 0 ≤ gD s1.1 _
    by_cases e : n = k
    · subst e; exact h6
    · exact h7 n (by omega)
theorem crun_inv {co : List Int} {ct N : Nat} (hco : ∀ n, n < N → 0 ≤ gD co n ∧ gD co n < (ct : Int)) : ∀ k, k ≤ N → CInv co ct k (crun co ct k)
  | 0, _ => by
    have hg : ∀ c, gD (List.replicate ct (-1 : Int)) c = -1 := fun c => by
      unfold gD
      rw [List.getD_eq_getElem?_getD, List.getElem?_replicate]
      split <;> rfl
    refine ⟨by simp [crun], fun c => by show -1 ≤ gD (List.replicate ct (-1)) c; rw [hg]; omega, fun c => by show gD (List.replicate ct (-1)) c < _; rw [hg]; simp [crun], by simp [crun], fun i => by simp [crun], fun n hn => by omega⟩
  | k + 1, h => by
    rw [crun_succ]
    exact (crun_inv hco k (by omega)).step (hco k (by omega)).1 (hco k (by omega)).2

def cedge (co pl : List Int) (n : Nat) (out : List (List Nat)) (k : Nat) : List (List Nat) :=
  if gD co k = gD co n then out else out.set (gD pl (gD co n).toNat).toNat (out.getD (gD pl (gD co n).toNat).toNat [] ++ [(gD pl (gD co k).toNat).toNat])
def couts (co pl : List Int) (S : List (List Nat)) (M k : Nat) : List (List Nat) := (List.range k).foldl (fun out n => (S.getD n []).foldl (cedge co pl n) out) (List.replicate M [])
theorem couts_succ (co pl : List Int) (S : List (List Nat)) (M k : Nat) : couts co pl S M (k + 1) = (S.getD k []).foldl (cedge co pl k) (couts co pl S M k) := by
  unfold couts
  rw [List.range_succ, List.foldl_append]
  rfl
theorem cedge_len {co pl : List Int} {n : Nat} {m : Nat} {out : List (List Nat)} (h : ∀ i, (out.getD i []).length ≤ m) (k : Nat) : (cedge co pl n out k).length = out.length ∧ ∀ i, ((cedge co pl n out k).getD i []).length ≤ m + 1 := by
  unfold cedge
  split
  · exact ⟨rfl, fun i => by have := h i; omega⟩
  · refine ⟨by simp, fun i => ?_⟩
    rw [getD_set_row]
    split
    · rw [List.length_append, List.length_singleton]; have := h (gD pl (gD co n).toNat).toNat; omega
    · have := h i; omega
theorem cedges_len {co pl : List Int} {n : Nat} : ∀ (l : List Nat) {m : Nat} {out : List (List Nat)}, (∀ i, (out.getD i []).length ≤ m) → (l.foldl (cedge co pl n) out).length = out.length ∧ ∀ i, ((l.foldl (cedge co pl n) out).getD i []).length ≤ m + l.length
  | [], m, out, h => ⟨rfl, h⟩
  | k :: l, m, out, h => by
    obtain ⟨h1, h2⟩ := cedge_len (co := co) (pl := pl) (n := n) h k
    obtain ⟨h3, h4⟩ := cedges_len (co := co) (pl := pl) (n := n) l h2
    exact ⟨h3.trans h1, fun i => by have := h4 i; simp only [List.length_cons, List.foldl_cons] at *; omega⟩
theorem couts_len {co pl : List Int} {S : List (List Nat)} {M R : Nat} (hS : ∀ a, (S.getD a []).length ≤ R) : ∀ k, (couts co pl S M k).length = M ∧ ∀ i, ((couts co pl S M k).getD i []).length ≤ k * R
  | 0 => by
    refine ⟨by simp [couts], fun i => ?_⟩
    show ((List.replicate M []).getD i []).length ≤ _
    rw [List.getD_eq_getElem?_getD, List.getElem?_replicate]
    split <;> simp
  | k + 1 => by
    obtain ⟨h1, h2⟩ := couts_len (co := co) (pl := pl) (M := M) hS k
    obtain ⟨h3, h4⟩ := cedges_len (co := co) (pl := pl) (n := k) (S.getD k []) h2
    rw [couts_succ]
    refine ⟨h3.trans h1, fun i => ?_⟩
    have := h4 i
    have := hS k
    rw [Nat.add_mul]
    omega
end Go.Proofs.YtnjiibiafhnmgaaGreatDoor
