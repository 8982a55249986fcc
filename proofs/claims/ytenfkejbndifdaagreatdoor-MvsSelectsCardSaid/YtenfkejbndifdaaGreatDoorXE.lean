/- Insertion into a sorted list of spans, plain. -/
import Derived.Test.YtenfkejbndifdaaGreatDoorWA
namespace Go.Proofs.YtenfkejbndifdaaGreatDoor
set_option linter.unusedVariables false
set_option linter.unusedSimpArgs false

def backK (l : List (Int × Int)) (a : Int) : Nat → Nat
  | 0 => 0
  | k + 1 => if a < (l.getD k (0, 0)).1 then backK l a k else k + 1
def insS (l : List (Int × Int)) (x : Int × Int) : List (Int × Int) := l.take (backK l x.1 l.length) ++ ([x] ++ l.drop (backK l x.1 l.length))
def insAll (l : List (Int × Int)) : List (Int × Int) := l.foldl insS []
theorem insAll_snoc (l : List (Int × Int)) (x : Int × Int) : insAll (l ++ [x]) = insS (insAll l) x := by
  unfold insAll
  rw [List.foldl_append]
  rfl
theorem backK_le (l : List (Int × Int)) (a : Int) : ∀ k, backK l a k ≤ k
  | 0 => Nat.le_refl _
  | k + 1 => by
    have := backK_le l a k
    unfold backK
    split <;> omega
theorem backK_above (l : List (Int × Int)) (a : Int) : ∀ k i, backK l a k ≤ i → i < k → a < (l.getD i (0, 0)).1
  | 0, i, _, h => by omega
  | k + 1, i, h1, h2 => by
    unfold backK at h1
    split at h1
    · rename_i hc
      rcases Nat.lt_or_ge i k with h | h
      · exact backK_above l a k i h1 h
      · obtain rfl : i = k := by omega
        exact hc
    · omega
theorem backK_at (l : List (Int × Int)) (a : Int) : ∀ k j, backK l a k = j + 1 → (l.getD j (0, 0)).1 ≤ a
  | 0, j, h => by cases h
  | k + 1, j, h => by
    unfold backK at h
    split at h
    · exact backK_at l a k j h
    · rename_i hc
      obtain rfl : k = j := by omega
      omega
theorem insS_perm (l : List (Int × Int)) (x : Int × Int) : (insS l x).Perm (l ++ [x]) := by
  unfold insS
  generalize backK l x.1 l.length = k
  have h1 : ([x] ++ l.drop k).Perm (l.drop k ++ [x]) := List.perm_append_comm
  have h2 := h1.append_left (l.take k)
  have e : l.take k ++ (l.drop k ++ [x]) = l ++ [x] := by rw [← List.append_assoc, List.take_append_drop]
  rwa [e] at h2
theorem insS_len (l : List (Int × Int)) (x : Int × Int) : (insS l x).length = l.length + 1 := by
  have := (insS_perm l x).length_eq
  simpa using this
theorem insS_sorted (l : List (Int × Int)) (x : Int × Int) (h : l.Pairwise (fun a b => a.1 ≤ b.1)) : (insS l x).Pairwise (fun a b => a.1 ≤ b.1) := by
  have ha := backK_above l x.1 l.length
  have hat := backK_at l x.1 l.length
  have hle := backK_le l x.1 l.length
  unfold insS
  generalize backK l x.1 l.length = k at *
  have hg : ∀ i (hi : i < l.length), l.getD i (0, 0) = l[i] := fun i hi => by simp [hi]
  have hd : ∀ b ∈ l.drop k, x.1 ≤ b.1 := fun b hb => by
    obtain ⟨i, hi, rfl⟩ := List.getElem_of_mem hb
    have hi2 : k + i < l.length := by rw [List.length_drop] at hi; omega
    have := ha (k + i) (by omega) hi2
    rw [hg _ hi2] at this
    rw [List.getElem_drop]
    omega
  have ht : ∀ a ∈ l.take k, a.1 ≤ x.1 := fun a hm => by
    obtain ⟨i, hi, rfl⟩ := List.getElem_of_mem hm
    rw [List.length_take] at hi
    rw [List.getElem_take]
    obtain ⟨k', rfl⟩ : ∃ k', k = k' + 1 := ⟨k - 1, by omega⟩
    have h2 := hat k' rfl
    rw [hg k' (by omega)] at h2
    rcases Nat.lt_or_ge i k' with h3 | h3
    · have := List.pairwise_iff_getElem.1 h i k' (by omega) (by omega) h3
      omega
    · obtain rfl : i = k' := by omega
      exact h2
  refine List.pairwise_append.2 ⟨h.sublist (List.take_sublist _ _), ?_, fun a hm b hb => ?_⟩
  · rw [List.singleton_append, List.pairwise_cons]
    exact ⟨hd, h.sublist (List.drop_sublist _ _)⟩
  · rw [List.singleton_append] at hb
    rcases List.mem_cons.1 hb with rfl | hb
    · exact ht a hm
    · have := ht a hm
      have := hd b hb
      omega
theorem foldl_ins : ∀ (l acc : List (Int × Int)), acc.Pairwise (fun a b => a.1 ≤ b.1) → (l.foldl insS acc).Perm (acc ++ l) ∧ (l.foldl insS acc).Pairwise (fun a b => a.1 ≤ b.1)
  | [], acc, h => ⟨by simp, h⟩
  | x :: l, acc, h => by
    obtain ⟨h1, h2⟩ := foldl_ins l (insS acc x) (insS_sorted acc x h)
    refine ⟨h1.trans ?_, h2⟩
    have := (insS_perm acc x).append_right l
    simpa using this
theorem insAll_perm (l : List (Int × Int)) : (insAll l).Perm l := by
  have := (foldl_ins l [] List.Pairwise.nil).1
  rwa [List.nil_append] at this
theorem insAll_sorted (l : List (Int × Int)) : (insAll l).Pairwise (fun a b => a.1 ≤ b.1) := (foldl_ins l [] List.Pairwise.nil).2
theorem insAll_len (l : List (Int × Int)) : (insAll l).length = l.length := (insAll_perm l).length_eq
theorem ins_canon (s : List (Int × Int)) : mergeS (insAll (clampS s)) = canon s := merge_canon (insAll_perm _) (insAll_sorted _)
theorem clamp_snoc (l : List (Int × Int)) (x : Int × Int) : clampS (l ++ [x]) = if (clamp x).1 < (clamp x).2 then clampS l ++ [clamp x] else clampS l := by
  unfold clampS
  rw [List.map_append, List.filter_append]
  by_cases h : (clamp x).1 < (clamp x).2 <;> simp [h]
theorem mergeS_take (l : List (Int × Int)) (x : Int × Int) : mergeS (l ++ [x]) = joinS (mergeS l) x := by
  unfold mergeS
  rw [List.foldl_append]
  rfl
end Go.Proofs.YtenfkejbndifdaaGreatDoor
