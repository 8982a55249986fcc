/- Plain facts: the path of the line of a path. -/
import Derived.Test.YtbpgbbdebhmlkaaDoorVPlainBack
namespace Go.Proofs.YtbpgbbdebhmlkaaDoor
open Go

theorem val_eq : ∀ (l : List UInt8) (n : Nat) (m : Int), (m = n) → (∀ b ∈ l, dgB b = true) → l.foldl (fun (n : Int) b => 10 * n + ((b.toNat : Int) - 48)) m = (valF n l : Int)
  | [], n, m, h, _ => by rw [h]; rfl
  | b :: r, n, m, h, hd => by
    have hb := dg_nat (hd b (by simp))
    have e : valF n (b :: r) = valF (n * 10 + (b.toNat - 48)) r := rfl
    rw [e, List.foldl_cons]
    exact val_eq r _ _ (by rw [h]; omega) (fun x hx => hd x (by simp [hx]))
/-- the tail of a right version segment is a right part. -/
theorem okR_word (t : List UInt8) (h : okR ⟨t.toArray⟩ = true) : wordOk t = true ∧ valL t = (wordV t : Int) := by
  unfold okR at h
  have hs : (⟨t.toArray⟩ : ByteArray).size = t.length := by rw [Lib.size_eq]
  rw [hs] at h
  simp only [Bool.and_eq_true, decide_eq_true_eq] at h
  obtain ⟨h1, h2, h3, h4⟩ := h
  have hd : ∀ b ∈ t, dgB b = true := fun b hb => by
    unfold allZ at h4
    have := List.all_eq_true.1 h4 b hb
    unfold digitZ at this
    unfold dgB
    simp only [Bool.and_eq_true, decide_eq_true_eq] at this ⊢
    omega
  refine ⟨?_, val_eq t 0 0 rfl hd⟩
  unfold wordOk
  have hne : t ≠ [] := fun e => by rw [e] at h1; simp at h1
  have ha : t.all dgB = true := List.all_eq_true.2 hd
  rw [decide_eq_true hne, decide_eq_true h2, ha]
  simp only [Bool.true_and]
  cases t with
  | nil => exact absurd rfl hne
  | cons b r =>
    rw [headZ_cons _ b r rfl] at h3
    by_cases hl : 1 < (b :: r).length
    · have h5 : ¬ b.toNat = 48 := by
        intro e
        rw [decide_eq_true hl, e] at h3
        exact absurd h3 (by decide)
      have h6 : b ≠ 48 := fun e => h5 (by rw [e]; rfl)
      simp [h6]
    · rw [decide_eq_false hl]; rfl
theorem segsL_tail (a b : List UInt8) (h : ∀ x ∈ b, x ≠ 47) : segsL (a ++ 47 :: b) = segsL a ++ [b] := by
  induction a with
  | nil => rw [List.nil_append, segsL_slash, segsL_one b h]; rfl
  | cons c r ih =>
    by_cases hc : c = 47
    · subst hc; rw [List.cons_append, segsL_slash, segsL_slash, ih]; rfl
    · cases e : segsL r with
      | nil => exact absurd e (segsL_ne r)
      | cons x t => rw [List.cons_append, segsL_other c _ x (t ++ [b]) hc (by rw [ih, e]; rfl), segsL_other c r x t hc e]; rfl
/-- the path of the line of a path is this path. -/
theorem path_line (s : ByteArray) (h : pathOk s = true) : pathV (lineV s).1 (lineV s).2.1 = (s, 0) := by
  obtain ⟨i, hi1, hi2, hi3, hi4⟩ := slash_path s h
  have hl : lineV s = (s.extract 0 i, majN s, 0) := by unfold lineV; rw [h, hi1]; rfl
  rw [hl]
  have hil : i < s.data.toList.length := by rw [← Lib.size_eq]; exact hi2
  have hsplit : s.data.toList = s.data.toList.take i ++ 47 :: s.data.toList.drop (i + 1) := by
    have h47 : s.data.toList[i] = 47 := by rw [List.getElem?_eq_getElem hil] at hi3; exact Option.some.inj hi3
    rw [← h47, List.getElem_cons_drop, List.take_append_drop]
  obtain ⟨b, hb⟩ : ∃ b, s.data.toList.drop (i + 1) = b := ⟨_, rfl⟩
  rw [hb] at hsplit
  have hb47 : ∀ x ∈ b, x ≠ 47 := fun x hx e => by
    subst e
    obtain ⟨j, hj, he⟩ := List.getElem_of_mem hx
    refine hi4 (i + 1 + j) (by omega) ?_
    rw [← List.getElem?_drop, hb, List.getElem?_eq_getElem hj, he]
  have hlast : lastB s = ⟨b.toArray⟩ := by
    unfold lastB segB
    rw [hsplit, segsL_tail _ _ hb47]
    simp
  have hv : verOk (lastB s) = true := by
    unfold pathOk at h
    simp only [Bool.and_eq_true] at h
    exact h.2.2.1
  have hm : majN s = valL (b.drop 1) := by
    unfold majN verN
    rw [h, hv, hlast]; rfl
  rw [hlast] at hv
  unfold verOk at hv
  simp only [Bool.and_eq_true, beq_iff_eq] at hv
  obtain ⟨hv1, hv2⟩ := hv
  cases b with
  | nil => rw [headZ_nil _ rfl] at hv1; exact absurd hv1 (by decide)
  | cons c t =>
    rw [headZ_cons _ c t rfl] at hv1
    have hc : c = 118 := UInt8.toNat_inj.1 (by have : (118 : UInt8).toNat = 118 := rfl; omega)
    subst hc
    have ht : okR ⟨t.toArray⟩ = true := hv2
    obtain ⟨w1, w2⟩ := okR_word t ht
    have hmm : majN s = (wordV t : Int) := by rw [hm]; exact w2
    have hB : pathB (s.extract 0 i) (majN s) = s := ba_ext (by
      unfold pathB
      rw [hmm, dec_word t w1, ByteArray.data_append, ByteArray.data_append, Array.toList_append, Array.toList_append, Lib.extract_data]
      conv => rhs; rw [hsplit]
      simp)
    have hr := wordV_le t w1
    unfold pathV
    rw [hB, if_pos (by rw [hmm]; unfold partB; simp; omega), if_pos h]
end Go.Proofs.YtbpgbbdebhmlkaaDoor
