/- Plain facts on the reference's reader of a number. -/
import Derived.Test.YtbpgbbdebhmlkaaDoorVPlainParse
namespace Go.Proofs.YtbpgbbdebhmlkaaDoor
open Go

/-- the beginning of a part that is right so far. -/
def AccW (l : List UInt8) : Prop := l.all dgB = true ∧ l.length ≤ 3 ∧ ¬ (1 < l.length ∧ l.head? = some 48)
theorem wordOk_iff (l : List UInt8) : wordOk l = true ↔ l ≠ [] ∧ AccW l := by
  unfold wordOk AccW
  simp only [Bool.and_eq_true, decide_eq_true_eq, Bool.not_eq_true', Bool.and_eq_false_iff, decide_eq_false_iff_not]
  constructor
  · rintro ⟨h1, h2, h3, h4⟩
    exact ⟨h1, h3, h2, fun ⟨h5, h6⟩ => by rcases h4 with h4 | h4 <;> contradiction⟩
  · rintro ⟨h1, h3, h2, h4⟩
    refine ⟨h1, h2, h3, ?_⟩
    by_cases h5 : 1 < l.length
    · exact .inr (fun h6 => h4 ⟨h5, h6⟩)
    · exact .inl h5
theorem valF_ge : ∀ (l : List UInt8) (n : Nat), n ≤ valF n l
  | [], n => Nat.le_refl _
  | b :: r, n => by
    have := valF_ge r (n * 10 + (b.toNat - 48))
    have e : valF n (b :: r) = valF (n * 10 + (b.toNat - 48)) r := rfl
    omega
theorem valF_snoc (l : List UInt8) (n : Nat) (c : UInt8) : valF n (l ++ [c]) = valF n l * 10 + (c.toNat - 48) := by
  unfold valF; rw [List.foldl_append]; rfl
/-- a part whose number is nought begins with it. -/
theorem zero_head (l : List UInt8) (h : l ≠ []) (ha : l.all dgB = true) (hz : wordV l = 0) : l.head? = some 48 := by
  cases l with
  | nil => exact absurd rfl h
  | cons b r =>
    have := valF_ge r (0 * 10 + (b.toNat - 48))
    have e : wordV (b :: r) = valF (0 * 10 + (b.toNat - 48)) r := rfl
    have hb : dgB b = true := List.all_eq_true.1 ha b (by simp)
    unfold dgB at hb
    simp only [decide_eq_true_eq] at hb
    have : b = 48 := UInt8.toNat_inj.1 (by have : (48 : UInt8).toNat = 48 := rfl; omega)
    rw [this]; rfl
theorem acc_nil : AccW [] := ⟨rfl, by simp, by simp⟩
/-- a digit more. -/
theorem acc_snoc (l : List UInt8) (c : UInt8) (h : AccW l) (hc : dgB c = true) (h3 : l.length < 3) (hz : l = [] ∨ wordV l ≠ 0) : AccW (l ++ [c]) := by
  obtain ⟨h1, h2, h4⟩ := h
  refine ⟨by simp [h1, hc], by simp; omega, fun ⟨_, h5⟩ => ?_⟩
  rcases hz with rfl | hz
  · simp at *
  · cases l with
    | nil => exact hz rfl
    | cons b r =>
      have hb : b = 48 := by simpa using h5
      subst hb
      cases r with
      | nil => exact hz rfl
      | cons d r => exact h4 ⟨by simp, rfl⟩
/-- what follows a wrong beginning is wrong. -/
theorem bad_char (l : List UInt8) (c : UInt8) (r : List UInt8) (h : dgB c = false) : wordOk (l ++ c :: r) = false := by
  cases h2 : wordOk (l ++ c :: r) with
  | false => rfl
  | true =>
    have := ((wordOk_iff _).1 h2).2.1
    rw [List.all_append, List.all_cons, h] at this
    simp at this
theorem bad_long (l : List UInt8) (c : UInt8) (r : List UInt8) (h : l.length = 3) : wordOk (l ++ c :: r) = false := by
  cases h2 : wordOk (l ++ c :: r) with
  | false => rfl
  | true =>
    have := ((wordOk_iff _).1 h2).2.2.1
    simp at this; omega
theorem bad_zero (l : List UInt8) (c : UInt8) (r : List UInt8) (h : l ≠ []) (ha : l.all dgB = true) (hz : wordV l = 0) : wordOk (l ++ c :: r) = false := by
  cases h2 : wordOk (l ++ c :: r) with
  | false => rfl
  | true =>
    have h3 := ((wordOk_iff _).1 h2).2.2.2
    exfalso
    refine h3 ⟨?_, ?_⟩
    · have := List.length_pos_iff.2 h; simp; omega
    · have h4 := zero_head l h ha hz
      cases l with
      | nil => exact absurd rfl h
      | cons b r => simpa using h4
theorem wordOk_nil : wordOk [] = false := by decide
/-- a wrong part. -/
theorem parse_bad (s : List UInt8) (x : List UInt8) (hx : x ∈ dotsL s) (h : wordOk x = false) : parseV s = ((0, 0, 0), 3) := by
  unfold parseV
  split
  · rename_i a b c e
    rw [e] at hx
    rw [if_neg]
    intro h2
    simp only [Bool.and_eq_true] at h2
    simp only [List.mem_cons, List.not_mem_nil, or_false] at hx
    rcases hx with rfl | rfl | rfl
    · rw [h] at h2; exact absurd h2.1 (by simp)
    · rw [h] at h2; exact absurd h2.2.1 (by simp)
    · rw [h] at h2; exact absurd h2.2.2 (by simp)
  · rfl
/-- right parts, but not three of them. -/
theorem parse_len (s : List UInt8) (h : (dotsL s).length ≠ 3) : parseV s = ((0, 0, 0), 3) := by
  unfold parseV
  split
  · rename_i a b c e
    rw [e] at h
    exact absurd rfl h
  · rfl
theorem parse_ok (s : List UInt8) (a b c : List UInt8) (e : dotsL s = [a, b, c]) (h : ∀ x ∈ dotsL s, wordOk x = true) : parseV s = (((wordV a : Int), (wordV b : Int), (wordV c : Int)), 0) := by
  unfold parseV
  rw [e] at h ⊢
  simp only
  rw [if_pos (by simp [h a (by simp), h b (by simp), h c (by simp)])]
end Go.Proofs.YtbpgbbdebhmlkaaDoor
