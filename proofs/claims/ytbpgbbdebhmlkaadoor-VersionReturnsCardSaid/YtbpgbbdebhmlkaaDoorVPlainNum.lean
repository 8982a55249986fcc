/- Plain facts on numbers: their order, and what is permitted. -/
import Derived.Test.YtbpgbbdebhmlkaaDoorVClaims
namespace Go.Proofs.YtbpgbbdebhmlkaaDoor
open Go

theorem cmpI_cases (a b : Int) : (a < b ∧ cmpI a b = -1) ∨ (a = b ∧ cmpI a b = 0) ∨ (b < a ∧ cmpI a b = 1) := by
  unfold cmpI
  rcases Int.lt_trichotomy a b with h | h | h
  · exact .inl ⟨h, by rw [if_pos h]⟩
  · exact .inr (.inl ⟨h, by rw [if_neg (by omega), if_neg (by omega)]⟩)
  · exact .inr (.inr ⟨h, by rw [if_neg (by omega), if_pos h]⟩)
/-- the order of numbers. -/
theorem cmpV_cases (a b c x y z : Int) :
    (cmpV a b c x y z = -1 ∧ (a < x ∨ (a = x ∧ (b < y ∨ (b = y ∧ c < z))))) ∨ (cmpV a b c x y z = 0 ∧ a = x ∧ b = y ∧ c = z) ∨
    (cmpV a b c x y z = 1 ∧ (x < a ∨ (a = x ∧ (y < b ∨ (b = y ∧ z < c))))) := by
  unfold cmpV
  rcases cmpI_cases a x with ⟨h1, e1⟩ | ⟨h1, e1⟩ | ⟨h1, e1⟩ <;> rw [e1]
  · exact .inl ⟨by simp, .inl h1⟩
  · rw [if_neg (by simp)]
    rcases cmpI_cases b y with ⟨h2, e2⟩ | ⟨h2, e2⟩ | ⟨h2, e2⟩ <;> rw [e2]
    · exact .inl ⟨by simp, .inr ⟨h1, .inl h2⟩⟩
    · rw [if_neg (by simp)]
      rcases cmpI_cases c z with ⟨h3, e3⟩ | ⟨h3, e3⟩ | ⟨h3, e3⟩ <;> rw [e3]
      · exact .inl ⟨rfl, .inr ⟨h1, .inr ⟨h2, h3⟩⟩⟩
      · exact .inr (.inl ⟨rfl, h1, h2, h3⟩)
      · exact .inr (.inr ⟨rfl, .inr ⟨h1, .inr ⟨h2, h3⟩⟩⟩)
    · exact .inr (.inr ⟨by simp, .inr ⟨h1, .inl h2⟩⟩)
  · exact .inr (.inr ⟨by simp, .inl h1⟩)
theorem valid_iff (a b c : Int) : validB a b c = true ↔ (0 ≤ a ∧ a ≤ 999) ∧ (0 ≤ b ∧ b ≤ 999) ∧ 0 ≤ c ∧ c ≤ 999 := by
  unfold validB partB; simp
theorem known_iff (l : Int) : knownB l = true ↔ 0 ≤ l ∧ l ≤ 2 := by unfold knownB; simp
/-- behind another number. -/
def Gt (x y z a b c : Int) : Prop := a < x ∨ (x = a ∧ (b < y ∨ (y = b ∧ c < z)))
theorem claims_ok (a b c x y z : Int) (hv : validB a b c = true) (hu : validB x y z = true) (hg : Gt x y z a b c) : claimsV a b c x y z = (if a ≠ x then 2 else if b ≠ y then 1 else 0, 0) := by
  have hc : ¬ cmpV x y z a b c ≤ 0 := by
    unfold Gt at hg
    rcases cmpV_cases x y z a b c with ⟨e, h⟩ | ⟨e, h⟩ | ⟨e, h⟩ <;> rw [e] <;> omega
  unfold claimsV
  rw [if_neg (by simp [hv, hu]; omega)]
  split <;> simp
  split <;> simp
theorem claims_no (a b c x y z : Int) (h : ¬ (validB a b c = true ∧ validB x y z = true ∧ Gt x y z a b c)) : claimsV a b c x y z = (0, 1) := by
  unfold claimsV
  rw [if_pos ?_]
  by_cases hv : validB a b c = true
  · by_cases hu : validB x y z = true
    · refine .inr (.inr ?_)
      have hg : ¬ Gt x y z a b c := fun hg => h ⟨hv, hu, hg⟩
      unfold Gt at hg
      rcases cmpV_cases x y z a b c with ⟨e, h⟩ | ⟨e, h⟩ | ⟨e, h⟩ <;> rw [e] <;> omega
    · exact .inr (.inl (by simpa using hu))
  · exact .inl (by simpa using hv)
theorem permits_iff (a b c x y z l : Int) : permitsV a b c x y z l = true ↔
    (validB a b c = true ∧ validB x y z = true ∧ Gt x y z a b c) ∧ (0 ≤ l ∧ l ≤ 2) ∧ (l = 0 ∨ (l = 1 ∧ (a ≠ x ∨ b ≠ y)) ∨ (l = 2 ∧ a ≠ x)) := by
  unfold permitsV
  by_cases h : validB a b c = true ∧ validB x y z = true ∧ Gt x y z a b c
  · rw [claims_ok a b c x y z h.1 h.2.1 h.2.2]
    simp only [Bool.and_eq_true, decide_eq_true_eq, known_iff]
    constructor
    · rintro ⟨_, h1, h2⟩
      refine ⟨h, h1, ?_⟩
      split at h2
      · omega
      · split at h2 <;> omega
    · rintro ⟨_, h1, h2⟩
      refine ⟨trivial, h1, ?_⟩
      split
      · omega
      · split <;> omega
  · rw [claims_no a b c x y z h]
    simp only [Bool.and_eq_true, decide_eq_true_eq]
    constructor
    · rintro ⟨h1, _⟩; omega
    · rintro ⟨h1, _⟩; exact absurd h1 h
theorem permits_less (a b c x y z l m : Int) (h : permitsV a b c x y z m = true) (h0 : 0 ≤ l) (h1 : l ≤ m) : permitsV a b c x y z l = true := by
  rw [permits_iff] at h ⊢
  obtain ⟨h2, h3, h4⟩ := h
  refine ⟨h2, by omega, ?_⟩
  omega
theorem permits_trans (a b c x y z p q r m n : Int) (h : permitsV a b c x y z m = true) (h2 : permitsV x y z p q r n = true) : permitsV a b c p q r (max m n) = true := by
  rw [permits_iff] at h h2 ⊢
  obtain ⟨⟨h3, h4, h5⟩, h6, h7⟩ := h
  obtain ⟨⟨g3, g4, g5⟩, g6, g7⟩ := h2
  unfold Gt at *
  refine ⟨⟨h3, g4, by omega⟩, by omega, ?_⟩
  rcases Int.le_total m n with hl | hl
  · rw [Int.max_eq_right hl]; omega
  · rw [Int.max_eq_left hl]; omega
end Go.Proofs.YtbpgbbdebhmlkaaDoor
