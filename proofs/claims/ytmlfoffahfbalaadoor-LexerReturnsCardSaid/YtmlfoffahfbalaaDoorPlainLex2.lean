/- Plain facts that join the lexer's own reckoning with the plain lexer: blanks, comments. -/
import Derived.Test.YtmlfoffahfbalaaDoorPlainLex
import Derived.Lib.IndexLaws
namespace Go.Proofs.YtmlfoffahfbalaaDoor
open Go

/-- what the code asks of a byte: where it stands among the blanks. -/
def blankI (c : UInt8) : Int := Lib.indexByte [32, 9, 10, 13] c
theorem blankI_yes (c : UInt8) (h : blankB c = true) : 0 ≤ blankI c := by
  simp only [blankB, Bool.or_eq_true, beq_iff_eq] at h
  rcases h with ((rfl | rfl) | rfl) | rfl <;> decide
theorem blankI_no (c : UInt8) (h : blankB c = false) : blankI c < 0 := by
  simp only [blankB, Bool.or_eq_false_iff, beq_eq_false_iff_ne] at h
  obtain ⟨⟨⟨h1, h2⟩, h3⟩, h4⟩ := h
  have : blankI c = -1 := by
    unfold blankI
    simp only [Lib.indexByte, beq_eq_false_iff_ne.2 (Ne.symm h1), beq_eq_false_iff_ne.2 (Ne.symm h2), beq_eq_false_iff_ne.2 (Ne.symm h3), beq_eq_false_iff_ne.2 (Ne.symm h4), Bool.false_eq_true, if_false]
    rfl
  omega
/-- the bytes in front of the next line. -/
def nlN (l : List UInt8) : Nat := (l.takeWhile (· != 10)).length
theorem nlN_le (l : List UInt8) : nlN l ≤ l.length := by
  unfold nlN
  have := (List.takeWhile_prefix (· != (10 : UInt8)) (l := l)).length_le
  exact this
theorem nl_index (l : List UInt8) : (Lib.indexByte l 10 = -1 ∧ nlN l = l.length) ∨ (Lib.indexByte l 10 = nlN l) := by
  induction l with
  | nil => exact .inl ⟨rfl, rfl⟩
  | cons c r ih =>
    by_cases hc : c = 10
    · subst hc; exact .inr rfl
    · have e1 : nlN (c :: r) = nlN r + 1 := by simp [nlN, hc]
      have e2 : Lib.indexByte (c :: r) 10 = if Lib.indexByte r 10 == -1 then -1 else Lib.indexByte r 10 + 1 := by
        rw [Lib.indexByte, if_neg (by simpa using hc)]
      rcases ih with ⟨h1, h2⟩ | h
      · exact .inl ⟨by rw [e2, h1]; try rfl, by rw [e1, h2]; try rfl⟩
      · refine .inr ?_
        have e3 : ¬ (((nlN r : Nat) : Int) == -1) = true := by rw [beq_iff_eq]; omega
        rw [e2, h, if_neg e3, e1]
        rfl
theorem skip_comment (l : List UInt8) : skipF true l = nlN l + skipF false (l.drop (nlN l)) := by
  induction l with
  | nil => rfl
  | cons c r ih =>
    by_cases hc : c = 10
    · subst hc
      have e1 : nlN (10 :: r) = 0 := rfl
      rw [e1]
      simp [skipF, blankB]
    · have e1 : nlN (c :: r) = nlN r + 1 := by simp [nlN, hc]
      rw [e1, List.drop_succ_cons, skipF]
      have : (c != 10) = true := by simpa using hc
      rw [this, ih]; omega
theorem skip_at_comment (l : List UInt8) (h : Lib.hasPrefix l [47, 47] = true) : skipF false l = nlN l + skipF false (l.drop (nlN l)) := by
  cases l with
  | nil => simp [Lib.hasPrefix] at h
  | cons c r =>
    cases r with
    | nil => simp [Lib.hasPrefix, List.isPrefixOf] at h
    | cons d q =>
      simp only [Lib.hasPrefix, List.isPrefixOf, Bool.and_eq_true, beq_iff_eq, and_true] at h
      obtain ⟨rfl, rfl⟩ := h
      rw [← skip_comment]
      rfl
theorem skip_blank (c : UInt8) (r : List UInt8) (h : blankB c = true) : skipF false (c :: r) = 1 + skipF false r := by
  have h47 : (c == 47) = false := by
    simp only [blankB, Bool.or_eq_true, beq_iff_eq] at h
    rcases h with ((rfl | rfl) | rfl) | rfl <;> rfl
  rw [skipF, h47, Bool.false_and, if_neg Bool.false_ne_true, if_pos h]
theorem skip_none (c : UInt8) (r : List UInt8) (h : blankB c = false) (h2 : Lib.hasPrefix (c :: r) [47, 47] = false) : skipF false (c :: r) = 0 := by
  have : (c == 47 && r.head? == some 47) = false := by
    rw [← h2]
    cases r with
    | nil => simp [Lib.hasPrefix, List.isPrefixOf]
    | cons d q =>
      simp only [Lib.hasPrefix, List.isPrefixOf, Bool.and_true, List.head?_cons, Option.some_beq_some]
      rw [Bool.beq_comm (a := c), Bool.beq_comm (a := d)]
  rw [skipF, this, h]; rfl
theorem drop_cons (s : ByteArray) (k : Nat) (h : k < s.size) : s.data.toList.drop k = s[k] :: s.data.toList.drop (k + 1) := by
  rw [List.drop_eq_getElem_cons (by simpa using h)]; rfl
end Go.Proofs.YtmlfoffahfbalaaDoor
