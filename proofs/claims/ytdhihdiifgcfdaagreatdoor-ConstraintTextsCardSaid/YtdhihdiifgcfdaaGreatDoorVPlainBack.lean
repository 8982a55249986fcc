/- Plain facts: the text of a number is read as this number, and back; the path of a line. -/
import Derived.Test.YtdhihdiifgcfdaaGreatDoorVPlainParse
import Derived.Test.YtdhihdiifgcfdaaGreatDoorVFormat
namespace Go.Proofs.YtdhihdiifgcfdaaGreatDoor
open Go

theorem decL_1 (n : Int) (h0 : 0 ≤ n) (h : n < 10) : decL n = [UInt8.ofNat (48 + n.toNat)] := by unfold decL; rw [Lib.decDigits, dif_pos (by omega)]
theorem decL_2 (n : Int) (h : 10 ≤ n) (h2 : n < 100) : decL n = [UInt8.ofNat (48 + n.toNat / 10), UInt8.ofNat (48 + n.toNat % 10)] := by
  unfold decL; rw [Lib.decDigits, dif_neg (by omega), Lib.decDigits, dif_pos (by omega)]; rfl
theorem decL_3 (n : Int) (h : 100 ≤ n) (h2 : n < 1000) : decL n = [UInt8.ofNat (48 + n.toNat / 100), UInt8.ofNat (48 + n.toNat / 10 % 10), UInt8.ofNat (48 + n.toNat % 10)] := by
  unfold decL; rw [Lib.decDigits, dif_neg (by omega), Lib.decDigits, dif_neg (by omega), Lib.decDigits, dif_pos (by omega), Nat.div_div_eq_div_mul]; rfl
theorem dg_of (d : Nat) (h : d < 10) : (UInt8.ofNat (48 + d)).toNat = 48 + d := by rw [UInt8.toNat_ofNat']; omega
theorem dgB_of (d : Nat) (h : d < 10) : dgB (UInt8.ofNat (48 + d)) = true := by unfold dgB; rw [dg_of d h]; simp; omega
theorem ok_1 (x : UInt8) (h : dgB x = true) : wordOk [x] = true := by unfold wordOk; simp [h]
theorem ok_2 (x y : UInt8) (h : dgB x = true) (h2 : dgB y = true) (hn : x ≠ 48) : wordOk [x, y] = true := by unfold wordOk; simp [h, h2, hn]
theorem ok_3 (x y z : UInt8) (h : dgB x = true) (h2 : dgB y = true) (h3 : dgB z = true) (hn : x ≠ 48) : wordOk [x, y, z] = true := by unfold wordOk; simp [h, h2, h3, hn]
/-- the decimal text of a part is right, and is read as this part. -/
theorem word_dec (n : Int) (h0 : 0 ≤ n) (h : n ≤ 999) : wordOk (decL n) = true ∧ (wordV (decL n) : Int) = n := by
  rcases (show n < 10 ∨ (10 ≤ n ∧ n < 100) ∨ (100 ≤ n ∧ n < 1000) by omega) with h1 | ⟨h1, h2⟩ | ⟨h1, h2⟩
  · rw [decL_1 n h0 h1]
    have d1 := dgB_of n.toNat (by omega)
    refine ⟨ok_1 _ d1, ?_⟩
    show (((0 * 10 + ((UInt8.ofNat (48 + n.toNat)).toNat - 48) : Nat)) : Int) = n
    rw [dg_of _ (by omega)]; omega
  · rw [decL_2 n h1 h2]
    have d1 := dgB_of (n.toNat / 10) (by omega)
    have d2 := dgB_of (n.toNat % 10) (by omega)
    have hne : UInt8.ofNat (48 + n.toNat / 10) ≠ 48 := fun e => by
      have := congrArg UInt8.toNat e
      rw [dg_of _ (by omega)] at this
      have h48 : (48 : UInt8).toNat = 48 := rfl
      omega
    refine ⟨ok_2 _ _ d1 d2 hne, ?_⟩
    show ((((0 * 10 + ((UInt8.ofNat (48 + n.toNat / 10)).toNat - 48)) * 10 + ((UInt8.ofNat (48 + n.toNat % 10)).toNat - 48) : Nat)) : Int) = n
    rw [dg_of _ (by omega), dg_of _ (by omega)]; omega
  · rw [decL_3 n h1 h2]
    have d1 := dgB_of (n.toNat / 100) (by omega)
    have d2 := dgB_of (n.toNat / 10 % 10) (by omega)
    have d3 := dgB_of (n.toNat % 10) (by omega)
    have hne : UInt8.ofNat (48 + n.toNat / 100) ≠ 48 := fun e => by
      have := congrArg UInt8.toNat e
      rw [dg_of _ (by omega)] at this
      have h48 : (48 : UInt8).toNat = 48 := rfl
      omega
    refine ⟨ok_3 _ _ _ d1 d2 d3 hne, ?_⟩
    show (((((0 * 10 + ((UInt8.ofNat (48 + n.toNat / 100)).toNat - 48)) * 10 + ((UInt8.ofNat (48 + n.toNat / 10 % 10)).toNat - 48)) * 10 + ((UInt8.ofNat (48 + n.toNat % 10)).toNat - 48) : Nat)) : Int) = n
    rw [dg_of _ (by omega), dg_of _ (by omega), dg_of _ (by omega)]; omega
theorem word_ne_dot (l : List UInt8) (h : wordOk l = true) : ∀ b ∈ l, b ≠ 46 := by
  intro b hb e
  subst e
  unfold wordOk at h
  simp only [Bool.and_eq_true, List.all_eq_true] at h
  have := h.2.2.1 46 hb
  exact absurd this (by decide)
/-- the text of a valid number is read as this number. -/
theorem parse_format (a b c : Int) (h : validB a b c = true) : parseV (fmtL a b c) = ((a, b, c), 0) := by
  obtain ⟨⟨a0, a1⟩, ⟨b0, b1⟩, c0, c1⟩ := valid_le h
  obtain ⟨oa, va⟩ := word_dec a a0 a1
  obtain ⟨ob, vb⟩ := word_dec b b0 b1
  obtain ⟨oc, vc⟩ := word_dec c c0 c1
  have e : dotsL (fmtL a b c) = [decL a, decL b, decL c] := by
    unfold fmtL
    rw [dotsL_cut _ _ (word_ne_dot _ oa), dotsL_cut _ _ (word_ne_dot _ ob), dotsL_one _ (word_ne_dot _ oc)]
  unfold parseV
  rw [e]
  simp only [oa, ob, oc, Bool.and_self, if_true, va, vb, vc]
theorem dg_nat {x : UInt8} (h : dgB x = true) : 48 ≤ x.toNat ∧ x.toNat ≤ 57 := by unfold dgB at h; simpa using h
theorem of_dg (x : UInt8) (d : Nat) (h : x.toNat = 48 + d) : UInt8.ofNat (48 + d) = x := by
  apply UInt8.toNat_inj.1
  rw [UInt8.toNat_ofNat', ← h]
  have := x.toNat_lt
  omega
/-- a right part is the decimal text of its number. -/
theorem dec_word (l : List UInt8) (h : wordOk l = true) : decL (wordV l : Int) = l := by
  unfold wordOk at h
  simp only [Bool.and_eq_true, decide_eq_true_eq, Bool.not_eq_true', Bool.and_eq_false_iff, decide_eq_false_iff_not] at h
  obtain ⟨h1, h2, h3, h4⟩ := h
  match l, h1, h2, h3, h4 with
  | [x], _, _, h3, _ =>
    obtain ⟨g1, g2⟩ := dg_nat (List.all_eq_true.1 h3 x (by simp))
    have e : wordV [x] = x.toNat - 48 := by show 0 * 10 + (x.toNat - 48) = _; omega
    rw [e, decL_1 _ (by omega) (by omega), of_dg x _ (by omega)]
  | [x, y], _, _, h3, h4 =>
    obtain ⟨g1, g2⟩ := dg_nat (List.all_eq_true.1 h3 x (by simp))
    obtain ⟨g3, g4⟩ := dg_nat (List.all_eq_true.1 h3 y (by simp))
    have hne : x.toNat ≠ 48 := fun e => by
      have : x = 48 := UInt8.toNat_inj.1 e
      subst this
      simp at h4
    have e : wordV [x, y] = (x.toNat - 48) * 10 + (y.toNat - 48) := by show (0 * 10 + (x.toNat - 48)) * 10 + (y.toNat - 48) = _; omega
    rw [e, decL_2 _ (by omega) (by omega), of_dg x _ (by omega), of_dg y _ (by omega)]
  | [x, y, z], _, _, h3, h4 =>
    obtain ⟨g1, g2⟩ := dg_nat (List.all_eq_true.1 h3 x (by simp))
    obtain ⟨g3, g4⟩ := dg_nat (List.all_eq_true.1 h3 y (by simp))
    obtain ⟨g5, g6⟩ := dg_nat (List.all_eq_true.1 h3 z (by simp))
    have hne : x.toNat ≠ 48 := fun e => by
      have : x = 48 := UInt8.toNat_inj.1 e
      subst this
      simp at h4
    have e : wordV [x, y, z] = ((x.toNat - 48) * 10 + (y.toNat - 48)) * 10 + (z.toNat - 48) := by show ((0 * 10 + (x.toNat - 48)) * 10 + (y.toNat - 48)) * 10 + (z.toNat - 48) = _; omega
    rw [e, decL_3 _ (by omega) (by omega), of_dg x _ (by omega), of_dg y _ (by omega), of_dg z _ (by omega)]
/-- parts with dots between them. -/
def joinD : List (List UInt8) → List UInt8
  | [] => []
  | [x] => x
  | x :: r => x ++ 46 :: joinD r
theorem joinD_cons (x : List UInt8) (r : List (List UInt8)) (h : r ≠ []) : joinD (x :: r) = x ++ 46 :: joinD r := by
  cases r with
  | nil => exact absurd rfl h
  | cons y r => rfl
theorem joinD_char (c : UInt8) (x : List UInt8) (r : List (List UInt8)) : joinD ((c :: x) :: r) = c :: joinD (x :: r) := by
  cases r with
  | nil => rfl
  | cons y r => rfl
theorem joinD_dots (l : List UInt8) : joinD (dotsL l) = l := by
  induction l with
  | nil => rfl
  | cons c r ih =>
    by_cases hc : c = 46
    · subst hc
      rw [dotsL_dot, joinD_cons _ _ (dotsL_ne r), ih]; rfl
    · cases e : dotsL r with
      | nil => exact absurd e (dotsL_ne r)
      | cons h t => rw [dotsL_other c r h t hc e, joinD_char, ← e, ih]
/-- what is read as a number is this number's text. -/
theorem format_parse (l : List UInt8) (a b c : Int) (h : parseV l = ((a, b, c), 0)) : validB a b c = true ∧ fmtL a b c = l := by
  unfold parseV at h
  split at h
  · rename_i x y z e
    split at h
    · rename_i ho
      simp only [Bool.and_eq_true] at ho
      obtain ⟨o1, o2, o3⟩ := ho
      simp only [Prod.mk.injEq, and_true] at h
      obtain ⟨rfl, rfl, rfl⟩ := h
      have v1 := wordV_le x o1
      have v2 := wordV_le y o2
      have v3 := wordV_le z o3
      refine ⟨by unfold validB partB; simp; omega, ?_⟩
      have := joinD_dots l
      rw [e] at this
      unfold fmtL
      rw [dec_word x o1, dec_word y o2, dec_word z o3]
      exact this
    · simp at h
  · simp at h
end Go.Proofs.YtdhihdiifgcfdaaGreatDoor
