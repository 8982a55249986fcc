/- Plain facts on the text of a number. -/
import Derived.Test.YtdhihdiifgcfdaaGreatDoorVPlainDot
import Derived.Shelf.GgClosure.StringsIndexFunc
import Derived.Lib.SpaceUEq
import Derived.Lib.Atoi
namespace Go.Proofs.YtdhihdiifgcfdaaGreatDoor
open Go

def dgB (b : UInt8) : Bool := decide (48 ≤ b.toNat ∧ b.toNat ≤ 57)
/-- what the predicate of Parse says of a rune. -/
def oddR (x : Nat) : Bool := decide (x < 48) || decide (57 < x)
theorem decode_odd (s : ByteArray) (pos : Nat) (h : pos < s.size) :
    (dgB s[pos] = true ∧ Utf8.decode s pos = ((s[pos]).toNat, 1)) ∨ (dgB s[pos] = false ∧ oddR (Utf8.decode s pos).1 = true) := by
  have e : (s.data.toList.getD pos 0) = s[pos] := by
    have : pos < s.data.toList.length := by rw [← Lib.size_eq]; exact h
    rw [List.getD_eq_getElem?_getD, List.getElem?_eq_getElem this]; simp; rfl
  rw [Lib.decode_N, e]
  rcases Lib.decodeN_cases (s.data.toList.length - pos) (s[pos]).toNat (s.data.toList.getD (pos + 1) 0).toNat (s.data.toList.getD (pos + 2) 0).toNat (s.data.toList.getD (pos + 3) 0).toNat with ⟨c, h1⟩ | ⟨c1, c2, c3, cv, h1⟩ | ⟨c1, c2, c3, c4, cv, h1⟩ | ⟨c, h1⟩ | h1
  · by_cases hd : dgB s[pos] = true
    · exact .inl ⟨hd, h1⟩
    · refine .inr ⟨by simpa using hd, ?_⟩
      rw [h1]
      unfold dgB at hd
      unfold oddR
      simp only [decide_eq_true_eq] at hd
      simp only [Bool.or_eq_true, decide_eq_true_eq]
      omega
  · refine .inr ⟨by unfold dgB; rw [decide_eq_false_iff_not]; omega, ?_⟩
    rw [h1]; unfold oddR; simp only [Bool.or_eq_true, decide_eq_true_eq]; omega
  · refine .inr ⟨by unfold dgB; rw [decide_eq_false_iff_not]; omega, ?_⟩
    rw [h1]; unfold oddR; simp only [Bool.or_eq_true, decide_eq_true_eq]; omega
  · by_cases h2 : (s[pos]).toNat < 128
    · exfalso
      rw [Lib.decodeN_ascii _ _ _ _ _ h2] at c
      simp only at c
      omega
    · refine .inr ⟨by unfold dgB; rw [decide_eq_false_iff_not]; omega, ?_⟩
      unfold oddR; simp only [Bool.or_eq_true, decide_eq_true_eq]; omega
  · by_cases h2 : (s[pos]).toNat < 128
    · exfalso
      rw [Lib.decodeN_ascii _ _ _ _ _ h2] at h1
      have := congrArg Prod.snd h1
      have := congrArg Prod.fst h1
      simp only at this
      omega
    · refine .inr ⟨by unfold dgB; rw [decide_eq_false_iff_not]; omega, ?_⟩
      rw [h1]; rfl
theorem odd_from (s : ByteArray) : ∀ (f pos : Nat), s.size ≤ pos + f → (0 ≤ Lib.idxFuncFrom oddR true s f pos ↔ ¬ ∀ b ∈ s.data.toList.drop pos, dgB b = true)
  | 0, pos, h => by
    have : s.data.toList.drop pos = [] := List.drop_eq_nil_iff.2 (by rw [← Lib.size_eq]; omega)
    rw [this]
    simp [Lib.idxFuncFrom]
  | f + 1, pos, h => by
    unfold Lib.idxFuncFrom
    by_cases hp : pos < s.size
    · have hl : pos < s.data.toList.length := by rw [← Lib.size_eq]; exact hp
      have e : s.data.toList[pos] = s[pos] := by simp; rfl
      rw [if_pos hp, List.drop_eq_getElem_cons hl, e]
      rcases decode_odd s pos hp with ⟨h1, h2⟩ | ⟨h1, h2⟩
      · have h3 : ¬ oddR (s[pos]).toNat = true := by
          unfold dgB at h1; unfold oddR
          simp only [decide_eq_true_eq] at h1
          simp only [Bool.or_eq_true, decide_eq_true_eq]; omega
        rw [h2]
        simp only
        rw [if_neg h3, odd_from s f (pos + 1) (by omega)]
        simp [h1]
      · rw [if_pos h2]
        simp [h1]
    · rw [if_neg hp]
      have : s.data.toList.drop pos = [] := List.drop_eq_nil_iff.2 (by rw [← Lib.size_eq]; omega)
      rw [this]; simp
/-- whether the predicate finds a rune. -/
theorem odd_all (s : ByteArray) : decide (0 ≤ Lib.idxFunc oddR true s) = !(s.data.toList.all dgB) := by
  have := odd_from s s.size 0 (by omega)
  rw [List.drop_zero] at this
  unfold Lib.idxFunc
  by_cases h : s.data.toList.all dgB = true
  · rw [h]
    have h2 := List.all_eq_true.1 h
    simp only [Bool.not_true, decide_eq_false_iff_not]
    rw [this]; simpa using h2
  · rw [Bool.not_eq_true] at h
    rw [h]
    simp only [Bool.not_false, decide_eq_true_eq]
    rw [this]
    intro h2
    rw [List.all_eq_true.2 h2] at h
    cases h
/-- a part of a number's text is right. -/
def wordOk (l : List UInt8) : Bool := decide (l ≠ []) && (decide (l.length ≤ 3) && (l.all dgB && !(decide (1 < l.length) && decide (l.head? = some 48))))
/-- the number of a part, behind another number. -/
def valF (n : Nat) (l : List UInt8) : Nat := l.foldl (fun n b => n * 10 + (b.toNat - 48)) n
def wordV (l : List UInt8) : Nat := valF 0 l
theorem decFrom_val : ∀ (l : List UInt8) (n : Nat), (∀ b ∈ l, dgB b = true) → Lib.decFrom n l = some (valF n l)
  | [], n, _ => rfl
  | b :: r, n, h => by
    have hb := h b (by simp)
    unfold dgB at hb
    simp only [decide_eq_true_eq] at hb
    have hd : Lib.digitVal b = some (b.toNat - 48) := by unfold Lib.digitVal; rw [if_pos hb]
    rw [Lib.decFrom, hd]
    exact decFrom_val r _ (fun x hx => h x (by simp [hx]))
theorem atoi_word (l : List UInt8) (h : wordOk l = true) : Lib.atoi l = some (wordV l : Int) := by
  unfold wordOk at h
  simp only [Bool.and_eq_true, decide_eq_true_eq, List.all_eq_true] at h
  obtain ⟨h1, h2, h3, h4⟩ := h
  cases l with
  | nil => exact absurd rfl h1
  | cons b r =>
    have hb := h3 b (by simp)
    unfold dgB at hb
    simp only [decide_eq_true_eq] at hb
    have e1 : (b == 45) = false := by rw [beq_eq_false_iff_ne]; intro e; rw [e] at hb; exact absurd hb.1 (by decide)
    have e2 : (b == 43) = false := by rw [beq_eq_false_iff_ne]; intro e; rw [e] at hb; exact absurd hb.1 (by decide)
    unfold Lib.atoi
    simp only [e1, e2, Bool.false_eq_true, if_false]
    unfold Lib.decNat
    rw [if_neg (by simp), decFrom_val _ _ h3]
    rfl
theorem valF_le : ∀ (l : List UInt8) (n : Nat), (∀ b ∈ l, dgB b = true) → valF n l + 1 ≤ (n + 1) * 10 ^ l.length
  | [], n, _ => by simp [valF]
  | b :: r, n, h => by
    have hb := h b (by simp)
    unfold dgB at hb
    simp only [decide_eq_true_eq] at hb
    have := valF_le r (n * 10 + (b.toNat - 48)) (fun x hx => h x (by simp [hx]))
    have e : valF n (b :: r) = valF (n * 10 + (b.toNat - 48)) r := rfl
    rw [e, List.length_cons, Nat.pow_succ]
    refine Nat.le_trans this ?_
    rw [Nat.mul_comm (10 ^ r.length) 10, ← Nat.mul_assoc]
    exact Nat.mul_le_mul_right _ (by omega)
theorem wordV_le (l : List UInt8) (h : wordOk l = true) : wordV l ≤ 999 := by
  unfold wordOk at h
  simp only [Bool.and_eq_true, decide_eq_true_eq, List.all_eq_true] at h
  obtain ⟨h1, h2, h3, h4⟩ := h
  have := valF_le l 0 h3
  have hp : 10 ^ l.length ≤ 10 ^ 3 := Nat.pow_le_pow_right (by decide) h2
  unfold wordV
  have : (10 : Nat) ^ 3 = 1000 := by decide
  omega
/-- the number with a text, and the error. -/
def parseV (l : List UInt8) : (Int × Int × Int) × Int := match dotsL l with
  | [x, y, z] => if (wordOk x && (wordOk y && wordOk z)) = true then (((wordV x : Int), (wordV y : Int), (wordV z : Int)), 0) else ((0, 0, 0), 3)
  | _ => ((0, 0, 0), 3)
end Go.Proofs.YtdhihdiifgcfdaaGreatDoor
