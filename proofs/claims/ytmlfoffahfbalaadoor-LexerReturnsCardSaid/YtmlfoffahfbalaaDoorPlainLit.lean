/- Plain facts on literals, a character at a time. -/
import Derived.Test.YtmlfoffahfbalaaDoorPlainLex2
namespace Go.Proofs.YtmlfoffahfbalaaDoor
open Go

/-- some bytes ahead of what a literal gives. -/
def joinL (acc : List UInt8) (m : Nat) : Option (List UInt8 × Nat) → Option (List UInt8 × Nat)
  | none => none
  | some (t, n) => some (acc ++ t, m + n)
theorem joinL_nil (x : Option (List UInt8 × Nat)) : joinL [] 0 x = x := by
  cases x with
  | none => rfl
  | some p => obtain ⟨t, n⟩ := p; simp [joinL]
theorem joinL_join (a b : List UInt8) (m n : Nat) (x : Option (List UInt8 × Nat)) : joinL a m (joinL b n x) = joinL (a ++ b) (m + n) x := by
  cases x with
  | none => rfl
  | some p => obtain ⟨t, k⟩ := p; simp [joinL]; omega
theorem litL_char (c : UInt8) (r : List UInt8) (h : c ≠ 34) (h0 : chrN (c :: r) ≠ 0) : litL (c :: r) = joinL [chrB (c :: r)] (chrN (c :: r)) (litL ((c :: r).drop (chrN (c :: r)))) := by
  rw [litL_step c r h h0]
  split <;> rename_i e <;> rw [e] <;> rfl
theorem chr_plain (c : UInt8) (r : List UInt8) (h1 : ¬ c.toNat < 32) (h2 : c ≠ 34) (h3 : c ≠ 92) : chrN (c :: r) = 1 ∧ chrB (c :: r) = c := by
  have e1 : (c < 32) = False := by rw [UInt8.lt_iff_toNat_lt]; simp; exact (by omega)
  constructor
  · simp [chrN, e1, h2, h3]
  · simp [chrB, h3]
theorem chr_low (c : UInt8) (r : List UInt8) (h1 : c.toNat < 32) : chrN (c :: r) = 0 := by
  have e1 : c < 32 := by rw [UInt8.lt_iff_toNat_lt]; simpa using h1
  simp [chrN, e1]
theorem chr_back_nil : chrN [92] = 0 := rfl
theorem chr_back_quote (q : List UInt8) : chrN (92 :: 34 :: q) = 2 ∧ chrB (92 :: 34 :: q) = 34 := ⟨rfl, rfl⟩
theorem chr_back_back (q : List UInt8) : chrN (92 :: 92 :: q) = 2 ∧ chrB (92 :: 92 :: q) = 92 := ⟨rfl, rfl⟩
theorem chr_back_n (q : List UInt8) : chrN (92 :: 110 :: q) = 2 ∧ chrB (92 :: 110 :: q) = 10 := ⟨rfl, rfl⟩
theorem chr_back_other (d : UInt8) (q : List UInt8) (h1 : d ≠ 34) (h2 : d ≠ 92) (h3 : d ≠ 110) (h4 : d ≠ 120) : chrN (92 :: d :: q) = 0 := by
  simp [chrN, h1, h2, h3, h4]
theorem chr_back_x0 : chrN [92, 120] = 0 := rfl
theorem chr_back_x1 (x : UInt8) : chrN [92, 120, x] = 0 := rfl
theorem chr_back_x (x y : UInt8) (q : List UInt8) (h : 0 ≤ hexZ x.toNat ∧ 0 ≤ hexZ y.toNat) : chrN (92 :: 120 :: x :: y :: q) = 4 ∧ chrB (92 :: 120 :: x :: y :: q) = (16 * hexZ x.toNat + hexZ y.toNat).toNat.toUInt8 := by
  constructor
  · simp [chrN, h]
  · simp [chrB]
theorem chr_back_xno (x y : UInt8) (q : List UInt8) (h : ¬ (0 ≤ hexZ x.toNat ∧ 0 ≤ hexZ y.toNat)) : chrN (92 :: 120 :: x :: y :: q) = 0 := by
  simp [chrN, h]
/-- what the lexer's literal returns. -/
def litT (s : ByteArray) (at0 : Nat) : List UInt8 := match litL (s.data.toList.drop (at0 + 1)) with | none => [] | some (t, _) => t
def litE (s : ByteArray) (at0 : Nat) : Int := match litL (s.data.toList.drop (at0 + 1)) with | none => 0 | some (_, n) => ((at0 + 1 + n : Nat) : Int)
def litK (s : ByteArray) (at0 : Nat) : Bool := (litL (s.data.toList.drop (at0 + 1))).isSome
theorem lit_none {s : ByteArray} {at0 : Nat} (h : litL (s.data.toList.drop (at0 + 1)) = none) : litT s at0 = [] ∧ litE s at0 = 0 ∧ litK s at0 = false := by simp [litT, litE, litK, h]
theorem lit_some {s : ByteArray} {at0 : Nat} {t : List UInt8} {n : Nat} (h : litL (s.data.toList.drop (at0 + 1)) = some (t, n)) : litT s at0 = t ∧ litE s at0 = ((at0 + 1 + n : Nat) : Int) ∧ litK s at0 = true := by simp [litT, litE, litK, h]
def pfxB (b : UInt8) (l : List UInt8) : Bool := Lib.hasPrefix l [b]
theorem pfxB_nil (b : UInt8) : pfxB b [] = false := rfl
theorem pfxB_cons (b d : UInt8) (q : List UInt8) : pfxB b (d :: q) = (b == d) := by simp [pfxB, Lib.hasPrefix, List.isPrefixOf]
theorem hexZ_lt (c : Int) : hexZ c ≤ 15 := by
  unfold hexZ
  split
  · rename_i h; simp only [digitZ, Bool.and_eq_true, decide_eq_true_eq] at h; omega
  · split <;> omega
end Go.Proofs.YtmlfoffahfbalaaDoor
