/- Plain definitions and facts of string literals. -/
import Derived.Test.YtmlfoffahfbalaaDoorPlain
namespace Go.Proofs.YtmlfoffahfbalaaDoor
open Go

/-- the hexadecimal digit of a number below 16. -/
def hexC (n : Nat) : UInt8 := if n < 10 then (48 + n).toUInt8 else (87 + n).toUInt8
/-- what stands for a byte in a literal. -/
def qB (b : UInt8) : List UInt8 :=
  if b = 34 ∨ b = 92 then [92, b] else if b = 10 then [92, 110] else if 32 ≤ b.toNat ∧ b.toNat ≤ 126 then [b] else [92, 120, hexC (b.toNat / 16), hexC (b.toNat % 16)]
def quoteL (l : List UInt8) : List UInt8 := 34 :: l.flatMap qB ++ [34]
theorem qB_len (b : UInt8) : (qB b).length ≤ 4 := by unfold qB; split <;> (try split) <;> (try split) <;> simp
theorem flat_len (l : List UInt8) : (l.flatMap qB).length ≤ 4 * l.length := by
  induction l with
  | nil => simp
  | cons b l ih => rw [List.flatMap_cons, List.length_append, List.length_cons]; have := qB_len b; omega
theorem flat_snoc (l : List UInt8) (b : UInt8) : (l ++ [b]).flatMap qB = l.flatMap qB ++ qB b := by rw [List.flatMap_append]; simp
theorem flat_take (s : ByteArray) (k : Nat) (h : k < s.size) : (s.data.toList.take (k + 1)).flatMap qB = (s.data.toList.take k).flatMap qB ++ qB s[k] := by
  rw [List.take_succ_eq_append_getElem (by simpa using h), flat_snoc]; rfl
theorem hex_fin : ∀ n : Fin 16, (⟨#[48, 49, 50, 51, 52, 53, 54, 55, 56, 57, 97, 98, 99, 100, 101, 102]⟩ : ByteArray)[n.val]'(n.isLt) = hexC n.val := by decide
theorem hex_at (n : Nat) (h : n < (⟨#[48, 49, 50, 51, 52, 53, 54, 55, 56, 57, 97, 98, 99, 100, 101, 102]⟩ : ByteArray).size) : (((⟨#[48, 49, 50, 51, 52, 53, 54, 55, 56, 57, 97, 98, 99, 100, 101, 102]⟩ : ByteArray)[n]'h).toNat : Int) = ((hexC n).toNat : Int) := by
  rw [hex_fin ⟨n, h⟩]
end Go.Proofs.YtmlfoffahfbalaaDoor
