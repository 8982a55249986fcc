/- Plain facts: a string's literal is read back as this string. -/
import Derived.Test.YtmlfoffahfbalaaDoorPlainRuns
import Derived.Test.YtmlfoffahfbalaaDoorPlainLit
namespace Go.Proofs.YtmlfoffahfbalaaDoor
open Go

theorem qB_fin : ∀ n : Fin 256, (qB (UInt8.ofNat n.val)).all (fun c => decide (32 ≤ c.toNat) && decide (c.toNat ≤ 126)) = true := by decide +kernel
theorem qB_range (b : UInt8) : ∀ c ∈ qB b, 32 ≤ c.toNat ∧ c.toNat ≤ 126 := by
  have h := qB_fin ⟨b.toNat, b.toNat_lt⟩
  rw [show UInt8.ofNat b.toNat = b from UInt8.ofNat_toNat, List.all_eq_true] at h
  intro c hc
  have := h c hc
  simp only [Bool.and_eq_true, decide_eq_true_eq] at this
  exact this
theorem quote_range (l : List UInt8) : ∀ c ∈ quoteL l, 32 ≤ c.toNat ∧ c.toNat ≤ 126 := by
  intro c hc
  unfold quoteL at hc
  rw [List.mem_append, List.mem_cons, List.mem_flatMap, List.mem_singleton] at hc
  rcases hc with (rfl | ⟨b, _, hb⟩) | rfl
  · decide
  · exact qB_range b c hb
  · decide
theorem hexC_fin : ∀ n : Fin 256, hexZ ((hexC (n.val / 16)).toNat : Int) = ((n.val / 16 : Nat) : Int) ∧ hexZ ((hexC (n.val % 16)).toNat : Int) = ((n.val % 16 : Nat) : Int) := by decide +kernel
theorem ofnat_fin : ∀ n : Fin 256, (16 * ((n.val / 16 : Nat) : Int) + ((n.val % 16 : Nat) : Int)).toNat.toUInt8 = UInt8.ofNat n.val := by decide +kernel
theorem lit_hd (c : UInt8) (r : List UInt8) (n : Nat) (b : UInt8) (h : c ≠ 34) (h1 : chrN (c :: r) = n ∧ chrB (c :: r) = b) (hn : n ≠ 0) : litL (c :: r) = joinL [b] n (litL ((c :: r).drop n)) := by
  rw [litL_char c r h (by rw [h1.1]; exact hn), h1.1, h1.2]
/-- a byte of a literal is read back. -/
theorem lit_q (b : UInt8) (rest : List UInt8) : litL (qB b ++ rest) = joinL [b] (qB b).length (litL rest) := by
  by_cases h1 : b = 34 ∨ b = 92
  · have e : qB b = [92, b] := by unfold qB; rw [if_pos h1]
    rw [e]
    rcases h1 with rfl | rfl
    · exact lit_hd 92 (34 :: rest) 2 34 (by decide) (chr_back_quote rest) (by decide)
    · exact lit_hd 92 (92 :: rest) 2 92 (by decide) (chr_back_back rest) (by decide)
  · by_cases h2 : b = 10
    · subst h2
      have e : qB 10 = [92, 110] := rfl
      rw [e]
      exact lit_hd 92 (110 :: rest) 2 10 (by decide) (chr_back_n rest) (by decide)
    · by_cases h3 : 32 ≤ b.toNat ∧ b.toNat ≤ 126
      · have e : qB b = [b] := by unfold qB; rw [if_neg h1, if_neg h2, if_pos h3]
        rw [e]
        exact lit_hd b rest 1 b (fun h => h1 (.inl h)) (chr_plain b rest (by omega) (fun h => h1 (.inl h)) (fun h => h1 (.inr h))) (by decide)
      · have e : qB b = [92, 120, hexC (b.toNat / 16), hexC (b.toNat % 16)] := by unfold qB; rw [if_neg h1, if_neg h2, if_neg h3]
        have hx := hexC_fin ⟨b.toNat, b.toNat_lt⟩
        simp only at hx
        have hc := chr_back_x (hexC (b.toNat / 16)) (hexC (b.toNat % 16)) rest ⟨by rw [hx.1]; omega, by rw [hx.2]; omega⟩
        rw [hx.1, hx.2] at hc
        have ho := ofnat_fin ⟨b.toNat, b.toNat_lt⟩
        simp only at ho
        rw [show UInt8.ofNat b.toNat = b from UInt8.ofNat_toNat] at ho
        rw [ho] at hc
        rw [e]
        exact lit_hd 92 (120 :: hexC (b.toNat / 16) :: hexC (b.toNat % 16) :: rest) 4 b (by decide) hc (by decide)
theorem lit_back (rest : List UInt8) : ∀ l : List UInt8, litL (l.flatMap qB ++ 34 :: rest) = some (l, (l.flatMap qB).length + 1)
  | [] => rfl
  | b :: l => by
    rw [List.flatMap_cons, List.append_assoc, lit_q, lit_back rest l]
    simp [joinL]; omega
theorem quote_len (l : List UInt8) : (quoteL l).length = (l.flatMap qB).length + 2 := by
  unfold quoteL; rw [List.length_append, List.length_cons, List.length_singleton]
theorem tok_quoted (l rest : List UInt8) : tokL (quoteL l ++ rest) = ⟨4, l, (quoteL l).length, 0⟩ := by
  rw [quote_len]
  have e : quoteL l ++ rest = 34 :: (l.flatMap qB ++ 34 :: rest) := by unfold quoteL; simp
  rw [e, tokL, if_pos (by rfl : ((34 : UInt8) == 34) = true), lit_back rest l]
/-- a blank and a literal: one token. -/
theorem lex_quote (l : List UInt8) (p : ByteArray) (hp : p.data.toList = 32 :: quoteL l) (hs : p.size ≤ 65536) : ∃ n, lexS p = ⟨[(4, l, 1), (0, [], n)], 0, 0⟩ := by
  have hsz : p.size = (quoteL l).length + 1 := by rw [Lib.size_eq, hp, List.length_cons]
  have hl := quote_len l
  have e1 : startS p = 1 := by
    unfold startS
    rw [hp, skip_blank 32 _ (by decide)]
    have : quoteL l = 34 :: (l.flatMap qB ++ [34]) := rfl
    rw [this, skip_none 34 _ (by decide) (by simp [Lib.hasPrefix, List.isPrefixOf])]
  have e2 : tokS p 1 = ⟨4, l, (quoteL l).length, 0⟩ := by
    unfold tokS
    rw [hp]
    have := tok_quoted l []
    rw [List.append_nil] at this
    exact this
  have e3 : nextAt p 1 = p.size := by
    unfold nextAt
    rw [e2]
    have : p.data.toList.drop (1 + (quoteL l).length) = [] := List.drop_eq_nil_of_le (by rw [hp, List.length_cons]; omega)
    simp only [this, skipF]
    omega
  refine ⟨p.size, ?_⟩
  refine (lex_done p hs [⟨4, ⟨l.toArray⟩, 1, 0⟩] ?_).trans ?_
  · rw [e1]
    exact ⟨by omega, rfl, rfl, by rw [e2], by rw [e2], by rw [e2], e3⟩
  · simp [keyY]
end Go.Proofs.YtmlfoffahfbalaaDoor
