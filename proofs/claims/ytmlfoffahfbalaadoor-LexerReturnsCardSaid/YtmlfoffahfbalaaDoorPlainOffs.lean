/- Plain facts: what a token is in its source. -/
import Derived.Test.YtmlfoffahfbalaaDoorPlainTake
namespace Go.Proofs.YtmlfoffahfbalaaDoor
open Go

theorem tok_shape (l : List UInt8) (h : (tokL l).err = 0) :
    ((tokL l).kind = 4 ∧ l.head? = some 34 ∧ (tokL l).text.length + 2 ≤ (tokL l).n) ∨
    ((tokL l).kind ≠ 4 ∧ (tokL l).kind ≠ 0 ∧ (tokL l).text ≠ [] ∧ (tokL l).text <+: l ∧ (tokL l).text.length = (tokL l).n) := by
  cases l with
  | nil => exact absurd h (by decide)
  | cons c r =>
    have hn := tokL_n c r h
    by_cases h1 : (c == 34) = true
    · cases e : litL r with
      | none => rw [tokL, if_pos h1, e] at h; exact absurd h (by decide)
      | some p =>
        obtain ⟨t, n⟩ := p
        have ht : tokL (c :: r) = ⟨4, t, n + 1, 0⟩ := by rw [tokL, if_pos h1, e]
        have := litL_le e
        rw [ht]
        have hc : c = 34 := by simpa using h1
        exact .inl ⟨rfl, by rw [hc]; rfl, by simp only; omega⟩
    · refine .inr ?_
      have ne : ∀ p : UInt8 → Bool, 1 ≤ ((c :: r).takeWhile p).length → (c :: r).takeWhile p ≠ [] := fun p h e => by rw [e] at h; simp at h
      by_cases h2 : digitB c = true
      · by_cases h3 : 19 < ((c :: r).takeWhile digitB).length ∨ (1 < ((c :: r).takeWhile digitB).length ∧ c = 48) ∨ (((c :: r).drop ((c :: r).takeWhile digitB).length).head?.any wordB) = true
        · rw [tokL, if_neg h1, if_pos h2, if_pos h3] at h; exact absurd h (by decide)
        · have ht : tokL (c :: r) = ⟨3, (c :: r).takeWhile digitB, ((c :: r).takeWhile digitB).length, 0⟩ := by rw [tokL, if_neg h1, if_pos h2, if_neg h3]
          rw [ht] at hn ⊢
          exact ⟨by simp, by simp, ne _ hn.1, List.takeWhile_prefix _, rfl⟩
      · by_cases h3 : (smallZ c.toNat || capitalZ c.toNat) = true
        · have key : ∀ k : Int, k ≠ 4 → k ≠ 0 → tokL (c :: r) = ⟨k, (c :: r).takeWhile wordB, ((c :: r).takeWhile wordB).length, 0⟩ →
              ((tokL (c :: r)).kind ≠ 4 ∧ (tokL (c :: r)).kind ≠ 0 ∧ (tokL (c :: r)).text ≠ [] ∧ (tokL (c :: r)).text <+: c :: r ∧ (tokL (c :: r)).text.length = (tokL (c :: r)).n) := fun k hk hk2 ht => by
            rw [ht] at hn ⊢
            exact ⟨hk, hk2, ne _ hn.1, List.takeWhile_prefix _, rfl⟩
          by_cases g1 : kwL ((c :: r).takeWhile wordB) = true
          · exact key 5 (by decide) (by decide) (by rw [tokL, if_neg h1, if_neg h2, if_pos h3, if_pos g1])
          · by_cases g2 : nameL ((c :: r).takeWhile wordB) = true
            · exact key 1 (by decide) (by decide) (by rw [tokL, if_neg h1, if_neg h2, if_pos h3, if_neg g1, if_pos g2])
            · by_cases g3 : typeL ((c :: r).takeWhile wordB) = true
              · exact key 2 (by decide) (by decide) (by rw [tokL, if_neg h1, if_neg h2, if_pos h3, if_neg g1, if_neg g2, if_pos g3])
              · rw [tokL, if_neg h1, if_neg h2, if_pos h3, if_neg g1, if_neg g2, if_neg g3] at h; exact absurd h (by decide)
        · by_cases h4 : symL (c :: r) = []
          · rw [tokL, if_neg h1, if_neg h2, if_neg h3, if_pos h4] at h; exact absurd h (by decide)
          · have ht : tokL (c :: r) = ⟨6, symL (c :: r), (symL (c :: r)).length, 0⟩ := by rw [tokL, if_neg h1, if_neg h2, if_neg h3, if_neg h4]
            rw [ht]
            exact ⟨by simp, by simp, h4, symL_prefix _ h4, rfl⟩
/-- what a token of a run is: its kind, text and offset, and where the next one may begin. -/
theorem run_head (s : ByteArray) (y : Yld) (ys : List Yld) (a b : Nat) (h : Runs s a (y :: ys) b) :
    y.off = a ∧ a < s.size ∧ Runs s (nextAt s a) ys b ∧
    ((y.kind = 4 ∧ Lib.hasPrefix (s.data.toList.drop a) [34] = true ∧ a + y.text.size + 2 ≤ nextAt s a) ∨
     (y.kind ≠ 4 ∧ y.kind ≠ 0 ∧ y.text.data.toList ≠ [] ∧ Lib.hasPrefix (s.data.toList.drop a) y.text.data.toList = true ∧ a + y.text.size ≤ nextAt s a)) := by
  obtain ⟨h1, h2, h3, h4, h5, h6, h7⟩ := h
  refine ⟨h2, h1, h7, ?_⟩
  have hx : a + (tokS s a).n ≤ nextAt s a := by unfold nextAt; omega
  have htx : y.text.data.toList = (tokS s a).text := by rw [h6]
  have hsz : y.text.size = (tokS s a).text.length := by rw [Lib.size_eq, htx]
  rw [hsz, htx, h5]
  unfold tokS at h4 hx ⊢
  rcases tok_shape _ h4 with ⟨g1, g2, g3⟩ | ⟨g1, g2, g3, g4, g5⟩
  · refine .inl ⟨g1, ?_, by omega⟩
    cases e : s.data.toList.drop a with
    | nil => rw [e] at g2; cases g2
    | cons c r => rw [e] at g2; cases g2; simp [Lib.hasPrefix, List.isPrefixOf]
  · exact .inr ⟨g1, g2, g3, List.isPrefixOf_iff_prefix.2 g4, by omega⟩
theorem Runs.le_start {s : ByteArray} {ys : List Yld} {a b : Nat} (h : Runs s a ys b) : a ≤ b := by have := Runs.len h; omega
theorem toks_at (zs rest : List Yld) (y : Yld) (e : List (Int × List UInt8 × Nat)) : ((zs ++ y :: rest).map keyY ++ e)[zs.length]? = some (keyY y) := by simp
theorem toks_last (ys : List Yld) (x : Int × List UInt8 × Nat) : (ys.map keyY ++ [x])[ys.length]? = some x := by simp
end Go.Proofs.YtmlfoffahfbalaaDoor
