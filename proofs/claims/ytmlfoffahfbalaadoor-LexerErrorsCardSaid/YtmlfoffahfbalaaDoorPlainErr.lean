/- Plain facts: what stands ahead of the first error has none, and what begins there has it at its beginning. -/
import Derived.Test.YtmlfoffahfbalaaDoorPlainTake
namespace Go.Proofs.YtmlfoffahfbalaaDoor
open Go

theorem Runs.le {s : ByteArray} : ∀ {ys : List Yld} {a b : Nat}, Runs s a ys b → a ≤ s.size → b ≤ s.size
  | [], a, b, h, ha => by have h : a = b := h; omega
  | y :: ys, a, b, h, ha => Runs.le h.2.2.2.2.2.2 (nextAt_le s a h.1 h.2.2.2.1).2
theorem next_skip (s : ByteArray) (a : Nat) : skipF false (s.data.toList.drop (nextAt s a)) = 0 := by
  unfold nextAt
  rw [← List.drop_drop]
  exact skipF_idem _ _
theorem Runs.skip {s : ByteArray} : ∀ {ys : List Yld} {a b : Nat}, Runs s a ys b → skipF false (s.data.toList.drop a) = 0 → skipF false (s.data.toList.drop b) = 0
  | [], a, b, h, ha => by have h : a = b := h; subst h; exact ha
  | y :: ys, a, b, h, _ => Runs.skip h.2.2.2.2.2.2 (next_skip s a)
theorem start_skip (s : ByteArray) : skipF false (s.data.toList.drop (startS s)) = 0 := skipF_idem _ _
theorem runs_take (s p : ByteArray) (b : Nat) (hp : p.data.toList = s.data.toList.take b) (hb : b ≤ s.size) : ∀ (ys : List Yld) (a : Nat), Runs s a ys b → Runs p a ys b
  | [], a, h => h
  | y :: ys, a, h => by
    obtain ⟨h1, h2, h3, h4, h5, h6, h7⟩ := h
    have hl := Runs.len h7
    have hn := tokS_n s a h1 h4
    have hx : nextAt s a ≤ b := by omega
    unfold nextAt at hx
    have hps : p.size = b := by rw [Lib.size_eq, hp, List.length_take, ← Lib.size_eq]; omega
    have e1 : tokS p a = tokS s a := by
      unfold tokS at hx ⊢
      rw [hp, List.drop_take]
      exact tok_take _ _ h4 (by omega)
    have e2 : nextAt p a = nextAt s a := by
      unfold nextAt
      rw [e1, hp, List.drop_take, skipF_take _ _ _ (by omega)]
    refine ⟨by omega, h2, h3, by rw [e1]; exact h4, by rw [e1]; exact h5, by rw [e1]; exact h6, ?_⟩
    rw [e2]
    exact runs_take s p b hp hb ys _ h7
theorem err_front (s p : ByteArray) (ys : List Yld) (b : Nat) (hp : p.data.toList = s.data.toList.take b) (hs : s.size ≤ 65536) (h : Runs s (startS s) ys b) (hb : b < s.size) : (lexS p).err = 0 := by
  have hps : p.size = b := by rw [Lib.size_eq, hp, List.length_take, ← Lib.size_eq]; omega
  have hl := Runs.len h
  have e1 : startS p = startS s := by
    unfold startS at hl ⊢
    rw [hp, skipF_take _ _ _ (by omega)]
  have hr := runs_take s p b hp (by omega) ys _ h
  rw [← e1] at hr
  have := lex_done p (by omega) ys (by rw [hps]; exact hr)
  rw [this]
theorem err_back (s q : ByteArray) (ys : List Yld) (b : Nat) (hq : q.data.toList = s.data.toList.drop b) (hs : s.size ≤ 65536) (h : Runs s (startS s) ys b) (hb : b < s.size) (he : (tokS s b).err ≠ 0) : lexS q = ⟨[], 0, (tokS s b).err⟩ := by
  have hqs : q.size = s.size - b := by rw [Lib.size_eq, hq, List.length_drop, ← Lib.size_eq]
  have e1 : startS q = 0 := by unfold startS; rw [hq]; exact Runs.skip h (start_skip s)
  have e2 : tokS q 0 = tokS s b := by unfold tokS; rw [hq, List.drop_zero]
  have := lex_stop q (by omega) [] 0 e1 (by omega) (by rw [e2]; exact he)
  rw [this, e2]
/-- the whole: for a source with an error. -/
theorem err_all (s : ByteArray) (hs : s.size ≤ 65536) (he : (lexS s).err ≠ 0) :
    (lexS s).off < s.size ∧ ∀ p q : ByteArray, p.data.toList = s.data.toList.take (lexS s).off → q.data.toList = s.data.toList.drop (lexS s).off → (lexS p).err = 0 ∧ (lexS q).err = (lexS s).err ∧ (lexS q).off = 0 := by
  rcases lex_cases s hs with ⟨ys, h1, h2⟩ | ⟨ys, b, h1, h2, h3, h4⟩
  · rw [h2] at he; exact absurd rfl he
  · rw [h4]
    refine ⟨h2, fun p q hp hq => ⟨err_front s p ys b hp hs h1 h2, ?_⟩⟩
    rw [err_back s q ys b hq hs h1 h2 h3]
    exact ⟨rfl, rfl⟩
end Go.Proofs.YtmlfoffahfbalaaDoor
