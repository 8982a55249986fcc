/- Plain facts: every source is a run of tokens up to its end or to the first error; a source cut at the first error has no error. -/
import Derived.Test.YtmlfoffahfbalaaDoorPlainRuns
namespace Go.Proofs.YtmlfoffahfbalaaDoor
open Go

theorem run_cases (s : ByteArray) : ∀ (n a : Nat), s.size - a ≤ n → a ≤ s.size → ∃ ys b, Runs s a ys b ∧ (b = s.size ∨ (b < s.size ∧ (tokS s b).err ≠ 0))
  | 0, a, h, ha => ⟨[], a, rfl, .inl (by omega)⟩
  | n + 1, a, h, ha => by
    by_cases h1 : a < s.size
    · by_cases h2 : (tokS s a).err = 0
      · have h3 := nextAt_le s a h1 h2
        obtain ⟨ys, b, h4, h5⟩ := run_cases s n (nextAt s a) (by omega) h3.2
        exact ⟨⟨(tokS s a).kind, ⟨(tokS s a).text.toArray⟩, a, 0⟩ :: ys, b, ⟨h1, rfl, rfl, h2, rfl, rfl, h4⟩, h5⟩
      · exact ⟨[], a, rfl, .inr ⟨h1, h2⟩⟩
    · exact ⟨[], a, rfl, .inl (by omega)⟩
theorem lex_cases (s : ByteArray) (hs : s.size ≤ 65536) :
    (∃ ys, Runs s (startS s) ys s.size ∧ lexS s = ⟨ys.map keyY ++ [(0, [], s.size)], 0, 0⟩) ∨
    (∃ ys b, Runs s (startS s) ys b ∧ b < s.size ∧ (tokS s b).err ≠ 0 ∧ lexS s = ⟨[], b, (tokS s b).err⟩) := by
  obtain ⟨ys, b, h1, h2⟩ := run_cases s s.size (startS s) (by omega) (startS_le s)
  rcases h2 with rfl | ⟨h2, h3⟩
  · exact .inl ⟨ys, h1, lex_done s hs ys h1⟩
  · exact .inr ⟨ys, b, h1, h2, h3, lex_stop s hs ys b h1 h2 h3⟩

/-- behind blanks stands no blank. -/
theorem skipF_idem : ∀ (b : Bool) (l : List UInt8), skipF false (l.drop (skipF b l)) = 0
  | _, [] => by simp [skipF]
  | true, c :: r => by
    rw [skipF, Nat.add_comm, List.drop_succ_cons]
    exact skipF_idem (c != 10) r
  | false, c :: r => by
    by_cases h1 : (c == 47 && r.head? == some 47) = true
    · rw [skipF, if_pos h1, Nat.add_comm, List.drop_succ_cons]
      exact skipF_idem true r
    · by_cases h2 : blankB c = true
      · rw [skipF, if_neg h1, if_pos h2, Nat.add_comm, List.drop_succ_cons]
        exact skipF_idem false r
      · rw [skipF, if_neg h1, if_neg h2, List.drop_zero, skipF, if_neg h1, if_neg h2]
theorem head_take (r : List UInt8) (n : Nat) (h : (r.take n).head? = some 47) : r.head? = some 47 := by
  cases n with
  | zero => simp at h
  | succ n => cases r with
    | nil => simp at h
    | cons c r => simpa using h
/-- blanks of a source that is cut behind them. -/
theorem skipF_take : ∀ (b : Bool) (l : List UInt8) (m : Nat), skipF b l ≤ m → skipF b (l.take m) = skipF b l
  | _, [], m, h => by simp [skipF]
  | true, c :: r, m, h => by
    rw [skipF] at h
    cases m with
    | zero => omega
    | succ m => rw [List.take_succ_cons, skipF, skipF, skipF_take (c != 10) r m (by omega)]
  | false, c :: r, m, h => by
    by_cases h1 : (c == 47 && r.head? == some 47) = true
    · rw [skipF, if_pos h1] at h
      cases m with
      | zero => omega
      | succ m =>
        have h3 : 0 < m := by
          cases r with
          | nil => simp at h1
          | cons d r => rw [skipF] at h; omega
        have h2 : (c == 47 && (r.take m).head? == some 47) = true := by
          cases m with
          | zero => omega
          | succ m => cases r with
            | nil => simp at h1
            | cons d r => simpa using h1
        rw [List.take_succ_cons, skipF, skipF, if_pos h1, if_pos h2, skipF_take true r m (by omega)]
    · by_cases h2 : blankB c = true
      · rw [skipF, if_neg h1, if_pos h2] at h
        cases m with
        | zero => omega
        | succ m =>
          have h3 : ¬ (c == 47 && (r.take m).head? == some 47) = true := by
            intro h3
            apply h1
            simp only [Bool.and_eq_true, beq_iff_eq] at h3 ⊢
            exact ⟨h3.1, head_take r m h3.2⟩
          rw [List.take_succ_cons, skipF, skipF, if_neg h1, if_pos h2, if_neg h3, if_pos h2, skipF_take false r m (by omega)]
      · cases m with
        | zero => rw [List.take_zero]; conv => rhs; rw [skipF, if_neg h1, if_neg h2]
                  rw [skipF]
        | succ m =>
          have h3 : ¬ (c == 47 && (r.take m).head? == some 47) = true := by
            intro h3
            apply h1
            simp only [Bool.and_eq_true, beq_iff_eq] at h3 ⊢
            exact ⟨h3.1, head_take r m h3.2⟩
          rw [List.take_succ_cons, skipF, skipF, if_neg h1, if_neg h2, if_neg h3, if_neg h2]

theorem takeWhile_take (p : UInt8 → Bool) : ∀ (l : List UInt8) (m : Nat), (l.takeWhile p).length ≤ m → (l.take m).takeWhile p = l.takeWhile p
  | [], m, h => by simp
  | c :: r, m, h => by
    by_cases hc : p c = true
    · rw [List.takeWhile_cons, if_pos hc] at h ⊢
      cases m with
      | zero => simp at h
      | succ m => rw [List.take_succ_cons, List.takeWhile_cons, if_pos hc, takeWhile_take p r m (by simpa using h)]
    · rw [List.takeWhile_cons, if_neg hc]
      cases m with
      | zero => rfl
      | succ m => rw [List.take_succ_cons, List.takeWhile_cons, if_neg hc]
theorem chr_take (l : List UInt8) (m : Nat) (h0 : chrN l ≠ 0) (h : chrN l ≤ m) : chrN (l.take m) = chrN l ∧ chrB (l.take m) = chrB l := by
  match l, m with
  | [], m => simp
  | c :: r, 0 => omega
  | c :: r, m + 1 =>
    rw [List.take_succ_cons]
    by_cases h1 : (c < 32 || c == 34) = true
    · unfold chrN at h0; simp only [if_pos h1] at h0; exact absurd rfl h0
    · by_cases h2 : (c != 92) = true
      · simp only [chrN, chrB, if_neg h1, if_pos h2, and_self]
      · match r, m with
        | [], m => simp
        | d :: q, 0 =>
          unfold chrN at h h0
          simp only [if_neg h1, if_neg h2] at h h0
          repeat' split at h
          all_goals first | omega | (exfalso; simp_all; done)
        | d :: q, m + 1 =>
          rw [List.take_succ_cons]
          by_cases h3 : (d == 34 || d == 92 || d == 110) = true
          · simp only [chrN, if_neg h1, if_neg h2, if_pos h3, true_and]
            simp only [chrB, if_neg h2]
            by_cases h4 : (d == 34 || d == 92) = true
            · rw [if_pos h4, if_pos h4]
            · have h5 : (d == 110) = true := by
                rw [Bool.or_eq_true] at h3
                exact h3.resolve_left h4
              rw [if_neg h4, if_neg h4, if_pos h5, if_pos h5]
          · by_cases h4 : (d == 120) = true
            · match q, m with
              | [], m => simp
              | [x], m =>
                unfold chrN at h0
                simp only [if_neg h1, if_neg h2] at h0
                simp only [if_neg h3, if_pos h4] at h0
                exact absurd rfl h0
              | x :: y :: t, 0 =>
                unfold chrN at h h0
                simp only [if_neg h1, if_neg h2] at h h0
                simp only [if_neg h3, if_pos h4] at h h0
                split at h
                · omega
                · rename_i h7; rw [if_neg h7] at h0; exact absurd rfl h0
              | x :: y :: t, 1 =>
                unfold chrN at h h0
                simp only [if_neg h1, if_neg h2] at h h0
                simp only [if_neg h3, if_pos h4] at h h0
                split at h
                · omega
                · rename_i h7; rw [if_neg h7] at h0; exact absurd rfl h0
              | x :: y :: t, m + 2 =>
                have h5 : ¬ (d == 34 || d == 92) = true := fun e => h3 (by rw [e]; rfl)
                have h6 : ¬ (d == 110) = true := fun e => h3 (by rw [e]; simp)
                rw [List.take_succ_cons, List.take_succ_cons]
                simp only [chrN, chrB, if_neg h1, if_neg h2, if_neg h3, if_pos h4, if_neg h5, if_neg h6, and_self]
            · unfold chrN at h0
              simp only [if_neg h1, if_neg h2] at h0
              simp only [if_neg h3, if_neg h4] at h0
              exact absurd rfl h0
theorem lit_take : ∀ (k : Nat) (l t : List UInt8) (n m : Nat), l.length ≤ k → litL l = some (t, n) → n ≤ m → litL (l.take m) = some (t, n)
  | k, [], t, n, m, _, h, _ => by rw [litL_nil] at h; cases h
  | 0, c :: r, t, n, m, hk, h, _ => by simp at hk
  | k + 1, c :: r, t, n, m, hk, h, hm => by
    have hn := litL_le h
    by_cases hc : c = 34
    · subst hc
      rw [litL_quote] at h
      cases h
      cases m with
      | zero => omega
      | succ m => rw [List.take_succ_cons, litL_quote]
    · by_cases h0 : chrN (c :: r) = 0
      · rw [litL_bad c r hc h0] at h; cases h
      · rw [litL_step c r hc h0] at h
        cases e : litL ((c :: r).drop (chrN (c :: r))) with
        | none => rw [e] at h; cases h
        | some p =>
          obtain ⟨t', n'⟩ := p
          rw [e] at h
          simp only [Option.some.injEq, Prod.mk.injEq] at h
          obtain ⟨rfl, rfl⟩ := h
          obtain ⟨g1, g2⟩ := chr_take (c :: r) m h0 (by omega)
          have e2 : (c :: r).take m = c :: r.take (m - 1) := by
            cases m with
            | zero => omega
            | succ m => rw [List.take_succ_cons]; rfl
          have hl : ((c :: r).drop (chrN (c :: r))).length ≤ k := by rw [List.length_drop]; have : (c :: r).length = r.length + 1 := rfl; omega
          have ih := lit_take k _ t' n' (m - chrN (c :: r)) hl e (by omega)
          rw [e2] at g1 g2 ⊢
          rw [litL_step c _ hc (by rw [g1]; exact h0), g1, g2, ← e2, List.drop_take, ih]
theorem sym_take (l : List UInt8) (m : Nat) (h : symL l ≠ []) (hm : (symL l).length ≤ m) : symL (l.take m) = symL l := by
  cases e : symList.find? (fun x => x.data.toList.isPrefixOf l) with
  | none => unfold symL at h; rw [e] at h; exact absurd rfl h
  | some x =>
    have e1 : symL l = x.data.toList := by unfold symL; rw [e]
    rw [e1] at hm
    obtain ⟨g1, k, hk, g2, g3⟩ := List.find?_eq_some_iff_getElem.1 e
    have e2 : symList.find? (fun x => x.data.toList.isPrefixOf (l.take m)) = some x := by
      rw [List.find?_eq_some_iff_getElem]
      refine ⟨?_, k, hk, g2, fun j hj => ?_⟩
      · rw [List.isPrefixOf_iff_prefix] at g1 ⊢
        exact List.prefix_take_iff.2 ⟨g1, hm⟩
      · have := g3 j hj
        simp only [Bool.not_eq_true'] at this ⊢
        cases e3 : (symList[j]).data.toList.isPrefixOf (l.take m) with
        | false => rfl
        | true =>
          rw [List.isPrefixOf_iff_prefix] at e3
          have := (List.isPrefixOf_iff_prefix.2 (e3.trans (List.take_prefix m l)))
          simp_all
    rw [e1]; unfold symL; rw [e2]
/-- a token of a source that is cut behind it. -/
theorem tok_take (l : List UInt8) (m : Nat) (h : (tokL l).err = 0) (hm : (tokL l).n ≤ m) : tokL (l.take m) = tokL l := by
  cases l with
  | nil => simp
  | cons c r =>
    have hn := tokL_n c r h
    have hm1 : 1 ≤ m := by omega
    have e2 : (c :: r).take m = c :: r.take (m - 1) := by
      cases m with
      | zero => omega
      | succ m => rw [List.take_succ_cons]; rfl
    by_cases h1 : (c == 34) = true
    · cases e : litL r with
      | none => rw [tokL, if_pos h1, e] at h; exact absurd h (by decide)
      | some p =>
        obtain ⟨t, n⟩ := p
        have ht : tokL (c :: r) = ⟨4, t, n + 1, 0⟩ := by rw [tokL, if_pos h1, e]
        rw [ht] at hm ⊢
        have hm2 : n + 1 ≤ m := hm
        rw [e2, tokL, if_pos h1, lit_take r.length r t n (m - 1) (Nat.le_refl _) e (by omega)]
    · by_cases h2 : digitB c = true
      · by_cases h3 : 19 < ((c :: r).takeWhile digitB).length ∨ (1 < ((c :: r).takeWhile digitB).length ∧ c = 48) ∨ (((c :: r).drop ((c :: r).takeWhile digitB).length).head?.any wordB) = true
        · rw [tokL, if_neg h1, if_pos h2, if_pos h3] at h; exact absurd h (by decide)
        · have ht : tokL (c :: r) = ⟨3, (c :: r).takeWhile digitB, ((c :: r).takeWhile digitB).length, 0⟩ := by rw [tokL, if_neg h1, if_pos h2, if_neg h3]
          rw [ht] at hm ⊢
          have e3 := takeWhile_take digitB (c :: r) m hm
          rw [e2] at e3 ⊢
          rw [tokL, if_neg h1, if_pos h2, e3, if_neg]
          intro h4
          apply h3
          rcases h4 with h4 | h4 | h4
          · exact .inl h4
          · exact .inr (.inl h4)
          · refine .inr (.inr ?_)
            rw [← e2, List.drop_take] at h4
            cases e4 : (c :: r).drop ((c :: r).takeWhile digitB).length with
            | nil => rw [e4] at h4; simp at h4
            | cons d q =>
              rw [e4] at h4
              cases e5 : m - ((c :: r).takeWhile digitB).length with
              | zero => rw [e5] at h4; simp at h4
              | succ z => rw [e5] at h4; simpa using h4
      · by_cases h3 : (smallZ c.toNat || capitalZ c.toNat) = true
        · have hw : ((c :: r).takeWhile wordB).length ≤ m := by
            rw [tokL, if_neg h1, if_neg h2, if_pos h3] at hm h
            split at hm
            · exact hm
            · split at hm
              · exact hm
              · split at hm
                · exact hm
                · rename_i g1 g2 g3
                  rw [if_neg g1, if_neg g2, if_neg g3] at h; exact absurd h (by decide)
          have e3 := takeWhile_take wordB (c :: r) m hw
          rw [e2] at e3 ⊢
          rw [tokL, if_neg h1, if_neg h2, if_pos h3, e3, tokL, if_neg h1, if_neg h2, if_pos h3]
        · by_cases h4 : symL (c :: r) = []
          · rw [tokL, if_neg h1, if_neg h2, if_neg h3, if_pos h4] at h; exact absurd h (by decide)
          · have ht : tokL (c :: r) = ⟨6, symL (c :: r), (symL (c :: r)).length, 0⟩ := by rw [tokL, if_neg h1, if_neg h2, if_neg h3, if_neg h4]
            rw [ht] at hm ⊢
            have e3 := sym_take (c :: r) m h4 hm
            rw [e2] at e3 ⊢
            rw [tokL, if_neg h1, if_neg h2, if_neg h3, e3, if_neg h4]
end Go.Proofs.YtmlfoffahfbalaaDoor
