/- Plain facts: tokens that are written down with blanks between them are read back. -/
import Derived.Test.YtmlfoffahfbalaaDoorPlainBack
import Derived.Test.YtmlfoffahfbalaaDoorPlainOffs
namespace Go.Proofs.YtmlfoffahfbalaaDoor
open Go

/-- the source of a token. -/
def writtenL (k : Int) (t : List UInt8) : List UInt8 := if k = 4 then quoteL t else t
/-- nothing, or a blank and more. -/
def BlankHead (l : List UInt8) : Prop := l = [] ∨ ∃ c r, l = c :: r ∧ blankB c = true
theorem blank_cases {c : UInt8} (h : blankB c = true) : c = 32 ∨ c = 9 ∨ c = 10 ∨ c = 13 := by
  simp only [blankB, Bool.or_eq_true, beq_iff_eq] at h
  rcases h with ((h | h) | h) | h <;> simp [h]
theorem blank_word {c : UInt8} (h : blankB c = true) : wordB c = false ∧ digitB c = false ∧ c ≠ 47 := by
  rcases blank_cases h with rfl | rfl | rfl | rfl <;> exact ⟨by decide, by decide, by decide⟩
/-- what stands ahead of a blank is the whole stretch. -/
theorem takeWhile_blank (p : UInt8 → Bool) (hp : ∀ c, blankB c = true → p c = false) (l rest : List UInt8) (h : ∀ b ∈ l, p b = true) (hr : BlankHead rest) : (l ++ rest).takeWhile p = l := by
  induction l with
  | nil =>
    rcases hr with rfl | ⟨c, r, rfl, hc⟩
    · rfl
    · rw [List.nil_append, List.takeWhile_cons, if_neg (by rw [hp c hc]; exact Bool.false_ne_true)]
  | cons b l ih => rw [List.cons_append, List.takeWhile_cons, if_pos (h b (by simp)), ih (fun x hx => h x (by simp [hx]))]
theorem skip_start (c : UInt8) (r : List UInt8) (h : blankB c = false) (h2 : c ≠ 47 ∨ ¬ r.head? = some 47) : skipF false (c :: r) = 0 := by
  rw [skipF, if_neg, if_neg (by rw [h]; exact Bool.false_ne_true)]
  intro e
  simp only [Bool.and_eq_true, beq_iff_eq] at e
  rcases h2 with h2 | h2
  · exact h2 e.1
  · exact h2 e.2
/-- a token that is read back wherever a blank or nothing follows it. -/
def Good (k : Int) (t : List UInt8) : Prop :=
  ∀ rest, BlankHead rest → tokL (writtenL k t ++ rest) = ⟨k, t, (writtenL k t).length, 0⟩ ∧ skipF false (writtenL k t ++ rest) = 0 ∧ 1 ≤ (writtenL k t).length
theorem good_text (t : List UInt8) : Good 4 t := by
  intro rest _
  have e : writtenL 4 t = quoteL t := by unfold writtenL; rw [if_pos rfl]
  rw [e]
  refine ⟨tok_quoted t rest, ?_, by rw [quote_len]; omega⟩
  have e2 : quoteL t ++ rest = 34 :: (t.flatMap qB ++ 34 :: rest) := by unfold quoteL; simp
  rw [e2]
  exact skip_start 34 _ (by decide) (.inl (by decide))
theorem good_number (c : UInt8) (r : List UInt8) (hd : ∀ b ∈ c :: r, digitB b = true) (h1 : ¬ (c :: r).length > 19) (h2 : ¬ (1 < (c :: r).length ∧ c = 48)) : Good 3 (c :: r) := by
  intro rest hr
  have e : writtenL 3 (c :: r) = c :: r := by unfold writtenL; rw [if_neg (by decide)]
  rw [e]
  have hc := hd c (by simp)
  have hcz : 48 ≤ c.toNat ∧ c.toNat ≤ 57 := by unfold digitB digitZ at hc; simp only [Bool.and_eq_true, decide_eq_true_eq] at hc; omega
  have hn34 : (c == 34) = false := by rw [beq_eq_false_iff_ne]; intro h; rw [h] at hcz; exact absurd hcz (by decide)
  have htw := takeWhile_blank digitB (fun x hx => (blank_word hx).2.1) (c :: r) rest hd hr
  refine ⟨?_, ?_, by simp⟩
  · rw [List.cons_append] at htw ⊢
    rw [tokL, hn34, if_neg Bool.false_ne_true, if_pos hc, htw, if_neg]
    rintro (h | h | h)
    · exact h1 h
    · exact h2 h
    · rw [← List.cons_append, List.drop_left] at h
      rcases hr with rfl | ⟨d, q, rfl, hd2⟩
      · simp at h
      · have := (blank_word hd2).1
        simp [this] at h
  · rw [List.cons_append]
    refine skip_start c _ ?_ (.inl ?_)
    · cases hb : blankB c with
      | false => rfl
      | true => have := (blank_word hb).2.1; rw [this] at hc; cases hc
    · intro h; rw [h] at hcz; exact absurd hcz (by decide)
theorem good_word (k : Int) (c : UInt8) (r : List UInt8) (hw : ∀ b ∈ c :: r, wordB b = true) (hl : (smallZ c.toNat || capitalZ c.toNat) = true)
    (hk : (kwL (c :: r) = true ∧ k = 5) ∨ (kwL (c :: r) = false ∧ nameL (c :: r) = true ∧ k = 1) ∨ (kwL (c :: r) = false ∧ nameL (c :: r) = false ∧ typeL (c :: r) = true ∧ k = 2)) : Good k (c :: r) := by
  intro rest hr
  have hk4 : k ≠ 4 := by rcases hk with ⟨_, h⟩ | ⟨_, _, h⟩ | ⟨_, _, _, h⟩ <;> rw [h] <;> decide
  have e : writtenL k (c :: r) = c :: r := by unfold writtenL; rw [if_neg hk4]
  rw [e]
  have hc := hw c (by simp)
  have hcz : 65 ≤ c.toNat := by
    rw [Bool.or_eq_true] at hl
    simp only [smallZ, capitalZ, Bool.and_eq_true, decide_eq_true_eq] at hl
    omega
  have hn34 : (c == 34) = false := by rw [beq_eq_false_iff_ne]; intro h; rw [h] at hcz; exact absurd hcz (by decide)
  have hnd : digitB c = false := by unfold digitB digitZ; simp; omega
  have htw := takeWhile_blank wordB (fun x hx => (blank_word hx).1) (c :: r) rest hw hr
  refine ⟨?_, ?_, by simp⟩
  · rw [List.cons_append] at htw ⊢
    rw [tokL, hn34, if_neg Bool.false_ne_true, hnd, if_neg Bool.false_ne_true, if_pos hl, htw]
    rcases hk with ⟨h1, rfl⟩ | ⟨h1, h2, rfl⟩ | ⟨h1, h2, h3, rfl⟩
    · rw [if_pos h1]
    · rw [h1, if_neg Bool.false_ne_true, if_pos h2]
    · rw [h1, if_neg Bool.false_ne_true, h2, if_neg Bool.false_ne_true, if_pos h3]
  · rw [List.cons_append]
    refine skip_start c _ ?_ (.inl ?_)
    · cases hb : blankB c with
      | false => rfl
      | true => have := (blank_word hb).1; rw [this] at hc; cases hc
    · intro h; rw [h] at hcz; exact absurd hcz (by decide)

theorem sym_blank : ∀ x ∈ symList, ∀ b ∈ x.data.toList, blankB b = false := by decide
theorem sym_first : ∀ x ∈ symList, ∀ c r, x.data.toList = c :: r → c ≠ 34 ∧ digitB c = false ∧ (smallZ c.toNat || capitalZ c.toNat) = false ∧ (c = 47 → r = []) := by
  intro x hx c r h
  have all : symList.all (fun x => match x.data.toList with | [] => true | c :: r => (c != 34) && !digitB c && !(smallZ c.toNat || capitalZ c.toNat) && (c != 47 || r.isEmpty)) = true := by decide +kernel
  have := List.all_eq_true.1 all x hx
  rw [h] at this
  simp only [Bool.and_eq_true, Bool.not_eq_true', bne_iff_ne, ne_eq, Bool.or_eq_true, List.isEmpty_iff] at this
  obtain ⟨⟨⟨a1, a2⟩, a3⟩, a4⟩ := this
  exact ⟨a1, a2, a3, fun h47 => a4.resolve_left (fun h => h h47)⟩
/-- a prefix of a stretch without blanks, and of what a blank follows. -/
theorem prefix_blank (y t rest : List UInt8) (hy : ∀ b ∈ y, blankB b = false) (hr : BlankHead rest) (h : y <+: t ++ rest) : y <+: t := by
  rcases Nat.lt_or_ge t.length y.length with hl | hl
  · exfalso
    rcases hr with rfl | ⟨c, r, rfl, hc⟩
    · rw [List.append_nil] at h; have := h.length_le; omega
    · obtain ⟨z, hz⟩ := h
      have h1 : (y ++ z)[t.length]? = some c := by rw [hz]; simp
      rw [List.getElem?_append_left hl] at h1
      have := hy c (List.mem_of_getElem? h1)
      rw [hc] at this; cases this
  · exact List.prefix_of_prefix_length_le h (List.prefix_append t rest) hl
theorem sym_back (l rest : List UInt8) (h : symL l ≠ []) (hr : BlankHead rest) : symL (symL l ++ rest) = symL l := by
  cases e : symList.find? (fun x => x.data.toList.isPrefixOf l) with
  | none => unfold symL at h; rw [e] at h; exact absurd rfl h
  | some x =>
    have e1 : symL l = x.data.toList := by unfold symL; rw [e]
    rw [e1]
    obtain ⟨g1, k, hk, g2, g3⟩ := List.find?_eq_some_iff_getElem.1 e
    have e2 : symList.find? (fun y => y.data.toList.isPrefixOf (x.data.toList ++ rest)) = some x := by
      rw [List.find?_eq_some_iff_getElem]
      refine ⟨List.isPrefixOf_iff_prefix.2 (List.prefix_append _ _), k, hk, g2, fun j hj => ?_⟩
      have g4 := g3 j hj
      simp only [Bool.not_eq_true'] at g4 ⊢
      cases e3 : (symList[j]).data.toList.isPrefixOf (x.data.toList ++ rest) with
      | false => rfl
      | true =>
        have h5 := prefix_blank _ _ _ (sym_blank _ (List.getElem_mem _)) hr (List.isPrefixOf_iff_prefix.1 e3)
        have h6 := List.isPrefixOf_iff_prefix.2 (h5.trans (List.isPrefixOf_iff_prefix.1 g1))
        rw [h6] at g4; cases g4
    unfold symL; rw [e2]
theorem good_symbol (l : List UInt8) (h : symL l ≠ []) : Good 6 (symL l) := by
  intro rest hr
  have hb := sym_back l rest h hr
  have hmem : ∃ x ∈ symList, symL l = x.data.toList := by
    cases e : symList.find? (fun x => x.data.toList.isPrefixOf l) with
    | none => unfold symL at h; rw [e] at h; exact absurd rfl h
    | some x => exact ⟨x, List.mem_of_find?_eq_some e, by unfold symL; rw [e]⟩
  obtain ⟨x, hx, ex⟩ := hmem
  have e : writtenL 6 (symL l) = symL l := by unfold writtenL; rw [if_neg (by decide)]
  rw [e]
  cases et : symL l with
  | nil => exact absurd et h
  | cons c r =>
    obtain ⟨a1, a2, a3, a4⟩ := sym_first x hx c r (by rw [← ex, et])
    have hbl := sym_blank x hx c (by rw [← ex, et]; simp)
    rw [et] at hb
    have hn34 : (c == 34) = false := by rw [beq_eq_false_iff_ne]; exact a1
    refine ⟨?_, ?_, by simp⟩
    · rw [List.cons_append] at hb ⊢
      rw [tokL, hn34, if_neg Bool.false_ne_true, a2, if_neg Bool.false_ne_true, a3, if_neg Bool.false_ne_true, hb, if_neg (by simp)]
    · rw [List.cons_append]
      refine skip_start c _ hbl ?_
      by_cases h47 : c = 47
      · refine .inr ?_
        rw [a4 h47, List.nil_append]
        rcases hr with rfl | ⟨d, q, rfl, hd⟩
        · simp
        · intro h6
          have : d = 47 := by simpa using h6
          exact (blank_word hd).2.2 this
      · exact .inl h47
/-- every token of a source is read back. -/
theorem tok_good (l : List UInt8) (h : (tokL l).err = 0) : Good (tokL l).kind (tokL l).text := by
  cases l with
  | nil => exact absurd h (by decide)
  | cons c r =>
    by_cases h1 : (c == 34) = true
    · cases e : litL r with
      | none => rw [tokL, if_pos h1, e] at h; exact absurd h (by decide)
      | some p =>
        obtain ⟨t, n⟩ := p
        have ht : tokL (c :: r) = ⟨4, t, n + 1, 0⟩ := by rw [tokL, if_pos h1, e]
        rw [ht]; exact good_text t
    · have tw : ∀ p : UInt8 → Bool, p c = true → ∃ q, (c :: r).takeWhile p = c :: q ∧ ∀ b ∈ c :: q, p b = true := fun p hp => by
        refine ⟨r.takeWhile p, by rw [List.takeWhile_cons, if_pos hp], fun b hb => ?_⟩
        have h5 := List.all_eq_true.1 (List.all_takeWhile (l := c :: r) (p := p)) b
        rw [List.takeWhile_cons, if_pos hp] at h5
        exact h5 hb
      by_cases h2 : digitB c = true
      · by_cases h3 : 19 < ((c :: r).takeWhile digitB).length ∨ (1 < ((c :: r).takeWhile digitB).length ∧ c = 48) ∨ (((c :: r).drop ((c :: r).takeWhile digitB).length).head?.any wordB) = true
        · rw [tokL, if_neg h1, if_pos h2, if_pos h3] at h; exact absurd h (by decide)
        · have ht : tokL (c :: r) = ⟨3, (c :: r).takeWhile digitB, ((c :: r).takeWhile digitB).length, 0⟩ := by rw [tokL, if_neg h1, if_pos h2, if_neg h3]
          rw [ht]
          obtain ⟨q, hq, hall⟩ := tw digitB h2
          simp only
          rw [hq] at h3 ⊢
          exact good_number c q hall (fun h => h3 (.inl h)) (fun h => h3 (.inr (.inl h)))
      · by_cases h3 : (smallZ c.toNat || capitalZ c.toNat) = true
        · have hw : wordB c = true := by
            unfold wordB wordZ
            rw [Bool.or_eq_true] at h3
            rcases h3 with h3 | h3 <;> simp [h3]
          obtain ⟨q, hq, hall⟩ := tw wordB hw
          by_cases g1 : kwL ((c :: r).takeWhile wordB) = true
          · have ht : tokL (c :: r) = ⟨5, (c :: r).takeWhile wordB, ((c :: r).takeWhile wordB).length, 0⟩ := by rw [tokL, if_neg h1, if_neg h2, if_pos h3, if_pos g1]
            rw [ht]; simp only; rw [hq] at g1 ⊢
            exact good_word 5 c q hall h3 (.inl ⟨g1, rfl⟩)
          · have f1 : kwL ((c :: r).takeWhile wordB) = false := by simpa using g1
            by_cases g2 : nameL ((c :: r).takeWhile wordB) = true
            · have ht : tokL (c :: r) = ⟨1, (c :: r).takeWhile wordB, ((c :: r).takeWhile wordB).length, 0⟩ := by rw [tokL, if_neg h1, if_neg h2, if_pos h3, if_neg g1, if_pos g2]
              rw [ht]; simp only; rw [hq] at f1 g2 ⊢
              exact good_word 1 c q hall h3 (.inr (.inl ⟨f1, g2, rfl⟩))
            · have f2 : nameL ((c :: r).takeWhile wordB) = false := by simpa using g2
              by_cases g3 : typeL ((c :: r).takeWhile wordB) = true
              · have ht : tokL (c :: r) = ⟨2, (c :: r).takeWhile wordB, ((c :: r).takeWhile wordB).length, 0⟩ := by rw [tokL, if_neg h1, if_neg h2, if_pos h3, if_neg g1, if_neg g2, if_pos g3]
                rw [ht]; simp only; rw [hq] at f1 f2 g3 ⊢
                exact good_word 2 c q hall h3 (.inr (.inr ⟨f1, f2, g3, rfl⟩))
              · rw [tokL, if_neg h1, if_neg h2, if_pos h3, if_neg g1, if_neg g2, if_neg g3] at h; exact absurd h (by decide)
        · by_cases h4 : symL (c :: r) = []
          · rw [tokL, if_neg h1, if_neg h2, if_neg h3, if_pos h4] at h; exact absurd h (by decide)
          · have ht : tokL (c :: r) = ⟨6, symL (c :: r), (symL (c :: r)).length, 0⟩ := by rw [tokL, if_neg h1, if_neg h2, if_neg h3, if_neg h4]
            rw [ht]; exact good_symbol (c :: r) h4
end Go.Proofs.YtmlfoffahfbalaaDoor
