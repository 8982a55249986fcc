/- An alternative of a constraint in the reference's way, plain. -/
import Derived.Test.YtdhihdiifgcfdaaGreatDoorCPlainBack
namespace Go.Proofs.YtdhihdiifgcfdaaGreatDoor
set_option linter.unusedVariables false
set_option linter.unusedSimpArgs false
open Go

theorem dd_tail : ∀ (a b : List UInt8), [] ∈ (dotsL (a ++ 46 :: 46 :: b)).tail
  | [], b => by rw [List.nil_append, dotsL_dot, dotsL_dot]; simp
  | c :: a, b => by
    have ih := dd_tail a b
    rw [List.cons_append]
    by_cases hc : c = 46
    · subst hc
      rw [dotsL_dot, List.tail_cons]
      exact List.mem_of_mem_tail ih
    · cases e : dotsL (a ++ 46 :: 46 :: b) with
      | nil => exact absurd e (dotsL_ne _)
      | cons h t =>
        rw [e] at ih
        rw [dotsL_other c _ h t hc e]
        exact ih
theorem dots_err (r : List UInt8) (h : 0 ≤ Lib.index r [46, 46]) : parseV r = ((0, 0, 0), 3) := by
  obtain ⟨i, hi, _, ho, _⟩ : ∃ i : Nat, Lib.index r [46, 46] = i ∧ i ≤ r.length ∧ Lib.occAt r [46, 46] i = true ∧ Lib.NoOcc r [46, 46] i := by
    rcases Lib.index_spec r [46, 46] with h2 | h2
    · rw [h2.1] at h; exact absurd h (by decide)
    · exact h2
  unfold Lib.occAt at ho
  obtain ⟨t, ht⟩ := List.isPrefixOf_iff_prefix.1 ho
  have e : r = r.take i ++ 46 :: 46 :: t := by
    conv => lhs; rw [← List.take_append_drop i r]
    rw [← ht]; rfl
  have hm := dd_tail (r.take i) t
  rw [← e] at hm
  unfold parseV
  split
  · rename_i x y z e2
    rw [e2] at hm
    have hw : wordOk [] = false := rfl
    have hno : ¬ (wordOk x && (wordOk y && wordOk z)) = true := by
      simp only [List.tail_cons, List.mem_cons, List.not_mem_nil, or_false] at hm
      rcases hm with rfl | rfl
      · rw [hw]; simp
      · rw [hw]; simp
    rw [if_neg hno]
  · rfl
theorem alt_of {m : Int} {l : List UInt8} {x : Int × Int} {sy ot : Bool} (hn : l ≠ [110, 111, 110, 101]) (hst : l ≠ [42]) (hs : spanP m l = (x, sy, ot)) :
    altV m l = if sy = true then ((0, 0), 3) else if ot = true ∨ x.2 ≤ x.1 then ((0, 0), 1) else (x, 0) := by
  unfold altV
  rw [if_neg hn, if_neg hst, hs]
theorem syn_of {l : List UInt8} {v : (Int × Int × Int) × Int} (h : parseV l = v) : synB l = decide (v.2 ≠ 0) ∧ plV l = 1000 * v.1.2.1 + v.1.2.2 ∧ ∀ m, othB m l = decide (v.1.1 ≠ m) := by
  unfold synB plV othB
  rw [h]
  exact ⟨rfl, rfl, fun _ => rfl⟩
theorem mark_ne {c : UInt8} (hc : c = 94 ∨ c = 126) (r : List UInt8) : (c :: r) ≠ [110, 111, 110, 101] ∧ (c :: r) ≠ [42] := by
  rcases hc with rfl | rfl
  · exact ⟨fun e => absurd (List.cons.inj e).1 (by decide), fun e => absurd (List.cons.inj e).1 (by decide)⟩
  · exact ⟨fun e => absurd (List.cons.inj e).1 (by decide), fun e => absurd (List.cons.inj e).1 (by decide)⟩
theorem mark_err {m : Int} {c : UInt8} (hc : c = 94 ∨ c = 126) {r : List UInt8} (h : parseV r = ((0, 0, 0), 3)) : altV m (c :: r) = ((0, 0), 3) := by
  obtain ⟨h1, h2, h3⟩ := syn_of h
  obtain ⟨n1, n2⟩ := mark_ne hc r
  have e : (spanP m (c :: r)).2.1 = true := by
    unfold spanP
    rcases hc with rfl | rfl
    · rw [if_pos (hat_head _)]; exact h1
    · rw [if_neg (tilde_head _).1, if_pos (tilde_head _).2]; exact h1
  rw [alt_of n1 n2 (x := (spanP m (c :: r)).1) (sy := (spanP m (c :: r)).2.1) (ot := (spanP m (c :: r)).2.2) rfl, if_pos e]
theorem hat_ok {m a b d : Int} {r : List UInt8} (h : parseV r = ((a, b, d), 0)) (hb : b ≤ 999) (hd : d ≤ 999) : altV m (94 :: r) = if a = m then ((1000 * b + d, 1000000), 0) else ((0, 0), 1) := by
  obtain ⟨h1, h2, h3⟩ := syn_of h
  obtain ⟨n1, n2⟩ := mark_ne (.inl rfl) r
  have e : spanP m (94 :: r) = ((1000 * b + d, 1000000), false, decide (a ≠ m)) := by
    unfold spanP
    rw [if_pos (hat_head _), List.tail_cons, h1, h2, h3]
    simp
  rw [alt_of n1 n2 e, if_neg (by decide)]
  simp only [decide_eq_true_eq]
  by_cases ha : a = m
  · rw [if_pos ha, if_neg (by omega)]
  · rw [if_neg ha, if_pos (.inl ha)]
theorem tilde_ok {m a b d : Int} {r : List UInt8} (h : parseV r = ((a, b, d), 0)) (h0 : 0 ≤ d) (hd : d ≤ 999) : altV m (126 :: r) = if a = m then ((1000 * b + d, 1000 * (b + 1)), 0) else ((0, 0), 1) := by
  obtain ⟨h1, h2, h3⟩ := syn_of h
  obtain ⟨n1, n2⟩ := mark_ne (.inr rfl) r
  have e : spanP m (126 :: r) = ((1000 * b + d, 1000 * (b + 1)), false, decide (a ≠ m)) := by
    unfold spanP
    rw [if_neg (tilde_head _).1, if_pos (tilde_head _).2, List.tail_cons, h1, h2, h3]
    show ((1000 * b + d, (1000 * b + d) / 1000 * 1000 + 1000), decide ((0 : Int) ≠ 0), decide (a ≠ m)) = _
    rw [show (1000 * b + d) / 1000 * 1000 + 1000 = 1000 * (b + 1) by omega]
    rfl
  rw [alt_of n1 n2 e, if_neg (by decide)]
  simp only [decide_eq_true_eq]
  by_cases ha : a = m
  · rw [if_pos ha, if_neg (by omega)]
  · rw [if_neg ha, if_pos (.inl ha)]
/-- no mark. -/
def NoMark (l : List UInt8) : Prop := l ≠ [110, 111, 110, 101] ∧ l ≠ [42] ∧ l.head? ≠ some 94 ∧ l.head? ≠ some 126
theorem one_span {l : List UInt8} (hl : NoMark l) (hi : ¬ 0 ≤ Lib.index l [46, 46]) (m : Int) : spanP m l = ((plV l, plV l + 1), synB l, othB m l) := by
  unfold spanP
  rw [if_neg hl.2.2.1, if_neg hl.2.2.2, if_neg hi]
theorem one_err {m : Int} {l : List UInt8} (hl : NoMark l) (hi : ¬ 0 ≤ Lib.index l [46, 46]) (h : parseV l = ((0, 0, 0), 3)) : altV m l = ((0, 0), 3) := by
  rw [alt_of hl.1 hl.2.1 (one_span hl hi m), (syn_of h).1, if_pos (by decide)]
theorem one_ok {m a b d : Int} {l : List UInt8} (hl : NoMark l) (hi : ¬ 0 ≤ Lib.index l [46, 46]) (h : parseV l = ((a, b, d), 0)) : altV m l = if a = m then ((1000 * b + d, 1000 * b + d + 1), 0) else ((0, 0), 1) := by
  obtain ⟨h1, h2, h3⟩ := syn_of h
  rw [alt_of hl.1 hl.2.1 (one_span hl hi m), h1, if_neg (show ¬ decide ((0 : Int) ≠ 0) = true by decide), h2, h3]
  simp only [decide_eq_true_eq]
  by_cases ha : a = m
  · rw [if_pos ha, if_neg (by omega)]
  · rw [if_neg ha, if_pos (.inl ha)]
theorem nil_err : parseV [] = ((0, 0, 0), 3) := by decide
/-- two ends. -/
theorem two_span {l : List UInt8} (hl : NoMark l) (i : Nat) (hi : Lib.index l [46, 46] = i) (m : Int) :
    spanP m l = ((if l.take i = [] then 0 else plV (l.take i), if l.drop (i + 2) = [] then 1000000 else plV (l.drop (i + 2))),
      (decide (l.take i = []) && decide (l.drop (i + 2) = [])) || ((!decide (l.take i = []) && synB (l.take i)) || (!decide (l.drop (i + 2) = []) && synB (l.drop (i + 2)))), (!decide (l.take i = []) && othB m (l.take i)) || (!decide (l.drop (i + 2) = []) && othB m (l.drop (i + 2)))) := by
  unfold spanP
  rw [if_neg hl.2.2.1, if_neg hl.2.2.2, hi, if_pos (by omega)]
  rfl
theorem two_nil {m : Int} {l : List UInt8} (hl : NoMark l) (i : Nat) (hi : Lib.index l [46, 46] = i) (h1 : l.take i = []) (h2 : l.drop (i + 2) = []) : altV m l = ((0, 0), 3) := by
  rw [alt_of hl.1 hl.2.1 (two_span hl i hi m), h1, h2, if_pos (by simp)]
theorem two_err1 {m : Int} {l : List UInt8} (hl : NoMark l) (i : Nat) (hi : Lib.index l [46, 46] = i) (h1 : l.take i ≠ []) (h : parseV (l.take i) = ((0, 0, 0), 3)) : altV m l = ((0, 0), 3) := by
  rw [alt_of hl.1 hl.2.1 (two_span hl i hi m), (syn_of h).1, if_pos (by simp [h1])]
theorem two_err2 {m : Int} {l : List UInt8} (hl : NoMark l) (i : Nat) (hi : Lib.index l [46, 46] = i) (h1 : l.drop (i + 2) ≠ []) (h : parseV (l.drop (i + 2)) = ((0, 0, 0), 3)) : altV m l = ((0, 0), 3) := by
  rw [alt_of hl.1 hl.2.1 (two_span hl i hi m), (syn_of h).1, if_pos (by simp [h1])]
theorem two_first {m a b d : Int} {l : List UInt8} (hl : NoMark l) (i : Nat) (hi : Lib.index l [46, 46] = i) (h1 : l.take i ≠ []) (h2 : l.drop (i + 2) = []) (h : parseV (l.take i) = ((a, b, d), 0)) (hb : b ≤ 999) (hd : d ≤ 999) :
    altV m l = if a = m then ((1000 * b + d, 1000000), 0) else ((0, 0), 1) := by
  obtain ⟨g1, g2, g3⟩ := syn_of h
  rw [alt_of hl.1 hl.2.1 (two_span hl i hi m), g1, g2, g3]
  simp only [h1, h2, decide_true, decide_false, Bool.not_true, Bool.not_false, Bool.true_and, Bool.false_and, Bool.and_false, Bool.and_true, Bool.or_false, Bool.false_or, if_true, if_false, ne_eq, not_true_eq_false, Bool.false_eq_true, decide_eq_true_eq]
  by_cases ha : a = m
  · rw [if_pos ha, if_neg (by omega)]
  · rw [if_neg ha, if_pos (.inl ha)]
theorem two_second {m a b d : Int} {l : List UInt8} (hl : NoMark l) (i : Nat) (hi : Lib.index l [46, 46] = i) (h1 : l.take i = []) (h2 : l.drop (i + 2) ≠ []) (h : parseV (l.drop (i + 2)) = ((a, b, d), 0)) :
    altV m l = if a = m ∧ 0 < 1000 * b + d then ((0, 1000 * b + d), 0) else ((0, 0), 1) := by
  obtain ⟨g1, g2, g3⟩ := syn_of h
  rw [alt_of hl.1 hl.2.1 (two_span hl i hi m), g1, g2, g3]
  simp only [h1, h2, decide_true, decide_false, Bool.not_true, Bool.not_false, Bool.true_and, Bool.false_and, Bool.and_false, Bool.and_true, Bool.or_false, Bool.false_or, if_true, if_false, ne_eq, not_true_eq_false, Bool.false_eq_true, decide_eq_true_eq]
  by_cases ha : a = m ∧ 0 < 1000 * b + d
  · rw [if_pos ha, if_neg (by omega)]
  · rw [if_neg ha, if_pos (by omega)]
theorem two_both {m a b d a' b' d' : Int} {l : List UInt8} (hl : NoMark l) (i : Nat) (hi : Lib.index l [46, 46] = i) (h1 : l.take i ≠ []) (h2 : l.drop (i + 2) ≠ []) (h : parseV (l.take i) = ((a, b, d), 0)) (h' : parseV (l.drop (i + 2)) = ((a', b', d'), 0)) :
    altV m l = if (a = m ∧ a' = m) ∧ 1000 * b + d < 1000 * b' + d' then ((1000 * b + d, 1000 * b' + d'), 0) else ((0, 0), 1) := by
  obtain ⟨g1, g2, g3⟩ := syn_of h
  obtain ⟨k1, k2, k3⟩ := syn_of h'
  rw [alt_of hl.1 hl.2.1 (two_span hl i hi m), g1, g2, g3, k1, k2, k3]
  simp only [h1, h2, decide_true, decide_false, Bool.not_true, Bool.not_false, Bool.true_and, Bool.false_and, Bool.and_false, Bool.and_true, Bool.or_false, Bool.false_or, if_true, if_false, ne_eq, not_true_eq_false, Bool.false_eq_true, decide_eq_true_eq, Bool.or_eq_true]
  by_cases ha : (a = m ∧ a' = m) ∧ 1000 * b + d < 1000 * b' + d'
  · rw [if_pos ha, if_neg (by omega)]
  · rw [if_neg ha, if_pos (by omega)]
end Go.Proofs.YtdhihdiifgcfdaaGreatDoor
