/- Sets of places, plain: union, intersection, complement, difference; the references' ways give the same. Contracts of package version's functions on numbers: parts, Valid, Compare. Contract of package version's Valid. Plain definitions and facts of the lexer chapter: no program in sight. Contracts of the byte predicates (small, capital, digit, word, hex) of the lexer and of its reference: each returns what a plain function of the byte says, and leaves memory as it was. -/
import Derived.Test.YtenfkejbndifdaaGreatDoorQA
import Derived.Test.YtenfkejbndifdaaGreatDoorProg
import Derived.WalkKit
import Derived.WalkSpells
import Derived.WalkLawsBesides
import Derived.BigQuiet
import Derived.Deep.QuietTactic
import Derived.Deep.DrawnRows
import Derived.Lib.Hide
import Derived.Lib.Strings
import Derived.Lib.IndexBytes
import Derived.Lib.IndexMore
import Derived.Test.YtenfkejbndifdaaGreatDoorRows
namespace Go.Proofs.YtenfkejbndifdaaGreatDoor
set_option linter.unusedVariables false
set_option linter.unusedSimpArgs false

def unionS (l : List (List (Int × Int))) : List (Int × Int) := combS (fun n => decide (0 < n)) l
def interS (l : List (List (Int × Int))) : List (Int × Int) := combS (fun n => decide (n = (l.length : Int))) l
def complS (s : List (Int × Int)) : List (Int × Int) := combS (fun n => decide (n = 0)) [s]
def minusS (a b : List (Int × Int)) : List (Int × Int) := interS [a, complS b]
def subB (a b : List (Int × Int)) : Bool := decide (minusS a b = [])

theorem union_can (l : List (List (Int × Int))) : Can (unionS l) := combS_can _ _
theorem inter_can (l : List (List (Int × Int))) : Can (interS l) := combS_can _ _
theorem compl_can (s : List (Int × Int)) : Can (complS s) := combS_can _ _
theorem minus_can (a b : List (Int × Int)) : Can (minusS a b) := inter_can _
/-- how many sets hold a place. -/
theorem cnt_pos (l : List (List (Int × Int))) (p : Int) : 0 < cntIn l p ↔ ∃ s ∈ l, hasB s p = true := by
  unfold cntIn
  rw [List.countP_pos_iff]
theorem cnt_all (l : List (List (Int × Int))) (p : Int) : cntIn l p = l.length ↔ ∀ s ∈ l, hasB s p = true := by
  unfold cntIn
  rw [List.countP_eq_length]
theorem union_in (l : List (List (Int × Int))) (p : Int) : InL (unionS l) p ↔ (∃ s ∈ l, InL s p) ∧ 0 ≤ p ∧ p < 1000000 := by
  unfold unionS
  rw [combS_in, decide_eq_true_eq]
  have h := cnt_pos l p
  constructor
  · rintro ⟨h1, h2⟩
    obtain ⟨s, hs, h3⟩ := h.1 (by omega)
    exact ⟨⟨s, hs, ((hasB_iff s p).1 h3).1⟩, h2⟩
  · rintro ⟨⟨s, hs, h3⟩, h2⟩
    have := h.2 ⟨s, hs, (hasB_iff s p).2 ⟨h3, h2⟩⟩
    exact ⟨by omega, h2⟩
theorem inter_in (l : List (List (Int × Int))) (p : Int) : InL (interS l) p ↔ (∀ s ∈ l, InL s p) ∧ 0 ≤ p ∧ p < 1000000 := by
  unfold interS
  rw [combS_in, decide_eq_true_eq]
  have h := cnt_all l p
  constructor
  · rintro ⟨h1, h2⟩
    have h3 := h.1 (by omega)
    exact ⟨fun s hs => ((hasB_iff s p).1 (h3 s hs)).1, h2⟩
  · rintro ⟨h1, h2⟩
    have := h.2 fun s hs => (hasB_iff s p).2 ⟨h1 s hs, h2⟩
    exact ⟨by omega, h2⟩
theorem compl_in (s : List (Int × Int)) (p : Int) : InL (complS s) p ↔ ¬ InL s p ∧ 0 ≤ p ∧ p < 1000000 := by
  unfold complS
  rw [combS_in, decide_eq_true_eq]
  have h := cnt_pos [s] p
  constructor
  · rintro ⟨h1, h2⟩
    refine ⟨fun h3 => ?_, h2⟩
    have := h.2 ⟨s, by simp, (hasB_iff s p).2 ⟨h3, h2⟩⟩
    omega
  · rintro ⟨h1, h2⟩
    refine ⟨?_, h2⟩
    rcases Nat.eq_zero_or_pos (cntIn [s] p) with h3 | h3
    · omega
    · obtain ⟨t, ht, h4⟩ := h.1 h3
      rcases List.mem_singleton.1 ht with rfl
      exact absurd ((hasB_iff t p).1 h4).1 h1
theorem minus_in (a b : List (Int × Int)) (p : Int) : InL (minusS a b) p ↔ (InL a p ∧ ¬ InL b p) ∧ 0 ≤ p ∧ p < 1000000 := by
  unfold minusS
  rw [inter_in]
  simp only [List.mem_cons, List.not_mem_nil, or_false, forall_eq_or_imp, forall_eq, compl_in]
  exact ⟨fun ⟨⟨h1, h2, _⟩, h3⟩ => ⟨⟨h1, h2⟩, h3⟩, fun ⟨⟨h1, h2⟩, h3⟩ => ⟨⟨h1, h2, h3⟩, h3⟩⟩
theorem can_nil_iff {l : List (Int × Int)} (h : Can l) : l = [] ↔ ∀ p, ¬ InL l p := by
  constructor
  · rintro rfl p
    exact inL_nil p
  · intro hp
    cases l with
    | nil => rfl
    | cons x t => exact absurd ⟨x, List.mem_cons_self, Int.le_refl _, (can_cons.1 h).1.2.1⟩ (hp x.1)
theorem sub_iff (a b : List (Int × Int)) : subB a b = true ↔ ∀ p, 0 ≤ p → p < 1000000 → InL a p → InL b p := by
  unfold subB
  rw [decide_eq_true_eq, can_nil_iff (minus_can a b)]
  constructor
  · intro h p h0 h1 h2
    exact Classical.byContradiction fun h3 => h p ((minus_in a b p).2 ⟨⟨h2, h3⟩, h0, h1⟩)
  · intro h p hp
    obtain ⟨⟨h1, h2⟩, h3, h4⟩ := (minus_in a b p).1 hp
    exact h2 (h p h3 h4 h1)

/-- the reference's complement: what is between the spans. -/
def gapsF (q : Int) : List (Int × Int) → List (Int × Int)
  | [] => if q < 1000000 then [(q, 1000000)] else []
  | x :: t => (if q < x.1 then [(q, x.1)] else []) ++ gapsF x.2 t
def gapSt (s : List (Int × Int) × Int) (x : Int × Int) : List (Int × Int) × Int := (if s.2 < x.1 then s.1 ++ [(s.2, x.1)] else s.1, x.2)
def gapEnd (s : List (Int × Int) × Int) : List (Int × Int) := if s.2 < 1000000 then s.1 ++ [(s.2, 1000000)] else s.1
theorem gap_fold : ∀ (l o : List (Int × Int)) (q : Int), gapEnd (l.foldl gapSt (o, q)) = o ++ gapsF q l
  | [], o, q => by
    rw [List.foldl_nil]
    show (if q < 1000000 then o ++ [(q, 1000000)] else o) = o ++ (if q < 1000000 then [(q, 1000000)] else [])
    by_cases h : q < 1000000
    · rw [if_pos h, if_pos h]
    · rw [if_neg h, if_neg h, List.append_nil]
  | x :: l, o, q => by
    rw [List.foldl_cons, show gapSt (o, q) x = (if q < x.1 then o ++ [(q, x.1)] else o, x.2) from rfl, gap_fold l, gapsF]
    split <;> simp
theorem gap_len : ∀ (l : List (Int × Int)) (s : List (Int × Int) × Int), (l.foldl gapSt s).1.length ≤ s.1.length + l.length
  | [], s => by simp
  | x :: l, s => by
    have h := gap_len l (gapSt s x)
    have h2 : (gapSt s x).1.length ≤ s.1.length + 1 := by unfold gapSt; simp only; split <;> simp
    rw [List.foldl_cons, List.length_cons]
    omega
theorem gaps_ok : ∀ (l : List (Int × Int)) (q : Int), Can l → 0 ≤ q → q ≤ 1000000 → (∀ x ∈ l, q ≤ x.1) →
    Can (gapsF q l) ∧ (∀ y ∈ gapsF q l, q ≤ y.1) ∧ ∀ p, InL (gapsF q l) p ↔ (q ≤ p ∧ p < 1000000) ∧ ¬ InL l p
  | [], q, _, h0, h1, _ => by
    unfold gapsF
    split
    · rename_i h
      refine ⟨can_cons.2 ⟨⟨h0, h, Int.le_refl _⟩, fun y hy => (List.not_mem_nil hy).elim, can_nil⟩, fun y hy => ?_, fun p => ?_⟩
      · rcases List.mem_singleton.1 hy with rfl
        exact Int.le_refl _
      · rw [inL_one]
        exact ⟨fun h => ⟨h, inL_nil p⟩, fun h => h.1⟩
    · refine ⟨can_nil, fun y hy => (List.not_mem_nil hy).elim, fun p => ⟨fun h => (inL_nil p h).elim, fun h => ?_⟩⟩
      exfalso; omega
  | x :: t, q, hc, h0, h1, hx => by
    obtain ⟨hx0, hxt, hct⟩ := can_cons.1 hc
    have hq := hx x List.mem_cons_self
    obtain ⟨g1, g2, g3⟩ := gaps_ok t x.2 hct (by omega) hx0.2.2 (fun y hy => by have := hxt y hy; omega)
    have key : ∀ p, x.2 ≤ p → ¬ (x.1 ≤ p ∧ p < x.2) := fun p h h2 => by omega
    have low : ∀ p, InL t p → x.2 ≤ p := fun p ⟨y, hy, h⟩ => by have := hxt y hy; omega
    unfold gapsF
    split
    · rename_i h
      refine ⟨?_, ?_, fun p => ?_⟩
      · rw [List.singleton_append]
        exact can_cons.2 ⟨⟨h0, h, by omega⟩, fun y hy => by have := g2 y hy; show x.1 < y.1; omega, g1⟩
      · intro y hy
        rw [List.singleton_append] at hy
        rcases List.mem_cons.1 hy with rfl | hy
        · exact Int.le_refl _
        · have := g2 y hy; omega
      · rw [inL_append, inL_one, g3, inL_cons]
        constructor
        · rintro (h2 | ⟨h2, h3⟩)
          · refine ⟨⟨h2.1, by have := h2.2; simp only at this; omega⟩, ?_⟩
            rintro (h4 | h4)
            · have := h2.2; simp only at this; omega
            · have := low p h4; have := h2.2; simp only at this; omega
          · refine ⟨⟨by omega, h2.2⟩, ?_⟩
            rintro (h4 | h4)
            · omega
            · exact h3 h4
        · rintro ⟨h2, h3⟩
          by_cases h4 : p < x.1
          · exact .inl ⟨h2.1, h4⟩
          · refine .inr ⟨⟨?_, h2.2⟩, fun h5 => h3 (.inr h5)⟩
            rcases Int.lt_or_le p x.2 with h5 | h5
            · exact absurd (.inl ⟨by omega, h5⟩) h3
            · exact h5
    · rename_i h
      have e : q = x.1 := by omega
      rw [List.nil_append]
      refine ⟨g1, fun y hy => by have := g2 y hy; omega, fun p => ?_⟩
      rw [g3, inL_cons]
      constructor
      · rintro ⟨h2, h3⟩
        refine ⟨⟨by omega, h2.2⟩, ?_⟩
        rintro (h4 | h4)
        · omega
        · exact h3 h4
      · rintro ⟨h2, h3⟩
        refine ⟨⟨?_, h2.2⟩, fun h5 => h3 (.inr h5)⟩
        rcases Int.lt_or_le p x.2 with h5 | h5
        · exact absurd (.inl ⟨by omega, h5⟩) h3
        · exact h5
/-- the reference's complement is the complement. -/
theorem gaps_compl (s : List (Int × Int)) : gapEnd ((canon s).foldl gapSt ([], 0)) = complS s := by
  rw [gap_fold, List.nil_append]
  obtain ⟨g1, _, g3⟩ := gaps_ok (canon s) 0 (canon_can s) (Int.le_refl _) (by omega) (fun x hx => ((canon_can s).2 x hx).1)
  refine can_unique g1 (compl_can s) fun p => ?_
  rw [g3, compl_in, canon_in]
  constructor
  · rintro ⟨h1, h2⟩
    exact ⟨fun h => h2 ⟨h, h1⟩, h1⟩
  · rintro ⟨h1, h2⟩
    exact ⟨h2, fun h => h1 h.1⟩
/-- the reference's union is the union. -/
theorem inL_flatten (l : List (List (Int × Int))) (p : Int) : InL l.flatten p ↔ ∃ s ∈ l, InL s p := by
  unfold InL
  constructor
  · rintro ⟨x, hx, h⟩
    obtain ⟨s, hs, hx⟩ := List.mem_flatten.1 hx
    exact ⟨s, hs, x, hx, h⟩
  · rintro ⟨s, hs, x, hx, h⟩
    exact ⟨x, List.mem_flatten.2 ⟨s, hs, hx⟩, h⟩
theorem flat_union (l : List (List (Int × Int))) : canon l.flatten = unionS l := by
  refine can_unique (canon_can _) (union_can _) fun p => ?_
  rw [canon_in, inL_flatten, union_in]
/-- the reference's intersection is the intersection. -/
theorem de_morgan (l : List (List (Int × Int))) : complS (unionS (l.map complS)) = interS l := by
  refine can_unique (compl_can _) (inter_can _) fun p => ?_
  rw [compl_in, union_in, inter_in]
  constructor
  · rintro ⟨h1, h2⟩
    refine ⟨fun s hs => Classical.byContradiction fun h3 => h1 ⟨⟨complS s, List.mem_map.2 ⟨s, hs, rfl⟩, (compl_in s p).2 ⟨h3, h2⟩⟩, h2⟩, h2⟩
  · rintro ⟨h1, h2⟩
    refine ⟨fun ⟨⟨t, ht, h3⟩, _⟩ => ?_, h2⟩
    obtain ⟨s, hs, rfl⟩ := List.mem_map.1 ht
    exact ((compl_in s p).1 h3).1 (h1 s hs)
/-- a place of a set in the reference's way. -/
theorem hasB_ref (s : List (Int × Int)) (p : Int) : (s.any fun x => decide (max 0 x.1 ≤ p) && decide (p < min 1000000 x.2)) = hasB s p := by
  rw [Bool.eq_iff_iff, hasB_iff]
  unfold InL
  simp only [List.any_eq_true, Bool.and_eq_true, decide_eq_true_eq]
  constructor
  · rintro ⟨x, hx, h1, h2⟩
    exact ⟨⟨x, hx, by omega, by omega⟩, by omega, by omega⟩
  · rintro ⟨⟨x, hx, h1, h2⟩, h3, h4⟩
    exact ⟨x, hx, by omega, by omega⟩

/- what the laws say, plain. -/
theorem has_compl (s : List (Int × Int)) (p : Int) : hasB (complS s) p = ((decide (0 ≤ p) && decide (p < 1000000)) && !hasB s p) := by
  rw [Bool.eq_iff_iff, hasB_iff, compl_in]
  simp only [Bool.and_eq_true, decide_eq_true_eq, Bool.not_eq_true', ← Bool.not_eq_true, hasB_iff]
  constructor
  · rintro ⟨⟨h1, h2⟩, _⟩
    exact ⟨h2, fun h => h1 h.1⟩
  · rintro ⟨h1, h2⟩
    exact ⟨⟨fun h => h2 ⟨h, h1⟩, h1⟩, h1⟩
theorem has_union (l : List (List (Int × Int))) (p : Int) : hasB (unionS l) p = decide (0 < cntIn l p) := by
  rw [Bool.eq_iff_iff, hasB_iff, union_in, decide_eq_true_eq, cnt_pos]
  simp only [hasB_iff]
  exact ⟨fun ⟨⟨⟨s, hs, h1⟩, h2⟩, _⟩ => ⟨s, hs, h1, h2⟩, fun ⟨s, hs, h1, h2⟩ => ⟨⟨⟨s, hs, h1⟩, h2⟩, h2⟩⟩
theorem has_inter (l : List (List (Int × Int))) (p : Int) : hasB (interS l) p = ((decide (0 ≤ p) && decide (p < 1000000)) && decide (cntIn l p = l.length)) := by
  rw [Bool.eq_iff_iff, hasB_iff, inter_in]
  simp only [Bool.and_eq_true, decide_eq_true_eq, cnt_all, hasB_iff]
  exact ⟨fun ⟨⟨h1, h2⟩, _⟩ => ⟨h2, fun s hs => ⟨h1 s hs, h2⟩⟩, fun ⟨h2, h1⟩ => ⟨⟨fun s hs => (h1 s hs).1, h2⟩, h2⟩⟩
theorem same_sub (a b : List (Int × Int)) : (subB a b && subB b a) = decide (canon a = canon b) := by
  rw [Bool.eq_iff_iff, Bool.and_eq_true, sub_iff, sub_iff, decide_eq_true_eq]
  constructor
  · rintro ⟨h1, h2⟩
    exact canon_ext fun p h3 h4 => ⟨h1 p h3 h4, h2 p h3 h4⟩
  · intro h
    constructor
    · intro p h0 h1 h2
      have := (canon_in a p).2 ⟨h2, h0, h1⟩
      rw [h] at this
      exact ((canon_in b p).1 this).1
    · intro p h0 h1 h2
      have := (canon_in b p).2 ⟨h2, h0, h1⟩
      rw [← h] at this
      exact ((canon_in a p).1 this).1
theorem no_both (a b : List (Int × Int)) : complS (unionS [a, b]) = interS [complS a, complS b] := by
  rw [← de_morgan]
  refine can_unique (compl_can _) (compl_can _) fun p => ?_
  simp only [compl_in, union_in, List.map_cons, List.map_nil, List.mem_cons, List.not_mem_nil, or_false, exists_eq_or_imp, exists_eq_left]
  constructor
  · rintro ⟨h1, h2⟩
    refine ⟨fun ⟨h3, _⟩ => h1 ⟨?_, h2⟩, h2⟩
    rcases h3 with ⟨h3, _⟩ | ⟨h3, _⟩
    · exact .inl (Classical.byContradiction fun h4 => h3 ⟨h4, h2⟩)
    · exact .inr (Classical.byContradiction fun h4 => h3 ⟨h4, h2⟩)
  · rintro ⟨h1, h2⟩
    refine ⟨fun ⟨h3, _⟩ => h1 ⟨?_, h2⟩, h2⟩
    rcases h3 with h3 | h3
    · exact .inl ⟨fun h => h.1 h3, h2⟩
    · exact .inr ⟨fun h => h.1 h3, h2⟩
theorem back_canon (a b : List (Int × Int)) : unionS [minusS a b, interS [a, b]] = canon a := by
  refine canon_eq (union_can _) fun p => ?_
  simp only [union_in, minus_in, inter_in, List.mem_cons, List.not_mem_nil, or_false, exists_eq_or_imp, exists_eq_left, forall_eq_or_imp, forall_eq]
  constructor
  · rintro ⟨h1 | h1, h2⟩
    · exact ⟨h1.1.1, h2⟩
    · exact ⟨h1.1.1, h2⟩
  · rintro ⟨h1, h2⟩
    refine ⟨?_, h2⟩
    by_cases h3 : InL b p
    · exact .inr ⟨⟨h1, h3⟩, h2⟩
    · exact .inl ⟨⟨h1, h3⟩, h2⟩
theorem compl_compl (a : List (Int × Int)) : complS (complS a) = canon a := by
  refine canon_eq (compl_can _) fun p => ?_
  rw [compl_in, compl_in]
  constructor
  · rintro ⟨h1, h2⟩
    exact ⟨Classical.byContradiction fun h3 => h1 ⟨h3, h2⟩, h2⟩
  · rintro ⟨h1, h2⟩
    exact ⟨fun h => h.1 h1, h2⟩
theorem spansOf_len : ∀ (l : List (List (Int × Int))) (C : Nat), (∀ s ∈ l, s.length ≤ C) → (spansOf l).length ≤ l.length * C
  | [], C, _ => by simp [spansOf]
  | s :: l, C, h => by
    have ih := spansOf_len l C fun x hx => h x (List.mem_cons_of_mem _ hx)
    have h1 := h s List.mem_cons_self
    have h2 := canon_len s
    unfold spansOf at *
    rw [List.flatMap_cons, List.length_append, List.length_cons, Nat.add_mul]
    omega
theorem onceI_len : ∀ l : List Int, (onceI l).length ≤ l.length
  | [] => Nat.le_refl _
  | x :: l => by
    have := onceI_len l
    unfold onceI
    split <;> simp <;> omega
theorem endsE_len : ∀ E : List (Int × Int), (endsE E).length = 2 * E.length
  | [] => rfl
  | x :: E => by
    have := endsE_len E
    unfold endsE at *
    rw [List.flatMap_cons, List.length_append, this]
    simp
    omega
theorem combS_len (keep : Int → Bool) (l : List (List (Int × Int))) : (combS keep l).length ≤ 1 + 2 * (spansOf l).length := by
  unfold combS
  refine Nat.le_trans (canon_len _) (Nat.le_trans (outC_len _ _ _ _) ?_)
  unfold boundsE
  rw [List.length_mergeSort]
  have h1 := onceI_len (0 :: 1000000 :: endsE (spansOf l))
  have h2 := endsE_len (spansOf l)
  simp only [List.length_cons] at h1
  omega
theorem complS_len (s : List (Int × Int)) : (complS s).length ≤ 1 + 2 * s.length := by
  have h1 := combS_len (fun n => decide (n = 0)) [s]
  have h2 := spansOf_len [s] s.length (fun x hx => by rcases List.mem_singleton.1 hx with rfl; exact Nat.le_refl _)
  simp only [List.length_singleton] at h2
  unfold complS
  omega
end Go.Proofs.YtenfkejbndifdaaGreatDoor

namespace Go.Proofs.YtenfkejbndifdaaGreatDoor
open Go Go.RowKit

/-- a part of a number. -/
def partB (a : Int) : Bool := decide (0 ≤ a ∧ a ≤ 999)
/-- a number is valid. -/
def validB (a b c : Int) : Bool := partB a && (partB b && partB c)
/-- two integers compared. -/
def cmpI (a b : Int) : Int := if a < b then -1 else if b < a then 1 else 0
/-- two numbers compared. -/
def cmpV (a b c x y z : Int) : Int := if cmpI a x ≠ 0 then cmpI a x else if cmpI b y ≠ 0 then cmpI b y else cmpI c z

theorem parts_any (a b c : Int) (w : World) :
    Calls Tryz.prog 136 #[.agg #[.int .i64 a, .int .i64 b, .int .i64 c]] w fun e w' => e = .returned (.agg #[.int .i64 a, .int .i64 b, .int .i64 c]) ∧ w' = (w.alloc (.cells #[.int .i64 a, .int .i64 b, .int .i64 c] 41)).alloc (.cells #[.int .i64 a, .int .i64 b, .int .i64 c] 174) := by
  go_enter Tryz.func136, Tryz.ntmps136
  go_wp2
  exact bodyPost_ret (v := .agg #[.int .i64 a, .int .i64 b, .int .i64 c]) (by simp [results, Tryz.results136, go_sem]) rfl ⟨rfl, rfl⟩
theorem nan_any (a : Int) (w : World) : Calls Tryz.prog 202 #[.int .i64 a] w fun e w' => e = .returned (.bool false) ∧ w = w' := by
  go_enter Tryz.func202, Tryz.ntmps202
  go_wp2
  go_ret
  exact ⟨rfl, rfl⟩
theorem cmp_any (a b : Int) (w : World) : Calls Tryz.prog 180 #[.int .i64 a, .int .i64 b] w fun e w' => e = .returned (.int .i64 (cmpI a b)) ∧ w = w' := by
  rcases Int.lt_trichotomy a b with h | h | h
  · have hc : cmpI a b = -1 := by unfold cmpI; rw [if_pos h]
    rw [hc]; clear hc
    go_enter Tryz.func180, Tryz.ntmps180
    go_wp2_with (go_at_call 202; refine (nan_any _ _).mono ?_; rintro e w' ⟨rfl, rfl⟩)
    go_ret
    exact ⟨rfl, rfl⟩
  · have hc : cmpI a b = 0 := by unfold cmpI; rw [if_neg (by omega), if_neg (by omega)]
    rw [hc]; clear hc
    subst h
    go_enter Tryz.func180, Tryz.ntmps180
    go_wp2_with (go_at_call 202; refine (nan_any _ _).mono ?_; rintro e w' ⟨rfl, rfl⟩)
    go_ret
    exact ⟨rfl, rfl⟩
  · have hc : cmpI a b = 1 := by unfold cmpI; rw [if_neg (by omega), if_pos h]
    rw [hc]; clear hc
    have h2 : ¬ a < b := by omega
    go_enter Tryz.func180, Tryz.ntmps180
    go_wp2_with (go_at_call 202; refine (nan_any _ _).mono ?_; rintro e w' ⟨rfl, rfl⟩)
    go_ret
    exact ⟨rfl, rfl⟩
end Go.Proofs.YtenfkejbndifdaaGreatDoor

namespace Go.Proofs.YtenfkejbndifdaaGreatDoor
open Go Go.RowKit

theorem valid_le {a b c : Int} (h : validB a b c = true) : (0 ≤ a ∧ a ≤ 999) ∧ (0 ≤ b ∧ b ≤ 999) ∧ 0 ≤ c ∧ c ≤ 999 := by
  unfold validB partB at h
  simpa using h
theorem part_yes {a : Int} (h : partB a = true) : ¬ a < 0 ∧ ¬ 999 < a := by unfold partB at h; have := of_decide_eq_true h; omega
theorem part_no {a : Int} (h : partB a = false) : a < 0 ∨ (¬ a < 0 ∧ 999 < a) := by unfold partB at h; have := of_decide_eq_false h; omega
set_option maxRecDepth 100000 in
set_option maxHeartbeats 1000000 in
theorem Valid_any (a b c : Int) (w : World) : Calls Tryz.prog 95 #[.agg #[.int .i64 a, .int .i64 b, .int .i64 c]] w fun e w' => e = .returned (.bool (validB a b c)) ∧ w' = ((w.alloc (.cells #[.int .i64 a, .int .i64 b, .int .i64 c] 41)).alloc (.cells #[.int .i64 a, .int .i64 b, .int .i64 c] 41)).alloc (.cells #[.int .i64 a, .int .i64 b, .int .i64 c] 174) := by
  have i0 : ∀ w, (Instr.index 174 (.agg #[.int .i64 a, .int .i64 b, .int .i64 c]) (.int .i64 0)).run Tryz.prog w = .ok (.int .i64 a) w := fun _ => by kernel_rfl
  have i1 : ∀ w, (Instr.index 174 (.agg #[.int .i64 a, .int .i64 b, .int .i64 c]) (.int .i64 1)).run Tryz.prog w = .ok (.int .i64 b) w := fun _ => by kernel_rfl
  have i2 : ∀ w, (Instr.index 174 (.agg #[.int .i64 a, .int .i64 b, .int .i64 c]) (.int .i64 2)).run Tryz.prog w = .ok (.int .i64 c) w := fun _ => by kernel_rfl
  obtain ⟨v, hv⟩ : ∃ v, validB a b c = v := ⟨_, rfl⟩
  rw [hv]
  have HV := Lib.hid hv
  clear hv
  go_enter Tryz.func95, Tryz.ntmps95
  go_wp2_with (go_at_call 136; refine (parts_any _ _ _ _).mono ?_; rintro e w' ⟨rfl, rfl⟩)
  go_loop [7] (fun i => (i = .int .i64 0) ∨ (i = .int .i64 1 ∧ Hid (partB a = true)) ∨ (i = .int .i64 2 ∧ Hid (partB a = true ∧ partB b = true)) ∨ (i = .int .i64 3 ∧ Hid (partB a = true ∧ partB b = true ∧ partB c = true))) (fun i => 3 - (intOf i).toNat)
  case atStart => exact .inl rfl
  case round =>
    rcases hrel with rfl | ⟨rfl, H1⟩ | ⟨rfl, H2⟩ | ⟨rfl, H3⟩
    · by_cases hp : partB a = true
      · obtain ⟨h1, h2⟩ := part_yes hp
        have HP := Lib.hid hp
        clear hp
        go_wp2
        go_round
        case rel => exact .inr (.inl ⟨rfl, HP⟩)
        case measure => simp [intOf]
      · have HP := Lib.hid hp
        have HVF := Lib.hid (show v = false by rw [← HV.out]; unfold validB; simp [HP.out])
        rcases part_no (by simpa using hp) with h1 | ⟨h1, h2⟩
        all_goals
          clear hp
          go_wp2
          go_ret
          exact ⟨by rw [HVF.out]; rfl, rfl⟩
    · by_cases hp : partB b = true
      · obtain ⟨h1, h2⟩ := part_yes hp
        have HP := Lib.hid hp
        clear hp
        go_wp2
        go_round
        case rel => exact .inr (.inr (.inl ⟨rfl, Lib.hid ⟨H1.out, HP.out⟩⟩))
        case measure => simp [intOf]
      · have HP := Lib.hid hp
        have HVF := Lib.hid (show v = false by rw [← HV.out]; unfold validB; simp [HP.out])
        rcases part_no (by simpa using hp) with h1 | ⟨h1, h2⟩
        all_goals
          clear hp
          go_wp2
          go_ret
          exact ⟨by rw [HVF.out]; rfl, rfl⟩
    · by_cases hp : partB c = true
      · obtain ⟨h1, h2⟩ := part_yes hp
        have HP := Lib.hid hp
        clear hp
        go_wp2
        go_round
        case rel => exact .inr (.inr (.inr ⟨rfl, Lib.hid ⟨H2.out.1, H2.out.2, HP.out⟩⟩))
        case measure => simp [intOf]
      · have HP := Lib.hid hp
        have HVF := Lib.hid (show v = false by rw [← HV.out]; unfold validB; simp [HP.out])
        rcases part_no (by simpa using hp) with h1 | ⟨h1, h2⟩
        all_goals
          clear hp
          go_wp2
          go_ret
          exact ⟨by rw [HVF.out]; rfl, rfl⟩
    · have HVF := Lib.hid (show v = true by rw [← HV.out]; unfold validB; simp [H3.out])
      go_wp2
      go_ret
      exact ⟨by rw [HVF.out]; rfl, rfl⟩
/-- a level is one. -/
def knownB (l : Int) : Bool := decide (0 ≤ l ∧ l ≤ 2)
end Go.Proofs.YtenfkejbndifdaaGreatDoor

namespace Go.Proofs.YtenfkejbndifdaaGreatDoor
open Go

def smallZ (c : Int) : Bool := decide (97 ≤ c) && decide (c ≤ 122)
def capitalZ (c : Int) : Bool := decide (65 ≤ c) && decide (c ≤ 90)
def digitZ (c : Int) : Bool := decide (48 ≤ c) && decide (c ≤ 57)
def wordZ (c : Int) : Bool := smallZ c || capitalZ c || digitZ c || c == 95
def pathZ (c : Int) : Bool := smallZ c || digitZ c

/-- the value of a hexadecimal digit, or -1. -/
def hexZ (c : Int) : Int := if digitZ c then c - 48 else if 97 ≤ c ∧ c ≤ 102 then c - 87 else -1

/-- all bytes of a string satisfy a predicate on their values. -/
def allZ (p : Int → Bool) (s : ByteArray) : Bool := s.data.toList.all fun b => p b.toNat

theorem all_take (p : Int → Bool) (s : ByteArray) (k : Nat) (h : k < s.size) (hp : (s.data.toList.take k).all (fun b => p b.toNat) = true) (hb : p (s[k].toNat) = true) :
    (s.data.toList.take (k + 1)).all (fun b => p b.toNat) = true := by
  rw [List.take_succ_eq_append_getElem (by simpa using h)]
  simp only [List.all_append, hp, Bool.true_and, List.all_cons, List.all_nil, Bool.and_true]
  exact hb
theorem all_done (p : Int → Bool) (s : ByteArray) (k : Nat) (h : s.size ≤ k) (hp : (s.data.toList.take k).all (fun b => p b.toNat) = true) : allZ p s = true := by
  rw [List.take_of_length_le (by simpa using h)] at hp; exact hp
theorem all_not (p : Int → Bool) (s : ByteArray) (k : Nat) (h : k < s.size) (hb : ¬ p (s[k].toNat) = true) : allZ p s = false := by
  unfold allZ
  rw [List.all_eq_false]
  refine ⟨s[k], ?_, hb⟩
  exact Array.mem_toList_iff.2 (Array.getElem_mem _)

theorem any_take (ss : List ByteArray) (s : ByteArray) (k : Nat) (h : k < ss.length) (hp : (ss.take k).any (fun x => x.toList == s.toList) = false) (hb : ((ss.getD k ByteArray.empty).toList == s.toList) = false) :
    (ss.take (k + 1)).any (fun x => x.toList == s.toList) = false := by
  rw [List.take_succ_eq_append_getElem h, List.any_append, hp]
  have : ss.getD k ByteArray.empty = ss[k] := by simp [h]
  rw [this] at hb
  simp only [List.any_cons, List.any_nil, hb, Bool.or_false]
theorem any_done (ss : List ByteArray) (s : ByteArray) (k : Nat) (h : ss.length ≤ k) (hp : (ss.take k).any (fun x => x.toList == s.toList) = false) : ss.any (fun x => x.toList == s.toList) = false := by
  rw [List.take_of_length_le h] at hp; exact hp
theorem any_hit (ss : List ByteArray) (s : ByteArray) (k : Nat) (h : k < ss.length) (hb : ((ss.getD k ByteArray.empty).toList == s.toList) = true) : ss.any (fun x => x.toList == s.toList) = true := by
  rw [List.any_eq_true]
  have : ss.getD k ByteArray.empty = ss[k] := by simp [h]
  rw [this] at hb
  exact ⟨ss[k], List.getElem_mem h, hb⟩

def kwList : List ByteArray := [⟨#[97, 110, 100]⟩, ⟨#[97, 110, 121]⟩, ⟨#[97, 115]⟩, ⟨#[98, 111, 111, 108]⟩, ⟨#[100, 101, 112, 114, 101, 99, 97, 116, 101, 100]⟩, ⟨#[101, 108, 115, 101]⟩, ⟨#[101, 120, 112, 111, 114, 116]⟩, ⟨#[102, 97, 108, 115, 101]⟩, ⟨#[102, 110]⟩, ⟨#[102, 111, 108, 100]⟩, ⟨#[102, 114, 111, 109]⟩, ⟨#[105, 102]⟩, ⟨#[105, 109, 112, 111, 114, 116]⟩, ⟨#[105, 110]⟩, ⟨#[105, 110, 116]⟩, ⟨#[108, 101, 110, 103, 116, 104]⟩, ⟨#[108, 101, 116]⟩, ⟨#[108, 105, 115, 116]⟩, ⟨#[109, 97, 116, 99, 104]⟩, ⟨#[109, 111, 100, 117, 108, 101]⟩, ⟨#[110, 111, 110, 101]⟩, ⟨#[110, 111, 116]⟩, ⟨#[111, 114]⟩, ⟨#[116, 101, 120, 116]⟩, ⟨#[116, 104, 101, 110]⟩, ⟨#[116, 114, 117, 101]⟩, ⟨#[116, 121, 112, 101]⟩, ⟨#[117, 115, 101]⟩]
def symList : List ByteArray := [⟨#[61, 61, 61]⟩, ⟨#[58, 58]⟩, ⟨#[62, 58]⟩, ⟨#[60, 58]⟩, ⟨#[61, 62]⟩, ⟨#[61, 61]⟩, ⟨#[43, 43]⟩, ⟨#[40]⟩, ⟨#[41]⟩, ⟨#[91]⟩, ⟨#[93]⟩, ⟨#[123]⟩, ⟨#[125]⟩, ⟨#[60]⟩, ⟨#[62]⟩, ⟨#[44]⟩, ⟨#[58]⟩, ⟨#[61]⟩, ⟨#[46]⟩, ⟨#[43]⟩, ⟨#[45]⟩, ⟨#[42]⟩, ⟨#[124]⟩, ⟨#[63]⟩, ⟨#[47]⟩]

/-- the first byte of a string, as a number; 0 of the empty one. -/
def headZ (s : ByteArray) : Int := if h : 0 < s.size then ((s[0]'h).toNat : Int) else 0
theorem headZ_eq (s : ByteArray) (h : 0 < s.size) : headZ s = ((s[0]'h).toNat : Int) := by unfold headZ; rw [dif_pos h]
def kwS (s : ByteArray) : Bool := kwList.any fun x => x.toList == s.toList
theorem kwS_eq (s : ByteArray) : kwS s = kwList.any (fun x => x.data.toList == s.data.toList) := by unfold kwS; simp only [ByteArray.toList_eq]
def nameS (s : ByteArray) : Bool := decide (1 ≤ s.size) && (decide (s.size ≤ 32) && (smallZ (headZ s) && (allZ wordZ s && !kwS s)))
def typeS (s : ByteArray) : Bool := decide (1 ≤ s.size) && (decide (s.size ≤ 32) && (capitalZ (headZ s) && allZ wordZ s))


/-- all keywords, each one between blanks. -/
def kwText : List UInt8 := kwList.flatMap (fun b => 32 :: b.data.toList) ++ [32]
theorem kw_fin : ∀ j, j < 200 → kwText[j]? = some 32 → (kwText.drop (j + 1)).contains 32 = true → kwList.any (fun x => x.data.toList == (kwText.drop (j + 1)).takeWhile (· != 32)) = true := by decide +kernel
theorem kw_len : kwText.length < 200 := by decide +kernel
theorem kw_all : kwList.all (fun x => Lib.contains kwText (32 :: x.data.toList ++ [32])) = true := by decide +kernel
theorem take_no (l r : List UInt8) (h : ∀ b ∈ l, b ≠ 32) : (l ++ 32 :: r).takeWhile (· != 32) = l := by
  induction l with
  | nil => simp
  | cons b l ih => rw [List.cons_append, List.takeWhile_cons, if_pos (by simpa using h b (by simp)), ih (fun c hc => h c (by simp [hc]))]
theorem kw_contains (l : List UInt8) (h : ∀ b ∈ l, b ≠ 32) : Lib.contains kwText (32 :: l ++ [32]) = kwList.any (fun x => x.data.toList == l) := by
  rw [Bool.eq_iff_iff]
  constructor
  · intro hc
    rcases Lib.index_spec kwText (32 :: l ++ [32]) with ⟨h1, _⟩ | ⟨i, _, hi, ho, _⟩
    · rw [Lib.contains, h1] at hc; exact absurd hc (by decide)
    · simp only [Lib.occAt, List.isPrefixOf_iff_prefix] at ho
      obtain ⟨r, hr⟩ := ho
      have e1 : kwText.drop i = 32 :: (l ++ 32 :: r) := by rw [← hr]; simp
      have e2 : kwText.drop (i + 1) = l ++ 32 :: r := by rw [← List.drop_drop, e1]; rfl
      have e3 : kwText[i]? = some 32 := by rw [← Nat.add_zero i, ← List.getElem?_drop, e1]; rfl
      have := kw_fin i (by have := kw_len; omega) e3 (by rw [e2]; simp)
      rw [e2, take_no l r h] at this
      exact this
  · intro hc
    rw [List.any_eq_true] at hc
    obtain ⟨x, hx, he⟩ := hc
    have := List.all_eq_true.1 kw_all x hx
    simp only [beq_iff_eq] at he
    rw [he] at this
    exact this

theorem toList_data (s : ByteArray) : s.toList = s.data.toList := Lib.toList_data s
theorem ne_nil (s : ByteArray) (h : 1 ≤ s.size) : ¬ s.toList = [] := by
  rw [toList_data]; intro e; rw [Lib.size_eq, e] at h; exact absurd h (by decide)
theorem ne_empty (s : ByteArray) (h : 1 ≤ s.size) : s.toList.isEmpty = false := by
  have := ne_nil s h; simpa using this
theorem is_nil (s : ByteArray) (h : ¬ 1 ≤ s.size) : s.toList = [] := by
  rw [toList_data]; rw [Lib.size_eq] at h; exact List.length_eq_zero_iff.1 (by omega)

end Go.Proofs.YtenfkejbndifdaaGreatDoor

namespace Go.Proofs.YtenfkejbndifdaaGreatDoor
open Go Go.RowKit

theorem ret_bool {a b : Bool} (h : a = b) : Ending.returned (.bool a) = Ending.returned (.bool b) := by rw [h]
theorem ret_int {k : IntKind} {a b : Int} (h : a = b) : Ending.returned (.int k a) = Ending.returned (.int k b) := by rw [h]

theorem small_any (c : Int) (w : World) :
    Calls Tryz.prog 208 #[.int .u8 c] w fun e w' => e = .returned (.bool (smallZ c)) ∧ w = w' := by
  go_enter Tryz.func208, Tryz.ntmps208
  go_wp2
  all_goals go_ret
  all_goals exact ⟨ret_bool (by simp [smallZ, *] <;> omega), rfl⟩

theorem capital_any (c : Int) (w : World) :
    Calls Tryz.prog 233 #[.int .u8 c] w fun e w' => e = .returned (.bool (capitalZ c)) ∧ w = w' := by
  go_enter Tryz.func233, Tryz.ntmps233
  go_wp2
  all_goals go_ret
  all_goals exact ⟨ret_bool (by simp [capitalZ, *] <;> omega), rfl⟩

theorem digit_any (c : Int) (w : World) :
    Calls Tryz.prog 209 #[.int .u8 c] w fun e w' => e = .returned (.bool (digitZ c)) ∧ w = w' := by
  go_enter Tryz.func209, Tryz.ntmps209
  go_wp2
  all_goals go_ret
  all_goals exact ⟨ret_bool (by simp [digitZ, *] <;> omega), rfl⟩

theorem word_any (c : Int) (w : World) :
    Calls Tryz.prog 222 #[.int .u8 c] w fun e w' => e = .returned (.bool (wordZ c)) ∧ w = w' := by
  go_enter Tryz.func222, Tryz.ntmps222
  go_wp2_with (first
   | (go_at_call 208; refine (small_any _ _).mono ?_; rintro e w' ⟨rfl, rfl⟩)
   | (go_at_call 233; refine (capital_any _ _).mono ?_; rintro e w' ⟨rfl, rfl⟩)
   | (go_at_call 209; refine (digit_any _ _).mono ?_; rintro e w' ⟨rfl, rfl⟩))
  all_goals go_ret
  all_goals exact ⟨ret_bool (by simp [wordZ, *]), rfl⟩

theorem rsmall_any (c : Int) (w : World) :
    Calls Tryz.prog 225 #[.int .u8 c] w fun e w' => e = .returned (.bool (smallZ c)) ∧ w = w' := by
  go_enter Tryz.func225, Tryz.ntmps225
  go_wp2
  all_goals go_ret
  all_goals exact ⟨ret_bool (by simp [smallZ, *] <;> omega), rfl⟩

theorem rcapital_any (c : Int) (w : World) :
    Calls Tryz.prog 249 #[.int .u8 c] w fun e w' => e = .returned (.bool (capitalZ c)) ∧ w = w' := by
  go_enter Tryz.func249, Tryz.ntmps249
  go_wp2
  all_goals go_ret
  all_goals exact ⟨ret_bool (by simp [capitalZ, *] <;> omega), rfl⟩

theorem rdigit_any (c : Int) (w : World) :
    Calls Tryz.prog 226 #[.int .u8 c] w fun e w' => e = .returned (.bool (digitZ c)) ∧ w = w' := by
  go_enter Tryz.func226, Tryz.ntmps226
  go_wp2
  all_goals go_ret
  all_goals exact ⟨ret_bool (by simp [digitZ, *] <;> omega), rfl⟩

theorem rword_any (c : Int) (w : World) :
    Calls Tryz.prog 243 #[.int .u8 c] w fun e w' => e = .returned (.bool (wordZ c)) ∧ w = w' := by
  go_enter Tryz.func243, Tryz.ntmps243
  go_wp2_with (first
   | (go_at_call 225; refine (rsmall_any _ _).mono ?_; rintro e w' ⟨rfl, rfl⟩)
   | (go_at_call 249; refine (rcapital_any _ _).mono ?_; rintro e w' ⟨rfl, rfl⟩)
   | (go_at_call 226; refine (rdigit_any _ _).mono ?_; rintro e w' ⟨rfl, rfl⟩))
  all_goals go_ret
  all_goals exact ⟨ret_bool (by simp [wordZ, *]), rfl⟩

theorem major1_any (c : Int) (w : World) :
    Calls Tryz.prog 207 #[.int .u8 c] w fun e w' => e = .returned (.bool (pathZ c)) ∧ w = w' := by
  go_enter Tryz.func207, Tryz.ntmps207
  go_wp2_with (first
   | (go_at_call 208; refine (small_any _ _).mono ?_; rintro e w' ⟨rfl, rfl⟩)
   | (go_at_call 209; refine (digit_any _ _).mono ?_; rintro e w' ⟨rfl, rfl⟩))
  all_goals go_ret
  all_goals exact ⟨ret_bool (by simp [pathZ, *]), rfl⟩

end Go.Proofs.YtenfkejbndifdaaGreatDoor
