/- slices.Sort and slices.Compact at a row of the call's own. -/
import Derived.Test.YtlcgbkeggmaljaaGGrid
import Derived.Test.YtlcgbkeggmaljaaGPlain
import Derived.Test.YtlcgbkeggmaljaaShelf
namespace Go.Proofs.Ytlcgbkeggmaljaa
set_option linter.unusedVariables false
set_option linter.unusedSimpArgs false
open Go Go.RowKit Go.Sort

/-- the cells of some integers. -/
abbrev intC (x : Int) : Value := .int .i64 x

theorem sort_row (B : Nat) (v : Value) (l : List Int) (w : World) (h : w.ownsRow B 3 1 v l.length (l.map intC)) (hl : l.length ≤ 1000000000) :
    Calls Try.prog 57 #[v] w fun e w' => e = .returned (.tuple #[]) ∧ w.grownBy w' v.ownBlock ∧ w'.ownsRow B 3 1 v (l.mergeSort fun x y => decide (x ≤ y)).length ((l.mergeSort fun x y => decide (x ≤ y)).map intC) := by
  have hlen : (l.mergeSort fun x y => decide (x ≤ y)).length = l.length := List.length_mergeSort l
  rcases h.2 with ⟨rfl, h0⟩ | ⟨g, cap, cur, rfl, hb, hg, hc, hcm, hcs, ht⟩
  · obtain rfl : l = [] := List.length_eq_zero_iff.1 h0
    refine (Try.slices_Sort_int_none none 0 w).mono ?_
    rintro e w' ⟨rfl, rfl⟩
    exact ⟨rfl, World.grownBy.refl _ _, by simpa using World.ownsRow_nil _ _ _ _⟩
  · refine (Try.slices_Sort_int g 0 cap l w (holds_of_blockI hg (by simpa using ht)) (Array.getElem?_eq_some_iff.1 hg).1 (by omega)).mono ?_
    rintro e w' ⟨rfl, n, os, rfl⟩
    refine ⟨rfl, grownBy_sortedI _, ?_⟩
    rw [hlen]
    exact ownsRow_sortedI hlen hb hg hc hcm hcs

theorem compact_row (B : Nat) (v : Value) (l : List Int) (w : World) (h : w.ownsRow B 3 1 v l.length (l.map intC)) (hl : l.length ≤ 1000000000) :
    Calls Try.prog 63 #[v] w fun e w' => ∃ v', e = .returned v' ∧ v'.ownBlock = v.ownBlock ∧ (∃ a m c, v' = .slice a m c) ∧ w.grownBy w' v.ownBlock ∧ w'.ownsRow B 3 1 v' (Lib.compact l).length ((Lib.compact l).map intC) := by
  rcases h.2 with ⟨rfl, h0⟩ | ⟨g, cap, cur, rfl, hb, hg, hc, hcm, hcs, ht⟩
  · obtain rfl : l = [] := List.length_eq_zero_iff.1 h0
    refine (Try.slices_Compact_int_empty none 0 w).mono ?_
    rintro e w' ⟨rfl, rfl⟩
    exact ⟨_, rfl, rfl, ⟨_, _, _, rfl⟩, World.grownBy.refl _ _, World.ownsRow_nil _ _ _ _⟩
  · have hlc : (Lib.compact l).length ≤ l.length := Lib.compact_length_le l
    refine (Try.slices_Compact_int g 0 cap l w (holds_of_blockI hg (by simpa using ht)) (by omega) hc).mono ?_
    rintro e w' ⟨rfl, q, rfl⟩
    have e1 : ∀ d : Array Int, putRow (Value.int .i64) (Sort.ahead w q) g 0 d = grow (putRow (Value.int .i64) (Sort.ahead w q) g 0 d) #[] := fun d => (grow_empty _).symm
    rw [e1]
    have hpl : (Lib.compact l ++ List.replicate (l.length - (Lib.compact l).length) 0).length = l.length := by simp; omega
    have hown := ownsRow_sortedI (n := q) (os := #[]) (base := B) (ss := l) hpl hb hg hc hcm hcs
    refine ⟨_, rfl, rfl, ⟨_, _, _, rfl⟩, grownBy_sortedI _, ?_⟩
    rcases hown.2 with ⟨h1, _⟩ | ⟨g2, cap2, cur2, h1, h2, h3, h4, h5, h6, h7⟩
    · cases h1
    · cases h1
      refine ⟨by simp, .inr ⟨g, cap, cur2, rfl, h2, h3, by omega, h5, h6, ?_⟩⟩
      have h8 := congrArg (List.take (Lib.compact l).length) h7
      rw [List.take_take, Nat.mul_one, Nat.min_eq_left hlc, List.map_append, List.take_append_of_le_length (by simp), List.take_of_length_le (l := List.map _ _) (by simp)] at h8
      rw [Nat.mul_one]
      exact h8
end Go.Proofs.Ytlcgbkeggmaljaa
