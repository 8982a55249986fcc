/- Contracts of the reference's Least, Greatest, AtLeast and Upward. -/
import Derived.Test.YtdhihdiifgcfdaaGreatDoorCEnds
import Derived.Test.YtdhihdiifgcfdaaGreatDoorCRCanon
namespace Go.Proofs.YtdhihdiifgcfdaaGreatDoor
set_option linter.unusedVariables false
set_option linter.unusedSimpArgs false
open Go Go.RowKit

set_option maxRecDepth 100000 in
theorem rLeast_any (v : Value) (s : List (Int × Int)) (w : World) (hs : s.length ≤ 1000000) (hE : EdgesOf w.heap.size v s w) :
    Calls Tryz.prog 22 #[v] w fun e w' => e = .returned (.tuple #[.int .i64 (leastV s).1, .bool (leastV s).2]) ∧ Below w.heap.size w w' := by
  have HC := Lib.hid (rCanonical_any v s w hs hE)
  obtain ⟨l, hl⟩ : ∃ l, leastV s = l := ⟨_, rfl⟩
  have HL := Lib.hid hl
  rw [hl]
  unfold leastV at hl
  have hlen := canon_len s
  clear hE
  cases hc : canon s with
  | nil =>
    rw [hc] at HC hl
    subst hl
    clear hc HL
    go_enter Tryz.func22, Tryz.ntmps22
    go_wp2_with fail
    (with_reducible refine HC.out.mono ?_)
    rintro e w' ⟨v', rfl, hE', hb⟩
    obtain ⟨ao, cap, rfl⟩ := edges_len hE'
    clear hE'
    simp only [List.length_nil]
    go_wp2_with fail
    go_ret2
    exact ⟨rfl, hb⟩
  | cons x t =>
    rw [hc] at HC hl hlen
    subst hl
    clear hc HL
    go_enter Tryz.func22, Tryz.ntmps22
    go_wp2_with fail
    (with_reducible refine HC.out.mono ?_)
    rintro e w' ⟨v', rfl, hE', hb⟩
    obtain ⟨ao, cap, rfl⟩ := edges_len hE'
    obtain ⟨b, off, rfl, h1, h2⟩ := edges_head hE'
    have hn : 0 < (x :: t).length := by simp
    generalize (x :: t).length = n at *
    have hn2 : (0 : Int) < (n : Int) := by omega
    clear hE'
    go_wp2_with fail
    go_ret2
    exact ⟨rfl, hb⟩
set_option maxRecDepth 100000 in
theorem rGreatest_any (v : Value) (s : List (Int × Int)) (w : World) (hs : s.length ≤ 1000000) (hE : EdgesOf w.heap.size v s w) :
    Calls Tryz.prog 24 #[v] w fun e w' => e = .returned (.tuple #[.int .i64 (greatV s).1, .bool (greatV s).2]) ∧ Below w.heap.size w w' := by
  have HC := Lib.hid (rCanonical_any v s w hs hE)
  obtain ⟨l, hl⟩ : ∃ l, greatV s = l := ⟨_, rfl⟩
  have HL := Lib.hid hl
  rw [hl]
  unfold greatV at hl
  have hlen := canon_len s
  clear hE
  rcases List.eq_nil_or_concat (canon s) with hc | ⟨pre, y, hc⟩
  · rw [hc] at HC hl
    subst hl
    clear hc HL
    go_enter Tryz.func24, Tryz.ntmps24
    go_wp2_with fail
    (with_reducible refine HC.out.mono ?_)
    rintro e w' ⟨v', rfl, hE', hb⟩
    obtain ⟨ao, cap, rfl⟩ := edges_len hE'
    clear hE'
    simp only [List.length_nil]
    go_wp2_with fail
    go_ret2
    exact ⟨rfl, hb⟩
  · rw [List.concat_eq_append] at hc
    have hy := can_mem (s := s) (x := y) (by rw [hc]; simp)
    rw [hc] at HC hl hlen
    rw [List.getLast?_concat] at hl
    subst hl
    clear hc HL
    obtain ⟨y1, y2⟩ := y
    simp only at hy
    rw [List.length_append, List.length_singleton] at hlen
    go_enter Tryz.func24, Tryz.ntmps24
    go_wp2_with fail
    (with_reducible refine HC.out.mono ?_)
    rintro e w' ⟨v', rfl, ⟨ao, cap, rfl, hE'⟩, hb⟩
    obtain ⟨b, off, rfl, _, h1, h2⟩ := hE' pre.length (y1, y2) (by simp)
    clear hE'
    rw [List.length_append, List.length_singleton]
    have hn1 : IntKind.i64.wrap (((pre.length + 1 : Nat) : Int) - 1) = (pre.length : Int) := by rw [IntWalk.i64_in _ (by omega)]; omega
    have hn2 : IntKind.i64.wrap ((pre.length : Int) + 1 - 1) = (pre.length : Int) := by rw [IntWalk.i64_in _ (by omega)]; omega
    have hn4 : (0 : Int) ≤ (pre.length : Int) := by omega
    have hn5 : (0 : Int) < (pre.length : Int) + 1 := by omega
    go_wp2_with fail
    go_ret2
    exact ⟨rfl, hb⟩
set_option maxRecDepth 100000 in
theorem rAtLeast_any (p : Int) (w : World) :
    Calls Tryz.prog 26 #[.int .i64 p] w fun e w' => ∃ v', e = .returned v' ∧ EdgesOf w'.heap.size v' (canon [(p, 1000000)]) w' ∧ Below w.heap.size w w' := by
  have HC := Lib.hid (rCanonical_any (.slice (some ⟨w.heap.size, 0, none⟩) 1 1) [(p, 1000000)] (w.alloc (.cells #[intC p, intC 1000000] 49)) (by simp) ⟨_, _, rfl, fun i x hx => by
    have hi : i = 0 := by have := (List.getElem?_eq_some_iff.1 hx).1; simpa using this
    subst hi
    cases hx
    exact ⟨w.heap.size, 0, rfl, by simp, by simp [go_sem], by simp [go_sem]⟩⟩)
  go_enter Tryz.func26, Tryz.ntmps26
  go_wp2_with fail
  (with_reducible refine HC.out.mono ?_)
  rintro e w' ⟨v', rfl, hE', hb⟩
  have HE := Lib.hid hE'
  have HB := Lib.hid hb
  clear hE' hb
  go_wp2_with fail
  go_ret
  exact ⟨_, rfl, HE.out, ((Below.refl _ _).alloc (Nat.le_refl _) _).trans (HB.out.mono (by simp))⟩
set_option maxRecDepth 100000 in
theorem rUpward_any (v : Value) (s : List (Int × Int)) (w : World) (hs : s.length ≤ 1000000) (hE : EdgesOf w.heap.size v s w) :
    Calls Tryz.prog 28 #[v] w fun e w' => e = .returned (.bool (upB (canon s))) ∧ Below w.heap.size w w' := by
  have HC := Lib.hid (rCanonical_any v s w hs hE)
  have hlen := canon_len s
  clear hE
  generalize canon s = c at *
  match c with
  | [] =>
    show Calls _ _ _ _ fun e w' => e = .returned (.bool true) ∧ _
    go_enter Tryz.func28, Tryz.ntmps28
    go_wp2_with fail
    (with_reducible refine HC.out.mono ?_)
    rintro e w' ⟨v', rfl, hE', hb⟩
    obtain ⟨ao, cap, rfl⟩ := edges_len hE'
    clear hE'
    simp only [List.length_nil]
    go_wp2_with fail
    go_ret
    exact ⟨rfl, hb⟩
  | [x] =>
    show Calls _ _ _ _ fun e w' => e = .returned (.bool (decide (x.2 = 1000000))) ∧ _
    obtain ⟨x1, x2⟩ := x
    go_enter Tryz.func28, Tryz.ntmps28
    go_wp2_with fail
    (with_reducible refine HC.out.mono ?_)
    rintro e w' ⟨v', rfl, hE', hb⟩
    obtain ⟨ao, cap, rfl⟩ := edges_len hE'
    obtain ⟨b, off, rfl, h1, h2⟩ := edges_head hE'
    clear hE'
    simp only [List.length_singleton]
    by_cases hx : x2 = 1000000
    · subst hx
      go_wp2_with fail
      go_ret
      exact ⟨rfl, hb⟩
    · have hx2 : (x2 == 1000000) = false := by simpa using hx
      go_wp2_with fail
      go_ret
      exact ⟨by simp [hx], hb⟩
  | x :: y :: t =>
    show Calls _ _ _ _ fun e w' => e = .returned (.bool false) ∧ _
    go_enter Tryz.func28, Tryz.ntmps28
    go_wp2_with fail
    (with_reducible refine HC.out.mono ?_)
    rintro e w' ⟨v', rfl, hE', hb⟩
    obtain ⟨ao, cap, rfl⟩ := edges_len hE'
    have hn : 1 < (x :: y :: t).length := by simp
    generalize (x :: y :: t).length = n at *
    have hn1 : ((n : Int) == 0) = false := by simp; omega
    have hn2 : ((n : Int) == 1) = false := by simp; omega
    clear hE'
    go_wp2_with fail
    go_ret
    exact ⟨rfl, hb⟩
end Go.Proofs.YtdhihdiifgcfdaaGreatDoor
