/- Contracts of the constraint's Least, Greatest, AtLeast and Upward. -/
import Derived.Test.YtdhihdiifgcfdaaGreatDoorCCanon1
namespace Go.Proofs.YtdhihdiifgcfdaaGreatDoor
set_option linter.unusedVariables false
set_option linter.unusedSimpArgs false
open Go Go.RowKit

/-- the least and the greatest place of a set; whether it is closed upward. -/
def leastV (s : List (Int × Int)) : Int × Bool := match canon s with
  | [] => (0, false)
  | x :: _ => (x.1, true)
def greatV (s : List (Int × Int)) : Int × Bool := match (canon s).getLast? with
  | none => (0, false)
  | some x => (x.2 - 1, true)
def upB (c : List (Int × Int)) : Bool := match c with
  | [] => true
  | [x] => decide (x.2 = 1000000)
  | _ => false
theorem can_mem {s : List (Int × Int)} {x : Int × Int} (h : x ∈ canon s) : 0 ≤ x.1 ∧ x.1 < x.2 ∧ x.2 ≤ 1000000 := (canon_can s).2 x h
/-- a first span in memory. -/
theorem edges_head {B : Nat} {ao : Option Addr} {n cap : Nat} {x : Int × Int} {t : List (Int × Int)} {W : World} (h : EdgesOf B (.slice ao n cap) (x :: t) W) :
    ∃ b off, ao = some ⟨b, off, none⟩ ∧ W.cell? ⟨b, off, none⟩ = some (intC x.1) ∧ W.cell? ⟨b, off + 1, none⟩ = some (intC x.2) := by
  obtain ⟨ao', cap', hv, h⟩ := h
  cases hv
  obtain ⟨b, off, rfl, _, h1, h2⟩ := h 0 x rfl
  simp only [Nat.zero_mul, Nat.add_zero] at h1 h2
  exact ⟨b, off, rfl, h1, h2⟩
theorem edges_len {B : Nat} {v : Value} {es : List (Int × Int)} {W : World} (h : EdgesOf B v es W) : ∃ ao cap, v = .slice ao es.length cap := by
  obtain ⟨ao, cap, rfl, _⟩ := h
  exact ⟨ao, cap, rfl⟩
set_option maxRecDepth 100000 in
theorem Least_any (v : Value) (s : List (Int × Int)) (w : World) (hs : s.length ≤ 1000000000) (hE : EdgesOf w.heap.size v s w) :
    Calls Tryz.prog 21 #[v] w fun e w' => e = .returned (.tuple #[.int .i64 (leastV s).1, .bool (leastV s).2]) ∧ Below w.heap.size w w' := by
  have HC := Lib.hid (Canonical_any v s w hs hE)
  obtain ⟨l, hl⟩ : ∃ l, leastV s = l := ⟨_, rfl⟩
  have HL := Lib.hid hl
  rw [hl]
  unfold leastV at hl
  have hlen := canon_len s
  clear hE
  cases hc : canon s with
  | nil =>
    rw [hc] at HC hl
    subst hl
    clear hc HL
    go_enter Tryz.func21, Tryz.ntmps21
    go_wp2_with fail
    (with_reducible refine HC.out.mono ?_)
    rintro e w' ⟨v', rfl, hE', hb⟩
    obtain ⟨ao, cap, rfl⟩ := edges_len hE'
    clear hE'
    simp only [List.length_nil]
    go_wp2_with fail
    go_ret2
    exact ⟨rfl, hb⟩
  | cons x t =>
    rw [hc] at HC hl hlen
    subst hl
    clear hc HL
    go_enter Tryz.func21, Tryz.ntmps21
    go_wp2_with fail
    (with_reducible refine HC.out.mono ?_)
    rintro e w' ⟨v', rfl, hE', hb⟩
    obtain ⟨ao, cap, rfl⟩ := edges_len hE'
    obtain ⟨b, off, rfl, h1, h2⟩ := edges_head hE'
    have hn : 0 < (x :: t).length := by simp
    generalize (x :: t).length = n at *
    have hn2 : (0 : Int) < (n : Int) := by omega
    clear hE'
    go_wp2_with fail
    go_ret2
    exact ⟨rfl, hb⟩
set_option maxRecDepth 100000 in
theorem Greatest_any (v : Value) (s : List (Int × Int)) (w : World) (hs : s.length ≤ 1000000000) (hE : EdgesOf w.heap.size v s w) :
    Calls Tryz.prog 23 #[v] w fun e w' => e = .returned (.tuple #[.int .i64 (greatV s).1, .bool (greatV s).2]) ∧ Below w.heap.size w w' := by
  have HC := Lib.hid (Canonical_any v s w hs hE)
  obtain ⟨l, hl⟩ : ∃ l, greatV s = l := ⟨_, rfl⟩
  have HL := Lib.hid hl
  rw [hl]
  unfold greatV at hl
  have hlen := canon_len s
  clear hE
  rcases List.eq_nil_or_concat (canon s) with hc | ⟨pre, y, hc⟩
  · rw [hc] at HC hl
    subst hl
    clear hc HL
    go_enter Tryz.func23, Tryz.ntmps23
    go_wp2_with fail
    (with_reducible refine HC.out.mono ?_)
    rintro e w' ⟨v', rfl, hE', hb⟩
    obtain ⟨ao, cap, rfl⟩ := edges_len hE'
    clear hE'
    simp only [List.length_nil]
    go_wp2_with fail
    go_ret2
    exact ⟨rfl, hb⟩
  · rw [List.concat_eq_append] at hc
    have hy := can_mem (s := s) (x := y) (by rw [hc]; simp)
    rw [hc] at HC hl hlen
    rw [List.getLast?_concat] at hl
    subst hl
    clear hc HL
    obtain ⟨y1, y2⟩ := y
    simp only at hy
    rw [List.length_append, List.length_singleton] at hlen
    go_enter Tryz.func23, Tryz.ntmps23
    go_wp2_with fail
    (with_reducible refine HC.out.mono ?_)
    rintro e w' ⟨v', rfl, ⟨ao, cap, rfl, hE'⟩, hb⟩
    obtain ⟨b, off, rfl, _, h1, h2⟩ := hE' pre.length (y1, y2) (by simp)
    clear hE'
    rw [List.length_append, List.length_singleton]
    have hn1 : IntKind.i64.wrap (((pre.length + 1 : Nat) : Int) - 1) = (pre.length : Int) := by rw [IntWalk.i64_in _ (by omega)]; omega
    have hn2 : IntKind.i64.wrap ((pre.length : Int) + 1 - 1) = (pre.length : Int) := by rw [IntWalk.i64_in _ (by omega)]; omega
    have hn4 : (0 : Int) ≤ (pre.length : Int) := by omega
    have hn5 : (0 : Int) < (pre.length : Int) + 1 := by omega
    go_wp2_with fail
    go_ret2
    exact ⟨rfl, hb⟩
set_option maxRecDepth 100000 in
theorem AtLeast_any (p : Int) (w : World) :
    Calls Tryz.prog 25 #[.int .i64 p] w fun e w' => ∃ v', e = .returned v' ∧ EdgesOf w'.heap.size v' (canon [(p, 1000000)]) w' ∧ Below w.heap.size w w' := by
  have HC := Lib.hid (Canonical_any (.slice (some ⟨w.heap.size, 0, none⟩) 1 1) [(p, 1000000)] (w.alloc (.cells #[intC p, intC 1000000] 49)) (by simp) ⟨_, _, rfl, fun i x hx => by
    have hi : i = 0 := by have := (List.getElem?_eq_some_iff.1 hx).1; simpa using this
    subst hi
    cases hx
    exact ⟨w.heap.size, 0, rfl, by simp, by simp [go_sem], by simp [go_sem]⟩⟩)
  go_enter Tryz.func25, Tryz.ntmps25
  go_wp2_with fail
  (with_reducible refine HC.out.mono ?_)
  rintro e w' ⟨v', rfl, hE', hb⟩
  have HE := Lib.hid hE'
  have HB := Lib.hid hb
  clear hE' hb
  go_wp2_with fail
  go_ret
  exact ⟨_, rfl, HE.out, ((Below.refl _ _).alloc (Nat.le_refl _) _).trans (HB.out.mono (by simp))⟩
set_option maxRecDepth 100000 in
theorem Upward_any (v : Value) (s : List (Int × Int)) (w : World) (hs : s.length ≤ 1000000000) (hE : EdgesOf w.heap.size v s w) :
    Calls Tryz.prog 27 #[v] w fun e w' => e = .returned (.bool (upB (canon s))) ∧ Below w.heap.size w w' := by
  have HC := Lib.hid (Canonical_any v s w hs hE)
  have hlen := canon_len s
  clear hE
  generalize canon s = c at *
  match c with
  | [] =>
    show Calls _ _ _ _ fun e w' => e = .returned (.bool true) ∧ _
    go_enter Tryz.func27, Tryz.ntmps27
    go_wp2_with fail
    (with_reducible refine HC.out.mono ?_)
    rintro e w' ⟨v', rfl, hE', hb⟩
    obtain ⟨ao, cap, rfl⟩ := edges_len hE'
    clear hE'
    simp only [List.length_nil]
    go_wp2_with fail
    go_ret
    exact ⟨rfl, hb⟩
  | [x] =>
    show Calls _ _ _ _ fun e w' => e = .returned (.bool (decide (x.2 = 1000000))) ∧ _
    obtain ⟨x1, x2⟩ := x
    go_enter Tryz.func27, Tryz.ntmps27
    go_wp2_with fail
    (with_reducible refine HC.out.mono ?_)
    rintro e w' ⟨v', rfl, hE', hb⟩
    obtain ⟨ao, cap, rfl⟩ := edges_len hE'
    obtain ⟨b, off, rfl, h1, h2⟩ := edges_head hE'
    clear hE'
    simp only [List.length_singleton]
    by_cases hx : x2 = 1000000
    · subst hx
      go_wp2_with fail
      go_ret
      exact ⟨rfl, hb⟩
    · have hx2 : (x2 == 1000000) = false := by simpa using hx
      go_wp2_with fail
      go_ret
      exact ⟨by simp [hx], hb⟩
  | x :: y :: t =>
    show Calls _ _ _ _ fun e w' => e = .returned (.bool false) ∧ _
    go_enter Tryz.func27, Tryz.ntmps27
    go_wp2_with fail
    (with_reducible refine HC.out.mono ?_)
    rintro e w' ⟨v', rfl, hE', hb⟩
    obtain ⟨ao, cap, rfl⟩ := edges_len hE'
    have hn : 1 < (x :: y :: t).length := by simp
    generalize (x :: y :: t).length = n at *
    have hn1 : ((n : Int) == 0) = false := by simp; omega
    have hn2 : ((n : Int) == 1) = false := by simp; omega
    clear hE'
    go_wp2_with fail
    go_ret
    exact ⟨rfl, hb⟩
end Go.Proofs.YtdhihdiifgcfdaaGreatDoor
