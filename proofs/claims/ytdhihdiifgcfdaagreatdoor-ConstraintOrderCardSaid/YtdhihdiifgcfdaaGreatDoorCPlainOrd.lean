/- What ConstraintOrder says, plain. -/
import Derived.Test.YtdhihdiifgcfdaaGreatDoorCEnds
import Derived.Test.YtdhihdiifgcfdaaGreatDoorCPlainSets
import Derived.Test.YtdhihdiifgcfdaaGreatDoorCPlace
namespace Go.Proofs.YtdhihdiifgcfdaaGreatDoor
set_option linter.unusedVariables false
set_option linter.unusedSimpArgs false
open Go

theorem cmpI_lt (a b : Int) : (cmpI a b < 0 ↔ a < b) ∧ (0 < cmpI a b ↔ b < a) ∧ (cmpI a b = 0 ↔ a = b) := by
  unfold cmpI
  split
  · omega
  · split <;> omega
theorem place_ok {a b c p : Int} (h : placeV a b c = (p, 0)) : validB a b c = true ∧ p = 1000 * b + c := by
  unfold placeV at h
  split at h
  · rename_i hv
    exact ⟨hv, ((Prod.mk.inj h).1).symm⟩
  · exact absurd (Prod.mk.inj h).2 (by decide)
theorem place_err (a b c : Int) : (placeV a b c).2 = 0 ∨ (placeV a b c).2 = 2 := by
  unfold placeV
  split <;> simp
/-- places are compared as versions of one major version. -/
theorem cmp_place {a b c y z p q : Int} (h1 : placeV a b c = (p, 0)) (h2 : placeV a y z = (q, 0)) : decide (cmpV a b c a y z < 0) = decide (p < q) ∧ decide (0 < cmpV a b c a y z) = decide (q < p) := by
  obtain ⟨v1, rfl⟩ := place_ok h1
  obtain ⟨v2, rfl⟩ := place_ok h2
  obtain ⟨⟨a0, a1⟩, ⟨b0, b1⟩, c0, c1⟩ := valid_le v1
  obtain ⟨_, ⟨y0, y1⟩, z0, z1⟩ := valid_le v2
  have ha := cmpI_lt a a
  have hb := cmpI_lt b y
  have hc := cmpI_lt c z
  have e : cmpV a b c a y z = if cmpI b y ≠ 0 then cmpI b y else cmpI c z := by
    unfold cmpV
    rw [if_neg (by rw [ne_eq, ha.2.2.2 rfl]; simp)]
  rw [e, decide_eq_decide, decide_eq_decide]
  by_cases h0 : cmpI b y = 0
  · rw [if_neg (by rw [h0]; simp)]
    have := hb.2.2.1 h0
    subst this
    rw [hc.1, hc.2.1]
    omega
  · rw [if_pos h0, hb.1, hb.2.1]
    have : b ≠ y := fun e => h0 (hb.2.2.2 e)
    omega
/-- At inverts Place. -/
theorem at_place {a b c p : Int} (h : placeV a b c = (p, 0)) : atV a p = ((a, b, c), 0) := by
  obtain ⟨hv, rfl⟩ := place_ok h
  obtain ⟨⟨a0, a1⟩, ⟨b0, b1⟩, c0, c1⟩ := valid_le hv
  unfold atV
  rw [if_pos ⟨by unfold partB; simp; omega, by omega, by omega⟩, show (1000 * b + c) / 1000 = b by omega, show (1000 * b + c) % 1000 = c by omega]
/-- the ends of a set that is not empty. -/
theorem ends_yes {s : List (Int × Int)} {l : Int} (h : leastV s = (l, true)) : ∃ g, greatV s = (g, true) ∧ l ≤ g ∧ 0 ≤ l ∧ l < 1000000 ∧ hasB s l = true ∧ hasB s g = true ∧ hasB s (l - 1) = false ∧ upB (canon s) = decide (canon [(l, 1000000)] = canon s) := by
  have hc := canon_can s
  have hin := canon_in s
  unfold leastV at h
  unfold greatV
  cases e : canon s with
  | nil => rw [e] at h; exact absurd (Prod.mk.inj h).2 (by decide)
  | cons x t =>
    rw [e] at h hc hin
    obtain rfl := (Prod.mk.inj h).1
    obtain ⟨hx, hxt, hct⟩ := can_cons.1 hc
    have hlast : ∃ y, (x :: t).getLast? = some y ∧ y ∈ x :: t := by
      rcases List.eq_nil_or_concat (x :: t) with e2 | ⟨p, y, e2⟩
      · cases e2
      · rw [List.concat_eq_append] at e2
        exact ⟨y, by rw [e2, List.getLast?_concat], by rw [e2]; simp⟩
    obtain ⟨y, hy, hym⟩ := hlast
    have hyb := hc.2 y hym
    have hxy : x.1 ≤ y.1 := by
      rcases List.mem_cons.1 hym with rfl | h2
      · exact Int.le_refl _
      · have := hxt y h2; omega
    rw [hy]
    refine ⟨y.2 - 1, rfl, by omega, hx.1, by omega, ?_, ?_, ?_, ?_⟩
    · rw [hasB_iff]
      exact (hin x.1).1 ⟨x, by simp, Int.le_refl _, hx.2.1⟩
    · rw [hasB_iff]
      exact (hin (y.2 - 1)).1 ⟨y, hym, by omega, by omega⟩
    · rw [← Bool.not_eq_true, hasB_iff]
      intro h3
      obtain ⟨z, hz, h4⟩ := (hin (x.1 - 1)).2 h3
      rcases List.mem_cons.1 hz with rfl | hz
      · omega
      · have := hxt z hz; omega
    · have hone : canon [(x.1, 1000000)] = [(x.1, 1000000)] := canon_of_can (can_cons.2 ⟨⟨hx.1, by show x.1 < 1000000; omega, Int.le_refl _⟩, fun y hy => (List.not_mem_nil hy).elim, can_nil⟩)
      rw [hone]
      cases t with
      | nil =>
        show decide (x.2 = 1000000) = _
        rw [decide_eq_decide]
        constructor
        · intro h2
          rw [show x = (x.1, 1000000) from Prod.ext rfl h2]
        · intro h2
          rw [← (List.cons.inj h2).1]
      | cons z t =>
        show false = _
        symm
        exact decide_eq_false (fun h2 => by cases (List.cons.inj h2).2)
theorem ends_no {s : List (Int × Int)} {l : Int} (h : leastV s = (l, false)) : canon s = [] := by
  unfold leastV at h
  cases e : canon s with
  | nil => rfl
  | cons x t => rw [e] at h; exact absurd (Prod.mk.inj h).2 (by decide)
end Go.Proofs.YtdhihdiifgcfdaaGreatDoor
