/- Contract of package version's Next. -/
import Derived.Test.YtbpgbbdebhmlkaaDoorVValid
namespace Go.Proofs.YtbpgbbdebhmlkaaDoor
open Go Go.RowKit

/-- the least number that is permitted after a number, and the error. -/
def nextV (a b c l : Int) : (Int × Int × Int) × Int :=
  if (validB a b c && knownB l) = false then ((0, 0, 0), 1)
  else if (decide (l = 0) && validB a b (c + 1)) = true then ((a, b, c + 1), 0)
  else if (decide (l ≠ 2) && validB a (b + 1) 0) = true then ((a, b + 1, 0), 0)
  else if validB (a + 1) 0 0 = true then ((a + 1, 0, 0), 0)
  else ((0, 0, 0), 2)
set_option maxRecDepth 100000 in
set_option maxHeartbeats 4000000 in
theorem Next_any (a b c l : Int) (w : World) : Calls Tryd.prog 19 #[.agg #[.int .i64 a, .int .i64 b, .int .i64 c], .int .i64 l] w fun e w' =>
    e = .returned (.tuple #[.agg #[.int .i64 (nextV a b c l).1.1, .int .i64 (nextV a b c l).1.2.1, .int .i64 (nextV a b c l).1.2.2], .int .i64 (nextV a b c l).2]) ∧ Below w.heap.size w w' := by
  by_cases hv : validB a b c = true
  · by_cases hk : knownB l = true
    · have hl : 0 ≤ l ∧ l ≤ 2 := of_decide_eq_true hk
      obtain ⟨hl0, hl2⟩ := hl
      obtain ⟨⟨a0, a1⟩, ⟨b0, b1⟩, c0, c1⟩ := valid_le hv
      rcases (show l = 0 ∨ l = 1 ∨ l = 2 by omega) with rfl | rfl | rfl
      · by_cases h1 : validB a b (c + 1) = true
        · have HE := Lib.hid (show nextV a b c 0 = ((a, b, c + 1), 0) by unfold nextV; simp [hv, hk, h1])
          rw [HE.out]
          go_enter Tryd.func19, Tryd.ntmps19
          go_wp2_with (first | (go_at_call 13; refine (Valid_any _ _ _ _).mono ?_; rintro e w' ⟨rfl, rfl⟩) | (go_at_call 36; refine (known_any _ _).mono ?_; rintro e w' ⟨rfl, rfl⟩))
          exact bodyPost_ret (v := .tuple #[.agg #[.int .i64 (a), .int .i64 (b), .int .i64 (c + 1)], .int .i64 0]) (by simp [results, Tryd.results19, go_sem]) rfl ⟨rfl, (by repeat (first | exact Below.refl _ _ | refine Below.drew ?_ | refine Below.alloc ?_ (by simp <;> omega) _ | refine Below.setCell ?_ (by simp <;> omega) _))⟩
        · have h1 : validB a b (c + 1) = false := by simpa using h1
          by_cases h2 : validB a (b + 1) 0 = true
          · have HE := Lib.hid (show nextV a b c 0 = ((a, b + 1, 0), 0) by unfold nextV; simp [hv, hk, h1, h2])
            rw [HE.out]
            go_enter Tryd.func19, Tryd.ntmps19
            go_wp2_with (first | (go_at_call 13; refine (Valid_any _ _ _ _).mono ?_; rintro e w' ⟨rfl, rfl⟩) | (go_at_call 36; refine (known_any _ _).mono ?_; rintro e w' ⟨rfl, rfl⟩))
            exact bodyPost_ret (v := .tuple #[.agg #[.int .i64 (a), .int .i64 (b + 1), .int .i64 (0)], .int .i64 0]) (by simp [results, Tryd.results19, go_sem]) rfl ⟨rfl, (by repeat (first | exact Below.refl _ _ | refine Below.drew ?_ | refine Below.alloc ?_ (by simp <;> omega) _ | refine Below.setCell ?_ (by simp <;> omega) _))⟩
          · have h2 : validB a (b + 1) 0 = false := by simpa using h2
            by_cases h3 : validB (a + 1) 0 0 = true
            · have HE := Lib.hid (show nextV a b c 0 = ((a + 1, 0, 0), 0) by unfold nextV; simp [hv, hk, h1, h2, h3])
              rw [HE.out]
              go_enter Tryd.func19, Tryd.ntmps19
              go_wp2_with (first | (go_at_call 13; refine (Valid_any _ _ _ _).mono ?_; rintro e w' ⟨rfl, rfl⟩) | (go_at_call 36; refine (known_any _ _).mono ?_; rintro e w' ⟨rfl, rfl⟩))
              exact bodyPost_ret (v := .tuple #[.agg #[.int .i64 (a + 1), .int .i64 (0), .int .i64 (0)], .int .i64 0]) (by simp [results, Tryd.results19, go_sem]) rfl ⟨rfl, (by repeat (first | exact Below.refl _ _ | refine Below.drew ?_ | refine Below.alloc ?_ (by simp <;> omega) _ | refine Below.setCell ?_ (by simp <;> omega) _))⟩
            · have h3 : validB (a + 1) 0 0 = false := by simpa using h3
              have HE := Lib.hid (show nextV a b c 0 = ((0, 0, 0), 2) by unfold nextV; simp [hv, hk, h1, h2, h3])
              rw [HE.out]
              go_enter Tryd.func19, Tryd.ntmps19
              go_wp2_with (first | (go_at_call 13; refine (Valid_any _ _ _ _).mono ?_; rintro e w' ⟨rfl, rfl⟩) | (go_at_call 36; refine (known_any _ _).mono ?_; rintro e w' ⟨rfl, rfl⟩))
              exact bodyPost_ret (v := .tuple #[.agg #[.int .i64 (0), .int .i64 (0), .int .i64 (0)], .int .i64 2]) (by simp [results, Tryd.results19, go_sem]) rfl ⟨rfl, (by repeat (first | exact Below.refl _ _ | refine Below.drew ?_ | refine Below.alloc ?_ (by simp <;> omega) _ | refine Below.setCell ?_ (by simp <;> omega) _))⟩
      · by_cases h2 : validB a (b + 1) 0 = true
        · have HE := Lib.hid (show nextV a b c 1 = ((a, b + 1, 0), 0) by unfold nextV; simp [hv, hk, h2])
          rw [HE.out]
          go_enter Tryd.func19, Tryd.ntmps19
          go_wp2_with (first | (go_at_call 13; refine (Valid_any _ _ _ _).mono ?_; rintro e w' ⟨rfl, rfl⟩) | (go_at_call 36; refine (known_any _ _).mono ?_; rintro e w' ⟨rfl, rfl⟩))
          exact bodyPost_ret (v := .tuple #[.agg #[.int .i64 (a), .int .i64 (b + 1), .int .i64 (0)], .int .i64 0]) (by simp [results, Tryd.results19, go_sem]) rfl ⟨rfl, (by repeat (first | exact Below.refl _ _ | refine Below.drew ?_ | refine Below.alloc ?_ (by simp <;> omega) _ | refine Below.setCell ?_ (by simp <;> omega) _))⟩
        · have h2 : validB a (b + 1) 0 = false := by simpa using h2
          by_cases h3 : validB (a + 1) 0 0 = true
          · have HE := Lib.hid (show nextV a b c 1 = ((a + 1, 0, 0), 0) by unfold nextV; simp [hv, hk, h2, h3])
            rw [HE.out]
            go_enter Tryd.func19, Tryd.ntmps19
            go_wp2_with (first | (go_at_call 13; refine (Valid_any _ _ _ _).mono ?_; rintro e w' ⟨rfl, rfl⟩) | (go_at_call 36; refine (known_any _ _).mono ?_; rintro e w' ⟨rfl, rfl⟩))
            exact bodyPost_ret (v := .tuple #[.agg #[.int .i64 (a + 1), .int .i64 (0), .int .i64 (0)], .int .i64 0]) (by simp [results, Tryd.results19, go_sem]) rfl ⟨rfl, (by repeat (first | exact Below.refl _ _ | refine Below.drew ?_ | refine Below.alloc ?_ (by simp <;> omega) _ | refine Below.setCell ?_ (by simp <;> omega) _))⟩
          · have h3 : validB (a + 1) 0 0 = false := by simpa using h3
            have HE := Lib.hid (show nextV a b c 1 = ((0, 0, 0), 2) by unfold nextV; simp [hv, hk, h2, h3])
            rw [HE.out]
            go_enter Tryd.func19, Tryd.ntmps19
            go_wp2_with (first | (go_at_call 13; refine (Valid_any _ _ _ _).mono ?_; rintro e w' ⟨rfl, rfl⟩) | (go_at_call 36; refine (known_any _ _).mono ?_; rintro e w' ⟨rfl, rfl⟩))
            exact bodyPost_ret (v := .tuple #[.agg #[.int .i64 (0), .int .i64 (0), .int .i64 (0)], .int .i64 2]) (by simp [results, Tryd.results19, go_sem]) rfl ⟨rfl, (by repeat (first | exact Below.refl _ _ | refine Below.drew ?_ | refine Below.alloc ?_ (by simp <;> omega) _ | refine Below.setCell ?_ (by simp <;> omega) _))⟩
      · by_cases h3 : validB (a + 1) 0 0 = true
        · have HE := Lib.hid (show nextV a b c 2 = ((a + 1, 0, 0), 0) by unfold nextV; simp [hv, hk, h3])
          rw [HE.out]
          go_enter Tryd.func19, Tryd.ntmps19
          go_wp2_with (first | (go_at_call 13; refine (Valid_any _ _ _ _).mono ?_; rintro e w' ⟨rfl, rfl⟩) | (go_at_call 36; refine (known_any _ _).mono ?_; rintro e w' ⟨rfl, rfl⟩))
          exact bodyPost_ret (v := .tuple #[.agg #[.int .i64 (a + 1), .int .i64 (0), .int .i64 (0)], .int .i64 0]) (by simp [results, Tryd.results19, go_sem]) rfl ⟨rfl, (by repeat (first | exact Below.refl _ _ | refine Below.drew ?_ | refine Below.alloc ?_ (by simp <;> omega) _ | refine Below.setCell ?_ (by simp <;> omega) _))⟩
        · have h3 : validB (a + 1) 0 0 = false := by simpa using h3
          have HE := Lib.hid (show nextV a b c 2 = ((0, 0, 0), 2) by unfold nextV; simp [hv, hk, h3])
          rw [HE.out]
          go_enter Tryd.func19, Tryd.ntmps19
          go_wp2_with (first | (go_at_call 13; refine (Valid_any _ _ _ _).mono ?_; rintro e w' ⟨rfl, rfl⟩) | (go_at_call 36; refine (known_any _ _).mono ?_; rintro e w' ⟨rfl, rfl⟩))
          exact bodyPost_ret (v := .tuple #[.agg #[.int .i64 (0), .int .i64 (0), .int .i64 (0)], .int .i64 2]) (by simp [results, Tryd.results19, go_sem]) rfl ⟨rfl, (by repeat (first | exact Below.refl _ _ | refine Below.drew ?_ | refine Below.alloc ?_ (by simp <;> omega) _ | refine Below.setCell ?_ (by simp <;> omega) _))⟩
    · have hk : knownB l = false := by simpa using hk
      have HE := Lib.hid (show nextV a b c l = ((0, 0, 0), 1) by unfold nextV; simp [hv, hk])
      rw [HE.out]
      go_enter Tryd.func19, Tryd.ntmps19
      go_wp2_with (first | (go_at_call 13; refine (Valid_any _ _ _ _).mono ?_; rintro e w' ⟨rfl, rfl⟩) | (go_at_call 36; refine (known_any _ _).mono ?_; rintro e w' ⟨rfl, rfl⟩))
      exact bodyPost_ret (v := .tuple #[.agg #[.int .i64 (0), .int .i64 (0), .int .i64 (0)], .int .i64 1]) (by simp [results, Tryd.results19, go_sem]) rfl ⟨rfl, (by repeat (first | exact Below.refl _ _ | refine Below.drew ?_ | refine Below.alloc ?_ (by simp <;> omega) _ | refine Below.setCell ?_ (by simp <;> omega) _))⟩
  · have hv : validB a b c = false := by simpa using hv
    have HE := Lib.hid (show nextV a b c l = ((0, 0, 0), 1) by unfold nextV; simp [hv])
    rw [HE.out]
    go_enter Tryd.func19, Tryd.ntmps19
    go_wp2_with (first | (go_at_call 13; refine (Valid_any _ _ _ _).mono ?_; rintro e w' ⟨rfl, rfl⟩) | (go_at_call 36; refine (known_any _ _).mono ?_; rintro e w' ⟨rfl, rfl⟩))
    exact bodyPost_ret (v := .tuple #[.agg #[.int .i64 (0), .int .i64 (0), .int .i64 (0)], .int .i64 1]) (by simp [results, Tryd.results19, go_sem]) rfl ⟨rfl, (by repeat (first | exact Below.refl _ _ | refine Below.drew ?_ | refine Below.alloc ?_ (by simp <;> omega) _ | refine Below.setCell ?_ (by simp <;> omega) _))⟩
end Go.Proofs.YtbpgbbdebhmlkaaDoor
