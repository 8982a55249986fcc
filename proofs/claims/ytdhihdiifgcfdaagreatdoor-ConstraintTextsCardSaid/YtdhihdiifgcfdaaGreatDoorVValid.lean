/- Contract of package version's Valid. -/
import Derived.Test.YtdhihdiifgcfdaaGreatDoorVBase
namespace Go.Proofs.YtdhihdiifgcfdaaGreatDoor
open Go Go.RowKit

theorem valid_le {a b c : Int} (h : validB a b c = true) : (0 ≤ a ∧ a ≤ 999) ∧ (0 ≤ b ∧ b ≤ 999) ∧ 0 ≤ c ∧ c ≤ 999 := by
  unfold validB partB at h
  simpa using h
theorem part_yes {a : Int} (h : partB a = true) : ¬ a < 0 ∧ ¬ 999 < a := by unfold partB at h; have := of_decide_eq_true h; omega
theorem part_no {a : Int} (h : partB a = false) : a < 0 ∨ (¬ a < 0 ∧ 999 < a) := by unfold partB at h; have := of_decide_eq_false h; omega
set_option maxRecDepth 100000 in
set_option maxHeartbeats 1000000 in
theorem Valid_any (a b c : Int) (w : World) : Calls Tryz.prog 46 #[.agg #[.int .i64 a, .int .i64 b, .int .i64 c]] w fun e w' => e = .returned (.bool (validB a b c)) ∧ w' = ((w.alloc (.cells #[.int .i64 a, .int .i64 b, .int .i64 c] 23)).alloc (.cells #[.int .i64 a, .int .i64 b, .int .i64 c] 23)).alloc (.cells #[.int .i64 a, .int .i64 b, .int .i64 c] 75) := by
  have i0 : ∀ w, (Instr.index 75 (.agg #[.int .i64 a, .int .i64 b, .int .i64 c]) (.int .i64 0)).run Tryz.prog w = .ok (.int .i64 a) w := fun _ => by kernel_rfl
  have i1 : ∀ w, (Instr.index 75 (.agg #[.int .i64 a, .int .i64 b, .int .i64 c]) (.int .i64 1)).run Tryz.prog w = .ok (.int .i64 b) w := fun _ => by kernel_rfl
  have i2 : ∀ w, (Instr.index 75 (.agg #[.int .i64 a, .int .i64 b, .int .i64 c]) (.int .i64 2)).run Tryz.prog w = .ok (.int .i64 c) w := fun _ => by kernel_rfl
  obtain ⟨v, hv⟩ : ∃ v, validB a b c = v := ⟨_, rfl⟩
  rw [hv]
  have HV := Lib.hid hv
  clear hv
  go_enter Tryz.func46, Tryz.ntmps46
  go_wp2_with (go_at_call 58; refine (parts_any _ _ _ _).mono ?_; rintro e w' ⟨rfl, rfl⟩)
  go_loop [7] (fun i => (i = .int .i64 0) ∨ (i = .int .i64 1 ∧ Hid (partB a = true)) ∨ (i = .int .i64 2 ∧ Hid (partB a = true ∧ partB b = true)) ∨ (i = .int .i64 3 ∧ Hid (partB a = true ∧ partB b = true ∧ partB c = true))) (fun i => 3 - (intOf i).toNat)
  case atStart => exact .inl rfl
  case round =>
    rcases hrel with rfl | ⟨rfl, H1⟩ | ⟨rfl, H2⟩ | ⟨rfl, H3⟩
    · by_cases hp : partB a = true
      · obtain ⟨h1, h2⟩ := part_yes hp
        have HP := Lib.hid hp
        clear hp
        go_wp2
        go_round
        case rel => exact .inr (.inl ⟨rfl, HP⟩)
        case measure => simp [intOf]
      · have HP := Lib.hid hp
        have HVF := Lib.hid (show v = false by rw [← HV.out]; unfold validB; simp [HP.out])
        rcases part_no (by simpa using hp) with h1 | ⟨h1, h2⟩
        all_goals
          clear hp
          go_wp2
          go_ret
          exact ⟨by rw [HVF.out]; rfl, rfl⟩
    · by_cases hp : partB b = true
      · obtain ⟨h1, h2⟩ := part_yes hp
        have HP := Lib.hid hp
        clear hp
        go_wp2
        go_round
        case rel => exact .inr (.inr (.inl ⟨rfl, Lib.hid ⟨H1.out, HP.out⟩⟩))
        case measure => simp [intOf]
      · have HP := Lib.hid hp
        have HVF := Lib.hid (show v = false by rw [← HV.out]; unfold validB; simp [HP.out])
        rcases part_no (by simpa using hp) with h1 | ⟨h1, h2⟩
        all_goals
          clear hp
          go_wp2
          go_ret
          exact ⟨by rw [HVF.out]; rfl, rfl⟩
    · by_cases hp : partB c = true
      · obtain ⟨h1, h2⟩ := part_yes hp
        have HP := Lib.hid hp
        clear hp
        go_wp2
        go_round
        case rel => exact .inr (.inr (.inr ⟨rfl, Lib.hid ⟨H2.out.1, H2.out.2, HP.out⟩⟩))
        case measure => simp [intOf]
      · have HP := Lib.hid hp
        have HVF := Lib.hid (show v = false by rw [← HV.out]; unfold validB; simp [HP.out])
        rcases part_no (by simpa using hp) with h1 | ⟨h1, h2⟩
        all_goals
          clear hp
          go_wp2
          go_ret
          exact ⟨by rw [HVF.out]; rfl, rfl⟩
    · have HVF := Lib.hid (show v = true by rw [← HV.out]; unfold validB; simp [H3.out])
      go_wp2
      go_ret
      exact ⟨by rw [HVF.out]; rfl, rfl⟩
/-- a level is one. -/
def knownB (l : Int) : Bool := decide (0 ≤ l ∧ l ≤ 2)
end Go.Proofs.YtdhihdiifgcfdaaGreatDoor
