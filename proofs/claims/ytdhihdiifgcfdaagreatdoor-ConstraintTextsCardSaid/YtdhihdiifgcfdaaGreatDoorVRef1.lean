/- Contracts of the reference's part, Valid and Compare. -/
import Derived.Test.YtdhihdiifgcfdaaGreatDoorVValid
import Derived.Test.YtdhihdiifgcfdaaGreatDoorVCompare
namespace Go.Proofs.YtdhihdiifgcfdaaGreatDoor
open Go Go.RowKit

theorem rpart_any (n : Int) (w : World) : Calls Tryz.prog 69 #[.int .i64 n] w fun e w' => e = .returned (.bool (partB n)) ∧ w = w' := by
  cases h : partB n with
  | true =>
    obtain ⟨h1, h2⟩ := part_yes h
    clear h
    go_enter Tryz.func69, Tryz.ntmps69
    go_wp2
    go_ret
    exact ⟨rfl, rfl⟩
  | false =>
    rcases (show n < 0 ∨ (0 ≤ n ∧ ¬ n ≤ 999) by have := part_no h; omega) with h1 | ⟨h1, h2⟩
    all_goals
      clear h
      go_enter Tryz.func69, Tryz.ntmps69
      go_wp2
      go_ret
      exact ⟨rfl, rfl⟩
theorem rValid_any (a b c : Int) (w : World) : Calls Tryz.prog 47 #[.agg #[.int .i64 a, .int .i64 b, .int .i64 c]] w fun e w' => e = .returned (.bool (validB a b c)) ∧ w' = w.alloc (.cells #[.int .i64 a, .int .i64 b, .int .i64 c] 23) := by
  have HE : Hid (validB a b c = (partB a && (partB b && partB c))) := Lib.hid rfl
  obtain ⟨v, hv⟩ : ∃ v, validB a b c = v := ⟨_, rfl⟩
  rw [hv] at HE ⊢
  clear hv
  cases h1 : partB a with
  | false =>
    have HV := Lib.hid (show v = false by rw [HE.out, h1]; rfl)
    go_enter Tryz.func47, Tryz.ntmps47
    go_wp2_with (go_at_call 69; refine (rpart_any _ _).mono ?_; rintro e w' ⟨rfl, rfl⟩)
    go_ret
    exact ⟨by rw [HV.out]; rfl, rfl⟩
  | true =>
    cases h2 : partB b with
    | false =>
      have HV := Lib.hid (show v = false by rw [HE.out, h1, h2]; rfl)
      go_enter Tryz.func47, Tryz.ntmps47
      go_wp2_with (go_at_call 69; refine (rpart_any _ _).mono ?_; rintro e w' ⟨rfl, rfl⟩)
      go_ret
      exact ⟨by rw [HV.out]; rfl, rfl⟩
    | true =>
      cases h3 : partB c with
      | false =>
        have HV := Lib.hid (show v = false by rw [HE.out, h1, h2, h3]; rfl)
        go_enter Tryz.func47, Tryz.ntmps47
        go_wp2_with (go_at_call 69; refine (rpart_any _ _).mono ?_; rintro e w' ⟨rfl, rfl⟩)
        go_ret
        exact ⟨by rw [HV.out]; rfl, rfl⟩
      | true =>
        have HV := Lib.hid (show v = true by rw [HE.out, h1, h2, h3]; rfl)
        go_enter Tryz.func47, Tryz.ntmps47
        go_wp2_with (go_at_call 69; refine (rpart_any _ _).mono ?_; rintro e w' ⟨rfl, rfl⟩)
        go_ret
        exact ⟨by rw [HV.out]; rfl, rfl⟩
end Go.Proofs.YtdhihdiifgcfdaaGreatDoor
