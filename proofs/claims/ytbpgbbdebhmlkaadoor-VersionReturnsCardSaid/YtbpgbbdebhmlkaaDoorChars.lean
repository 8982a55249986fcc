/- Contracts of the byte predicates (small, capital, digit, word, hex) of the lexer and of its reference: each returns what a plain function of the byte says, and leaves memory as it was. -/
import Derived.Test.YtbpgbbdebhmlkaaDoorRows
import Derived.Test.YtbpgbbdebhmlkaaDoorPlain
import Derived.WalkKit
import Derived.WalkSpells
import Derived.WalkLawsBesides
import Derived.Lib.Hide
namespace Go.Proofs.YtbpgbbdebhmlkaaDoor
open Go Go.RowKit

theorem ret_bool {a b : Bool} (h : a = b) : Ending.returned (.bool a) = Ending.returned (.bool b) := by rw [h]
theorem ret_int {k : IntKind} {a b : Int} (h : a = b) : Ending.returned (.int k a) = Ending.returned (.int k b) := by rw [h]

theorem small_any (c : Int) (w : World) :
    Calls Tryd.prog 49 #[.int .u8 c] w fun e w' => e = .returned (.bool (smallZ c)) ∧ w = w' := by
  go_enter Tryd.func49, Tryd.ntmps49
  go_wp2
  all_goals go_ret
  all_goals exact ⟨ret_bool (by simp [smallZ, *] <;> omega), rfl⟩

theorem capital_any (c : Int) (w : World) :
    Calls Tryd.prog 84 #[.int .u8 c] w fun e w' => e = .returned (.bool (capitalZ c)) ∧ w = w' := by
  go_enter Tryd.func84, Tryd.ntmps84
  go_wp2
  all_goals go_ret
  all_goals exact ⟨ret_bool (by simp [capitalZ, *] <;> omega), rfl⟩

theorem digit_any (c : Int) (w : World) :
    Calls Tryd.prog 50 #[.int .u8 c] w fun e w' => e = .returned (.bool (digitZ c)) ∧ w = w' := by
  go_enter Tryd.func50, Tryd.ntmps50
  go_wp2
  all_goals go_ret
  all_goals exact ⟨ret_bool (by simp [digitZ, *] <;> omega), rfl⟩

theorem word_any (c : Int) (w : World) :
    Calls Tryd.prog 67 #[.int .u8 c] w fun e w' => e = .returned (.bool (wordZ c)) ∧ w = w' := by
  go_enter Tryd.func67, Tryd.ntmps67
  go_wp2_with (first
   | (go_at_call 49; refine (small_any _ _).mono ?_; rintro e w' ⟨rfl, rfl⟩)
   | (go_at_call 84; refine (capital_any _ _).mono ?_; rintro e w' ⟨rfl, rfl⟩)
   | (go_at_call 50; refine (digit_any _ _).mono ?_; rintro e w' ⟨rfl, rfl⟩))
  all_goals go_ret
  all_goals exact ⟨ret_bool (by simp [wordZ, *]), rfl⟩

theorem major1_any (c : Int) (w : World) :
    Calls Tryd.prog 48 #[.int .u8 c] w fun e w' => e = .returned (.bool (pathZ c)) ∧ w = w' := by
  go_enter Tryd.func48, Tryd.ntmps48
  go_wp2_with (first
   | (go_at_call 49; refine (small_any _ _).mono ?_; rintro e w' ⟨rfl, rfl⟩)
   | (go_at_call 50; refine (digit_any _ _).mono ?_; rintro e w' ⟨rfl, rfl⟩))
  all_goals go_ret
  all_goals exact ⟨ret_bool (by simp [pathZ, *]), rfl⟩

end Go.Proofs.YtbpgbbdebhmlkaaDoor
