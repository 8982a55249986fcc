/- Contracts of the byte predicates (small, capital, digit, word, hex) of the lexer and of its reference: each returns what a plain function of the byte says, and leaves memory as it was. -/
import Derived.Test.YtmlfoffahfbalaaDoorRows
import Derived.Test.YtmlfoffahfbalaaDoorPlain
import Derived.WalkKit
import Derived.WalkSpells
import Derived.WalkLawsBesides
import Derived.Lib.Hide
namespace Go.Proofs.YtmlfoffahfbalaaDoor
open Go Go.RowKit

theorem ret_bool {a b : Bool} (h : a = b) : Ending.returned (.bool a) = Ending.returned (.bool b) := by rw [h]
theorem ret_int {k : IntKind} {a b : Int} (h : a = b) : Ending.returned (.int k a) = Ending.returned (.int k b) := by rw [h]

theorem small_any (c : Int) (w : World) :
    Calls Tryd.prog 40 #[.int .u8 c] w fun e w' => e = .returned (.bool (smallZ c)) ∧ w = w' := by
  go_enter Tryd.func40, Tryd.ntmps40
  go_wp2
  all_goals go_ret
  all_goals exact ⟨ret_bool (by simp [smallZ, *] <;> omega), rfl⟩

theorem capital_any (c : Int) (w : World) :
    Calls Tryd.prog 51 #[.int .u8 c] w fun e w' => e = .returned (.bool (capitalZ c)) ∧ w = w' := by
  go_enter Tryd.func51, Tryd.ntmps51
  go_wp2
  all_goals go_ret
  all_goals exact ⟨ret_bool (by simp [capitalZ, *] <;> omega), rfl⟩

theorem digit_any (c : Int) (w : World) :
    Calls Tryd.prog 41 #[.int .u8 c] w fun e w' => e = .returned (.bool (digitZ c)) ∧ w = w' := by
  go_enter Tryd.func41, Tryd.ntmps41
  go_wp2
  all_goals go_ret
  all_goals exact ⟨ret_bool (by simp [digitZ, *] <;> omega), rfl⟩

theorem word_any (c : Int) (w : World) :
    Calls Tryd.prog 45 #[.int .u8 c] w fun e w' => e = .returned (.bool (wordZ c)) ∧ w = w' := by
  go_enter Tryd.func45, Tryd.ntmps45
  go_wp2_with (first
   | (go_at_call 40; refine (small_any _ _).mono ?_; rintro e w' ⟨rfl, rfl⟩)
   | (go_at_call 51; refine (capital_any _ _).mono ?_; rintro e w' ⟨rfl, rfl⟩)
   | (go_at_call 41; refine (digit_any _ _).mono ?_; rintro e w' ⟨rfl, rfl⟩))
  all_goals go_ret
  all_goals exact ⟨ret_bool (by simp [wordZ, *]), rfl⟩

theorem rsmall_any (c : Int) (w : World) :
    Calls Tryd.prog 47 #[.int .u8 c] w fun e w' => e = .returned (.bool (smallZ c)) ∧ w = w' := by
  go_enter Tryd.func47, Tryd.ntmps47
  go_wp2
  all_goals go_ret
  all_goals exact ⟨ret_bool (by simp [smallZ, *] <;> omega), rfl⟩

theorem rcapital_any (c : Int) (w : World) :
    Calls Tryd.prog 52 #[.int .u8 c] w fun e w' => e = .returned (.bool (capitalZ c)) ∧ w = w' := by
  go_enter Tryd.func52, Tryd.ntmps52
  go_wp2
  all_goals go_ret
  all_goals exact ⟨ret_bool (by simp [capitalZ, *] <;> omega), rfl⟩

theorem rdigit_any (c : Int) (w : World) :
    Calls Tryd.prog 64 #[.int .u8 c] w fun e w' => e = .returned (.bool (digitZ c)) ∧ w = w' := by
  go_enter Tryd.func64, Tryd.ntmps64
  go_wp2
  all_goals go_ret
  all_goals exact ⟨ret_bool (by simp [digitZ, *] <;> omega), rfl⟩

theorem rword_any (c : Int) (w : World) :
    Calls Tryd.prog 66 #[.int .u8 c] w fun e w' => e = .returned (.bool (wordZ c)) ∧ w = w' := by
  go_enter Tryd.func66, Tryd.ntmps66
  go_wp2_with (first
   | (go_at_call 47; refine (rsmall_any _ _).mono ?_; rintro e w' ⟨rfl, rfl⟩)
   | (go_at_call 52; refine (rcapital_any _ _).mono ?_; rintro e w' ⟨rfl, rfl⟩)
   | (go_at_call 64; refine (rdigit_any _ _).mono ?_; rintro e w' ⟨rfl, rfl⟩))
  all_goals go_ret
  all_goals exact ⟨ret_bool (by simp [wordZ, *]), rfl⟩

theorem major1_any (c : Int) (w : World) :
    Calls Tryd.prog 39 #[.int .u8 c] w fun e w' => e = .returned (.bool (pathZ c)) ∧ w = w' := by
  go_enter Tryd.func39, Tryd.ntmps39
  go_wp2_with (first
   | (go_at_call 40; refine (small_any _ _).mono ?_; rintro e w' ⟨rfl, rfl⟩)
   | (go_at_call 41; refine (digit_any _ _).mono ?_; rintro e w' ⟨rfl, rfl⟩))
  all_goals go_ret
  all_goals exact ⟨ret_bool (by simp [pathZ, *]), rfl⟩

theorem rhex_any (c : Int) (h0 : 0 ≤ c) (h1 : c ≤ 255) (w : World) :
    Calls Tryd.prog 85 #[.int .u8 c] w fun e w' => e = .returned (.int .i64 (hexZ c)) ∧ w = w' := by
  by_cases hd : digitZ c = true
  · have hd' := hd
    simp only [digitZ, Bool.and_eq_true, decide_eq_true_eq] at hd'
    obtain ⟨a1, a2⟩ := hd'
    go_enter Tryd.func85, Tryd.ntmps85
    go_wp2_with (first
     | (go_at_call 64; refine (rdigit_any _ _).mono ?_; rintro e w' ⟨rfl, rfl⟩))
    all_goals go_ret
    all_goals exact ⟨ret_int (by rw [hexZ, if_pos hd]), rfl⟩
  · go_enter Tryd.func85, Tryd.ntmps85
    go_wp2_with (first
     | (go_at_call 64; refine (rdigit_any _ _).mono ?_; rintro e w' ⟨rfl, rfl⟩))
    all_goals go_ret
    all_goals exact ⟨ret_int (by rw [hexZ, if_neg hd]; split <;> omega), rfl⟩

end Go.Proofs.YtmlfoffahfbalaaDoor
