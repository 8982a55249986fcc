/- Contracts of package version's functions on numbers: parts, Valid, Compare. -/
import Derived.Test.YtbpgbbdebhmlkaaDoorProg
import Derived.WalkKit
import Derived.WalkSpells
import Derived.WalkLawsBesides
import Derived.BigQuiet
import Derived.Deep.QuietTactic
import Derived.Deep.DrawnRows
import Derived.Lib.Hide
namespace Go.Proofs.YtbpgbbdebhmlkaaDoor
open Go Go.RowKit

/-- a part of a number. -/
def partB (a : Int) : Bool := decide (0 ≤ a ∧ a ≤ 999)
/-- a number is valid. -/
def validB (a b c : Int) : Bool := partB a && (partB b && partB c)
/-- two integers compared. -/
def cmpI (a b : Int) : Int := if a < b then -1 else if b < a then 1 else 0
/-- two numbers compared. -/
def cmpV (a b c x y z : Int) : Int := if cmpI a x ≠ 0 then cmpI a x else if cmpI b y ≠ 0 then cmpI b y else cmpI c z

theorem parts_any (a b c : Int) (w : World) :
    Calls Tryd.prog 26 #[.agg #[.int .i64 a, .int .i64 b, .int .i64 c]] w fun e w' => e = .returned (.agg #[.int .i64 a, .int .i64 b, .int .i64 c]) ∧ w' = (w.alloc (.cells #[.int .i64 a, .int .i64 b, .int .i64 c] 23)).alloc (.cells #[.int .i64 a, .int .i64 b, .int .i64 c] 48) := by
  go_enter Tryd.func26, Tryd.ntmps26
  go_wp2
  exact bodyPost_ret (v := .agg #[.int .i64 a, .int .i64 b, .int .i64 c]) (by simp [results, Tryd.results26, go_sem]) rfl ⟨rfl, rfl⟩
theorem nan_any (a : Int) (w : World) : Calls Tryd.prog 53 #[.int .i64 a] w fun e w' => e = .returned (.bool false) ∧ w = w' := by
  go_enter Tryd.func53, Tryd.ntmps53
  go_wp2
  go_ret
  exact ⟨rfl, rfl⟩
theorem cmp_any (a b : Int) (w : World) : Calls Tryd.prog 34 #[.int .i64 a, .int .i64 b] w fun e w' => e = .returned (.int .i64 (cmpI a b)) ∧ w = w' := by
  rcases Int.lt_trichotomy a b with h | h | h
  · have hc : cmpI a b = -1 := by unfold cmpI; rw [if_pos h]
    rw [hc]; clear hc
    go_enter Tryd.func34, Tryd.ntmps34
    go_wp2_with (go_at_call 53; refine (nan_any _ _).mono ?_; rintro e w' ⟨rfl, rfl⟩)
    go_ret
    exact ⟨rfl, rfl⟩
  · have hc : cmpI a b = 0 := by unfold cmpI; rw [if_neg (by omega), if_neg (by omega)]
    rw [hc]; clear hc
    subst h
    go_enter Tryd.func34, Tryd.ntmps34
    go_wp2_with (go_at_call 53; refine (nan_any _ _).mono ?_; rintro e w' ⟨rfl, rfl⟩)
    go_ret
    exact ⟨rfl, rfl⟩
  · have hc : cmpI a b = 1 := by unfold cmpI; rw [if_neg (by omega), if_pos h]
    rw [hc]; clear hc
    have h2 : ¬ a < b := by omega
    go_enter Tryd.func34, Tryd.ntmps34
    go_wp2_with (go_at_call 53; refine (nan_any _ _).mono ?_; rintro e w' ⟨rfl, rfl⟩)
    go_ret
    exact ⟨rfl, rfl⟩
end Go.Proofs.YtbpgbbdebhmlkaaDoor
