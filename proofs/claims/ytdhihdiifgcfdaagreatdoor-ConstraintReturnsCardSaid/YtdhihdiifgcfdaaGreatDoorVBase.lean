/- Contracts of package version's functions on numbers: parts, Valid, Compare. -/
import Derived.Test.YtdhihdiifgcfdaaGreatDoorProg
import Derived.WalkKit
import Derived.WalkSpells
import Derived.WalkLawsBesides
import Derived.BigQuiet
import Derived.Deep.QuietTactic
import Derived.Deep.DrawnRows
import Derived.Lib.Hide
namespace Go.Proofs.YtdhihdiifgcfdaaGreatDoor
open Go Go.RowKit

/-- a part of a number. -/
def partB (a : Int) : Bool := decide (0 ≤ a ∧ a ≤ 999)
/-- a number is valid. -/
def validB (a b c : Int) : Bool := partB a && (partB b && partB c)
/-- two integers compared. -/
def cmpI (a b : Int) : Int := if a < b then -1 else if b < a then 1 else 0
/-- two numbers compared. -/
def cmpV (a b c x y z : Int) : Int := if cmpI a x ≠ 0 then cmpI a x else if cmpI b y ≠ 0 then cmpI b y else cmpI c z

theorem parts_any (a b c : Int) (w : World) :
    Calls Tryz.prog 58 #[.agg #[.int .i64 a, .int .i64 b, .int .i64 c]] w fun e w' => e = .returned (.agg #[.int .i64 a, .int .i64 b, .int .i64 c]) ∧ w' = (w.alloc (.cells #[.int .i64 a, .int .i64 b, .int .i64 c] 23)).alloc (.cells #[.int .i64 a, .int .i64 b, .int .i64 c] 75) := by
  go_enter Tryz.func58, Tryz.ntmps58
  go_wp2
  exact bodyPost_ret (v := .agg #[.int .i64 a, .int .i64 b, .int .i64 c]) (by simp [results, Tryz.results58, go_sem]) rfl ⟨rfl, rfl⟩
theorem nan_any (a : Int) (w : World) : Calls Tryz.prog 90 #[.int .i64 a] w fun e w' => e = .returned (.bool false) ∧ w = w' := by
  go_enter Tryz.func90, Tryz.ntmps90
  go_wp2
  go_ret
  exact ⟨rfl, rfl⟩
theorem cmp_any (a b : Int) (w : World) : Calls Tryz.prog 59 #[.int .i64 a, .int .i64 b] w fun e w' => e = .returned (.int .i64 (cmpI a b)) ∧ w = w' := by
  rcases Int.lt_trichotomy a b with h | h | h
  · have hc : cmpI a b = -1 := by unfold cmpI; rw [if_pos h]
    rw [hc]; clear hc
    go_enter Tryz.func59, Tryz.ntmps59
    go_wp2_with (go_at_call 90; refine (nan_any _ _).mono ?_; rintro e w' ⟨rfl, rfl⟩)
    go_ret
    exact ⟨rfl, rfl⟩
  · have hc : cmpI a b = 0 := by unfold cmpI; rw [if_neg (by omega), if_neg (by omega)]
    rw [hc]; clear hc
    subst h
    go_enter Tryz.func59, Tryz.ntmps59
    go_wp2_with (go_at_call 90; refine (nan_any _ _).mono ?_; rintro e w' ⟨rfl, rfl⟩)
    go_ret
    exact ⟨rfl, rfl⟩
  · have hc : cmpI a b = 1 := by unfold cmpI; rw [if_neg (by omega), if_pos h]
    rw [hc]; clear hc
    have h2 : ¬ a < b := by omega
    go_enter Tryz.func59, Tryz.ntmps59
    go_wp2_with (go_at_call 90; refine (nan_any _ _).mono ?_; rintro e w' ⟨rfl, rfl⟩)
    go_ret
    exact ⟨rfl, rfl⟩
end Go.Proofs.YtdhihdiifgcfdaaGreatDoor
