/- The index's table.selected. Contracts of the reference's part, Valid and Compare. Contracts of the constraint's Place and At, and of the reference's. Contract of the constraint's Has. -/
import Derived.Test.YtenfkejbndifdaaGreatDoorQR
import Derived.Test.YtenfkejbndifdaaGreatDoorQB
import Derived.Test.YtenfkejbndifdaaGreatDoorQH
import Derived.Test.YtenfkejbndifdaaGreatDoorQE
import Derived.Test.YtenfkejbndifdaaGreatDoorQA
namespace Go.Proofs.YtenfkejbndifdaaGreatDoor
set_option linter.unusedVariables false
set_option linter.unusedSimpArgs false
open Go Go.RowKit Go.Maps

def relXs (l : List RelL) (rs : List Value) : List Value := (l.zip rs).flatMap fun p => (relC p.1 p.2).toList
def pickK (X : List RelL) (s : List SelL) (k : Nat) : List RelL := (s.take k).map fun y => (findX X y).getD default
def SelectR (w : World) (B : Nat) (X : List RelL) (s : List SelL) (e : Ending) (w' : World) : Prop :=
  Below w.heap.size w w' ∧ ((¬ incrS s ∧ e = .returned (.tuple #[.slice none 0 0, .int .i64 1])) ∨
    (incrS s ∧ (∃ y ∈ s, findX X y = none) ∧ e = .returned (.tuple #[.slice none 0 0, .int .i64 6])) ∨
    (incrS s ∧ (∀ y ∈ s, (findX X y).isSome = true) ∧ ∃ v rs, e = .returned (.tuple #[v, .int .i64 0]) ∧ rs.length = s.length ∧ w'.ownsRow w.heap.size 71 9 v s.length (relXs (pickK X s s.length) rs) ∧
      ∀ i, i < s.length → ReqsOf B (rs.getD i undef) ((pickK X s s.length).getD i default).reqs w'))
end Go.Proofs.YtenfkejbndifdaaGreatDoor

namespace Go.Proofs.YtenfkejbndifdaaGreatDoor
open Go Go.RowKit

end Go.Proofs.YtenfkejbndifdaaGreatDoor

namespace Go.Proofs.YtenfkejbndifdaaGreatDoor
set_option linter.unusedVariables false
set_option linter.unusedSimpArgs false
open Go Go.RowKit

def placeV (a b c : Int) : Int × Int := if validB a b c = true then (1000 * b + c, 0) else (0, 2)
def atV (m p : Int) : (Int × Int × Int) × Int := if partB m = true ∧ 0 ≤ p ∧ p < 1000000 then ((m, p / 1000, p % 1000), 0) else ((0, 0, 0), 2)
set_option maxRecDepth 100000 in
theorem Place_any (a b c : Int) (w : World) : Calls Tryz.prog 40 #[.agg #[.int .i64 a, .int .i64 b, .int .i64 c]] w fun e w' => e = .returned (.tuple #[.int .i64 (placeV a b c).1, .int .i64 (placeV a b c).2]) ∧ Below w.heap.size w w' := by
  by_cases hv : validB a b c = true
  · have HE := Lib.hid (show placeV a b c = (1000 * b + c, 0) by unfold placeV; rw [if_pos hv])
    rw [HE.out]
    obtain ⟨⟨a0, a1⟩, ⟨b0, b1⟩, c0, c1⟩ := valid_le hv
    go_enter Tryz.func40, Tryz.ntmps40
    go_wp2_with (go_at_call 95; refine (Valid_any _ _ _ _).mono ?_; rintro e w' ⟨rfl, rfl⟩)
    go_ret2
    exact ⟨rfl, (by repeat (first | exact Below.refl _ _ | refine Below.drew ?_ | refine Below.alloc ?_ (by simp <;> omega) _ | refine Below.setCell ?_ (by simp <;> omega) _))⟩
  · have hv : validB a b c = false := by simpa using hv
    have HE := Lib.hid (show placeV a b c = (0, 2) by unfold placeV; rw [hv]; rfl)
    rw [HE.out]
    go_enter Tryz.func40, Tryz.ntmps40
    go_wp2_with (go_at_call 95; refine (Valid_any _ _ _ _).mono ?_; rintro e w' ⟨rfl, rfl⟩)
    go_ret2
    exact ⟨rfl, (by repeat (first | exact Below.refl _ _ | refine Below.drew ?_ | refine Below.alloc ?_ (by simp <;> omega) _ | refine Below.setCell ?_ (by simp <;> omega) _))⟩
end Go.Proofs.YtenfkejbndifdaaGreatDoor

namespace Go.Proofs.YtenfkejbndifdaaGreatDoor
set_option linter.unusedVariables false
set_option linter.unusedSimpArgs false
open Go Go.RowKit

def inB (p : Int) (x : Int × Int) : Bool := decide (x.1 ≤ p) && decide (p < x.2)
end Go.Proofs.YtenfkejbndifdaaGreatDoor
