/- Contract of the constraint's Has. -/
import Derived.Test.YtdhihdiifgcfdaaGreatDoorCSpan
import Derived.Test.YtdhihdiifgcfdaaGreatDoorCPlainComb
namespace Go.Proofs.YtdhihdiifgcfdaaGreatDoor
set_option linter.unusedVariables false
set_option linter.unusedSimpArgs false
open Go Go.RowKit

/-- a place is in a span. -/
def inB (p : Int) (x : Int × Int) : Bool := decide (x.1 ≤ p) && decide (p < x.2)
theorem hasB_eq (s : List (Int × Int)) (p : Int) : hasB s p = ((decide (0 ≤ p) && decide (p < 1000000)) && s.any (inB p)) := rfl
set_option maxRecDepth 100000 in
theorem inCl_any (pb : Nat) (p a b : Int) (W : World) (hc : W.cell? ⟨pb, 0, none⟩ = some (intC p)) :
    Calls Tryz.prog 63 #[.agg #[intC a, intC b], .pointer (some ⟨pb, 0, none⟩)] W fun e w' => e = .returned (.bool (inB p (a, b))) ∧ Below W.heap.size W w' := by
  have hlt : pb < W.heap.size := World.block_lt_of_cell? _ _ hc
  have hne : pb ≠ W.heap.size := by omega
  by_cases h1 : a ≤ p
  · by_cases h2 : p < b
    · have HE : Hid (inB p (a, b) = true) := Lib.hid (by simp [inB, h1, h2])
      rw [HE.out]
      go_enter Tryz.func63, Tryz.ntmps63
      go_wp2
      go_ret
      exact ⟨rfl, (by repeat (first | exact Below.refl _ _ | refine Below.drew ?_ | refine Below.alloc ?_ (by simp <;> omega) _ | refine Below.setCell ?_ (by simp <;> omega) _))⟩
    · have HE : Hid (inB p (a, b) = false) := Lib.hid (by simp [inB, h1, h2])
      rw [HE.out]
      go_enter Tryz.func63, Tryz.ntmps63
      go_wp2
      go_ret
      exact ⟨rfl, (by repeat (first | exact Below.refl _ _ | refine Below.drew ?_ | refine Below.alloc ?_ (by simp <;> omega) _ | refine Below.setCell ?_ (by simp <;> omega) _))⟩
  · have HE : Hid (inB p (a, b) = false) := Lib.hid (by simp [inB, h1])
    rw [HE.out]
    go_enter Tryz.func63, Tryz.ntmps63
    go_wp2
    go_ret
    exact ⟨rfl, (by repeat (first | exact Below.refl _ _ | refine Below.drew ?_ | refine Below.alloc ?_ (by simp <;> omega) _ | refine Below.setCell ?_ (by simp <;> omega) _))⟩
set_option maxRecDepth 100000 in
theorem Has_any (v : Value) (s : List (Int × Int)) (p : Int) (w : World) (hs : s.length ≤ 1000000000) (hE : EdgesOf w.heap.size v s w) :
    Calls Tryz.prog 31 #[v, .int .i64 p] w fun e w' => e = .returned (.bool (hasB s p)) ∧ Below w.heap.size w w' := by
  have hb0 : Below w.heap.size w (w.alloc (.cells #[intC p] 3)) := (Below.refl _ _).alloc (Nat.le_refl _) _
  have hcall := has_edge 63 #[.pointer (some ⟨w.heap.size, 0, none⟩)] (enters_of Tryz.func63 (by kernel_rfl) rfl) (inB p) v s (w.alloc (.cells #[intC p] 3)) hs
    ((hE.below hb0 (Nat.le_refl _)).mono (by simp)) (fun W x _ hW => (inCl_any w.heap.size p x.1 x.2 W (by
      rw [hW.cell (p := ⟨w.heap.size, 0, none⟩) (by simp)]
      simp [go_sem])).mono fun e w' h => ⟨h.1, hW.trans (h.2.mono hW.size)⟩)
  by_cases h0 : 0 ≤ p
  · by_cases h1 : p < 1000000
    · have he : hasB s p = s.any (inB p) := by rw [hasB_eq]; simp [h0, h1]
      rw [he]
      generalize s.any (inB p) = q at *
      have HC := Lib.hid hcall
      clear hcall he
      obtain ⟨ao, ec, rfl, _⟩ := hE
      go_enter Tryz.func31, Tryz.ntmps31
      go_wp2_with ((with_reducible refine HC.out.mono ?_); rintro e w' ⟨rfl, hb⟩)
      go_ret
      exact ⟨rfl, hb0.trans (hb.mono (by simp))⟩
    · have he : hasB s p = false := by rw [hasB_eq]; simp [h1]
      rw [he]
      clear hcall he
      go_enter Tryz.func31, Tryz.ntmps31
      go_wp2
      go_ret
      exact ⟨rfl, hb0⟩
  · have he : hasB s p = false := by rw [hasB_eq]; simp [h0]
    rw [he]
    clear hcall he
    go_enter Tryz.func31, Tryz.ntmps31
    go_wp2
    go_ret
    exact ⟨rfl, hb0⟩
end Go.Proofs.YtdhihdiifgcfdaaGreatDoor
