/- Contracts of the constraint's Place and At, and of the reference's. -/
import Derived.Test.YtdhihdiifgcfdaaGreatDoorVValid
import Derived.Test.YtdhihdiifgcfdaaGreatDoorVRef1
namespace Go.Proofs.YtdhihdiifgcfdaaGreatDoor
set_option linter.unusedVariables false
set_option linter.unusedSimpArgs false
open Go Go.RowKit

/-- the place of a version, and the error. -/
def placeV (a b c : Int) : Int × Int := if validB a b c = true then (1000 * b + c, 0) else (0, 2)
/-- the version of a place, and the error. -/
def atV (m p : Int) : (Int × Int × Int) × Int := if partB m = true ∧ 0 ≤ p ∧ p < 1000000 then ((m, p / 1000, p % 1000), 0) else ((0, 0, 0), 2)
set_option maxRecDepth 100000 in
theorem Place_any (a b c : Int) (w : World) : Calls Tryz.prog 12 #[.agg #[.int .i64 a, .int .i64 b, .int .i64 c]] w fun e w' => e = .returned (.tuple #[.int .i64 (placeV a b c).1, .int .i64 (placeV a b c).2]) ∧ Below w.heap.size w w' := by
  by_cases hv : validB a b c = true
  · have HE := Lib.hid (show placeV a b c = (1000 * b + c, 0) by unfold placeV; rw [if_pos hv])
    rw [HE.out]
    obtain ⟨⟨a0, a1⟩, ⟨b0, b1⟩, c0, c1⟩ := valid_le hv
    go_enter Tryz.func12, Tryz.ntmps12
    go_wp2_with (go_at_call 46; refine (Valid_any _ _ _ _).mono ?_; rintro e w' ⟨rfl, rfl⟩)
    go_ret2
    exact ⟨rfl, (by repeat (first | exact Below.refl _ _ | refine Below.drew ?_ | refine Below.alloc ?_ (by simp <;> omega) _ | refine Below.setCell ?_ (by simp <;> omega) _))⟩
  · have hv : validB a b c = false := by simpa using hv
    have HE := Lib.hid (show placeV a b c = (0, 2) by unfold placeV; rw [hv]; rfl)
    rw [HE.out]
    go_enter Tryz.func12, Tryz.ntmps12
    go_wp2_with (go_at_call 46; refine (Valid_any _ _ _ _).mono ?_; rintro e w' ⟨rfl, rfl⟩)
    go_ret2
    exact ⟨rfl, (by repeat (first | exact Below.refl _ _ | refine Below.drew ?_ | refine Below.alloc ?_ (by simp <;> omega) _ | refine Below.setCell ?_ (by simp <;> omega) _))⟩
set_option maxRecDepth 100000 in
theorem rPlace_any (a b c : Int) (w : World) : Calls Tryz.prog 13 #[.agg #[.int .i64 a, .int .i64 b, .int .i64 c]] w fun e w' => e = .returned (.tuple #[.int .i64 (placeV a b c).1, .int .i64 (placeV a b c).2]) ∧ Below w.heap.size w w' := by
  by_cases hv : validB a b c = true
  · have HE := Lib.hid (show placeV a b c = (1000 * b + c, 0) by unfold placeV; rw [if_pos hv])
    rw [HE.out]
    obtain ⟨⟨a0, a1⟩, ⟨b0, b1⟩, c0, c1⟩ := valid_le hv
    go_enter Tryz.func13, Tryz.ntmps13
    go_wp2_with (go_at_call 47; refine (rValid_any _ _ _ _).mono ?_; rintro e w' ⟨rfl, rfl⟩)
    go_ret2
    exact ⟨rfl, (by repeat (first | exact Below.refl _ _ | refine Below.drew ?_ | refine Below.alloc ?_ (by simp <;> omega) _ | refine Below.setCell ?_ (by simp <;> omega) _))⟩
  · have hv : validB a b c = false := by simpa using hv
    have HE := Lib.hid (show placeV a b c = (0, 2) by unfold placeV; rw [hv]; rfl)
    rw [HE.out]
    go_enter Tryz.func13, Tryz.ntmps13
    go_wp2_with (go_at_call 47; refine (rValid_any _ _ _ _).mono ?_; rintro e w' ⟨rfl, rfl⟩)
    go_ret2
    exact ⟨rfl, (by repeat (first | exact Below.refl _ _ | refine Below.drew ?_ | refine Below.alloc ?_ (by simp <;> omega) _ | refine Below.setCell ?_ (by simp <;> omega) _))⟩
theorem valid_at {m p : Int} (h0 : 0 ≤ p) (h1 : p < 1000000) : validB m (p / 1000) (p % 1000) = partB m := by
  unfold validB
  rw [show partB (p / 1000) = true from decide_eq_true (by omega), show partB (p % 1000) = true from decide_eq_true (by omega)]
  simp
set_option maxRecDepth 100000 in
theorem At_any (m p : Int) (w : World) : Calls Tryz.prog 14 #[.int .i64 m, .int .i64 p] w fun e w' => e = .returned (.tuple #[.agg #[.int .i64 (atV m p).1.1, .int .i64 (atV m p).1.2.1, .int .i64 (atV m p).1.2.2], .int .i64 (atV m p).2]) ∧ Below w.heap.size w w' := by
  by_cases h0 : 0 ≤ p
  · by_cases h1 : p < 1000000
    · cases hm : partB m with
      | true =>
        have HE := Lib.hid (show atV m p = ((m, p / 1000, p % 1000), 0) by unfold atV; rw [if_pos ⟨hm, h0, h1⟩])
        rw [HE.out]
        have HV := Lib.hid (show validB m (p / 1000) (p % 1000) = true by rw [valid_at h0 h1, hm])
        clear hm
        go_enter Tryz.func14, Tryz.ntmps14
        go_wp2_with (go_at_call 46; refine (Valid_any _ _ _ _).mono ?_; rintro e w' ⟨rfl, rfl⟩; rw [HV.out])
        exact bodyPost_ret (v := .tuple #[.agg #[.int .i64 m, .int .i64 (p / 1000), .int .i64 (p % 1000)], .int .i64 0]) (by simp [results, Tryz.results14, go_sem]) rfl ⟨rfl, (by repeat (first | exact Below.refl _ _ | refine Below.drew ?_ | refine Below.alloc ?_ (by simp <;> omega) _ | refine Below.setCell ?_ (by simp <;> omega) _))⟩
      | false =>
        have HE := Lib.hid (show atV m p = ((0, 0, 0), 2) by unfold atV; rw [if_neg (by simp [hm])])
        rw [HE.out]
        have HV := Lib.hid (show validB m (p / 1000) (p % 1000) = false by rw [valid_at h0 h1, hm])
        clear hm
        go_enter Tryz.func14, Tryz.ntmps14
        go_wp2_with (go_at_call 46; refine (Valid_any _ _ _ _).mono ?_; rintro e w' ⟨rfl, rfl⟩; rw [HV.out])
        exact bodyPost_ret (v := .tuple #[.agg #[.int .i64 0, .int .i64 0, .int .i64 0], .int .i64 2]) (by simp [results, Tryz.results14, go_sem]) rfl ⟨rfl, (by repeat (first | exact Below.refl _ _ | refine Below.drew ?_ | refine Below.alloc ?_ (by simp <;> omega) _ | refine Below.setCell ?_ (by simp <;> omega) _))⟩
    · have HE := Lib.hid (show atV m p = ((0, 0, 0), 2) by unfold atV; rw [if_neg (by omega)])
      rw [HE.out]
      go_enter Tryz.func14, Tryz.ntmps14
      go_wp2
      exact bodyPost_ret (v := .tuple #[.agg #[.int .i64 0, .int .i64 0, .int .i64 0], .int .i64 2]) (by simp [results, Tryz.results14, go_sem]) rfl ⟨rfl, (by repeat (first | exact Below.refl _ _ | refine Below.drew ?_ | refine Below.alloc ?_ (by simp <;> omega) _ | refine Below.setCell ?_ (by simp <;> omega) _))⟩
  · have HE := Lib.hid (show atV m p = ((0, 0, 0), 2) by unfold atV; rw [if_neg (by omega)])
    rw [HE.out]
    go_enter Tryz.func14, Tryz.ntmps14
    go_wp2
    exact bodyPost_ret (v := .tuple #[.agg #[.int .i64 0, .int .i64 0, .int .i64 0], .int .i64 2]) (by simp [results, Tryz.results14, go_sem]) rfl ⟨rfl, (by repeat (first | exact Below.refl _ _ | refine Below.drew ?_ | refine Below.alloc ?_ (by simp <;> omega) _ | refine Below.setCell ?_ (by simp <;> omega) _))⟩
set_option maxRecDepth 100000 in
theorem rAt_any (m p : Int) (w : World) : Calls Tryz.prog 15 #[.int .i64 m, .int .i64 p] w fun e w' => e = .returned (.tuple #[.agg #[.int .i64 (atV m p).1.1, .int .i64 (atV m p).1.2.1, .int .i64 (atV m p).1.2.2], .int .i64 (atV m p).2]) ∧ Below w.heap.size w w' := by
  have hq : ∀ q : (Int × Int × Int) × Int, q = ((0, 0, 0), 2) → atV m p = q → (atV m p).1 = (0, 0, 0) ∧ (atV m p).2 = 2 := fun q h1 h2 => by rw [h2, h1]; exact ⟨rfl, rfl⟩
  clear hq
  by_cases m0 : m < 0
  · have HE := Lib.hid (show atV m p = ((0, 0, 0), 2) by unfold atV partB; rw [if_neg (by simp; omega)])
    rw [HE.out]
    go_enter Tryz.func15, Tryz.ntmps15
    go_wp2
    exact bodyPost_ret (v := .tuple #[.agg #[.int .i64 0, .int .i64 0, .int .i64 0], .int .i64 2]) (by simp [results, Tryz.results15, go_sem]) rfl ⟨rfl, (by repeat (first | exact Below.refl _ _ | refine Below.drew ?_ | refine Below.alloc ?_ (by simp <;> omega) _ | refine Below.setCell ?_ (by simp <;> omega) _))⟩
  · by_cases m1 : 999 < m
    · have HE := Lib.hid (show atV m p = ((0, 0, 0), 2) by unfold atV partB; rw [if_neg (by simp; omega)])
      rw [HE.out]
      go_enter Tryz.func15, Tryz.ntmps15
      go_wp2
      exact bodyPost_ret (v := .tuple #[.agg #[.int .i64 0, .int .i64 0, .int .i64 0], .int .i64 2]) (by simp [results, Tryz.results15, go_sem]) rfl ⟨rfl, (by repeat (first | exact Below.refl _ _ | refine Below.drew ?_ | refine Below.alloc ?_ (by simp <;> omega) _ | refine Below.setCell ?_ (by simp <;> omega) _))⟩
    · by_cases p0 : p < 0
      · have HE := Lib.hid (show atV m p = ((0, 0, 0), 2) by unfold atV; rw [if_neg (by omega)])
        rw [HE.out]
        go_enter Tryz.func15, Tryz.ntmps15
        go_wp2
        exact bodyPost_ret (v := .tuple #[.agg #[.int .i64 0, .int .i64 0, .int .i64 0], .int .i64 2]) (by simp [results, Tryz.results15, go_sem]) rfl ⟨rfl, (by repeat (first | exact Below.refl _ _ | refine Below.drew ?_ | refine Below.alloc ?_ (by simp <;> omega) _ | refine Below.setCell ?_ (by simp <;> omega) _))⟩
      · by_cases p1 : 1000000 ≤ p
        · have HE := Lib.hid (show atV m p = ((0, 0, 0), 2) by unfold atV; rw [if_neg (by omega)])
          rw [HE.out]
          go_enter Tryz.func15, Tryz.ntmps15
          go_wp2
          exact bodyPost_ret (v := .tuple #[.agg #[.int .i64 0, .int .i64 0, .int .i64 0], .int .i64 2]) (by simp [results, Tryz.results15, go_sem]) rfl ⟨rfl, (by repeat (first | exact Below.refl _ _ | refine Below.drew ?_ | refine Below.alloc ?_ (by simp <;> omega) _ | refine Below.setCell ?_ (by simp <;> omega) _))⟩
        · have HE := Lib.hid (show atV m p = ((m, p / 1000, p % 1000), 0) by unfold atV partB; rw [if_pos (by simp; omega)])
          rw [HE.out]
          have h0 : 0 ≤ p := by omega
          have h1 : ¬ 1000000 ≤ p := p1
          have h2 : p < 1000000 := by omega
          go_enter Tryz.func15, Tryz.ntmps15
          go_wp2
          exact bodyPost_ret (v := .tuple #[.agg #[.int .i64 m, .int .i64 (p / 1000), .int .i64 (p % 1000)], .int .i64 0]) (by simp [results, Tryz.results15, go_sem]) rfl ⟨rfl, (by repeat (first | exact Below.refl _ _ | refine Below.drew ?_ | refine Below.alloc ?_ (by simp <;> omega) _ | refine Below.setCell ?_ (by simp <;> omega) _))⟩
end Go.Proofs.YtdhihdiifgcfdaaGreatDoor
