/- Contracts of package version's Claims and Permits. -/
import Derived.Test.YtbpgbbdebhmlkaaDoorVNext
import Derived.Test.YtbpgbbdebhmlkaaDoorVCompare
namespace Go.Proofs.YtbpgbbdebhmlkaaDoor
open Go Go.RowKit

theorem bcell {W w1 : World} (hb : Below W.heap.size W w1) : (∀ b o, b < W.heap.size → w1.cell? ⟨b, o, none⟩ = W.cell? ⟨b, o, none⟩) ∧ (∀ b o, b < W.heap.size → w1.frozen? ⟨b, o, none⟩ = W.frozen? ⟨b, o, none⟩) :=
  ⟨fun b o h => hb.cell (p := ⟨b, o, none⟩) h, fun b o h => hb.frozen (p := ⟨b, o, none⟩) h⟩
/-- the level that a number claims after another one, and the error. -/
def claimsV (a b c x y z : Int) : Int × Int :=
  if validB a b c = false ∨ validB x y z = false ∨ cmpV x y z a b c ≤ 0 then (0, 1) else if a ≠ x then (2, 0) else if b ≠ y then (1, 0) else (0, 0)

set_option maxRecDepth 100000 in
set_option maxHeartbeats 4000000 in
theorem Claims_any (a b c x y z : Int) (w : World) : Calls Tryd.prog 21 #[.agg #[.int .i64 a, .int .i64 b, .int .i64 c], .agg #[.int .i64 x, .int .i64 y, .int .i64 z]] w fun e w' =>
    e = .returned (.tuple #[.int .i64 (claimsV a b c x y z).1, .int .i64 (claimsV a b c x y z).2]) ∧ Below w.heap.size w w' := by
  have hbel := Lib.hid (((Below.refl w.heap.size w).alloc (Nat.le_refl _) (.cells #[.int .i64 a, .int .i64 b, .int .i64 c] 23)).alloc (by simp) (.cells #[.int .i64 x, .int .i64 y, .int .i64 z] 23))
  obtain ⟨n, hn⟩ : ∃ n, cmpV x y z a b c = n := ⟨_, rfl⟩
  have HN := Lib.hid hn
  by_cases hv : validB a b c = true
  · by_cases hu : validB x y z = true
    · by_cases hc0 : n ≤ 0
      · have HE := Lib.hid (show claimsV a b c x y z = (0, 1) by unfold claimsV; rw [hn]; simp [hv, hu, hc0])
        rw [HE.out]
        clear hn
        go_enter Tryd.func21, Tryd.ntmps21
        go_wp2_with (first | (go_at_call 13; refine (Valid_any _ _ _ _).mono ?_; rintro e w' ⟨rfl, rfl⟩) | (go_at_call 17; refine (Compare_any _ _ _ _ _ _ _).mono ?_; rintro e w1 ⟨rfl, hb⟩; obtain ⟨hc, hf⟩ := bcell hb; rw [HN.out]))
        go_ret2
        exact ⟨rfl, Below.trans (by repeat (first | exact Below.refl _ _ | refine Below.drew ?_ | refine Below.alloc ?_ (by simp <;> omega) _ | refine Below.setCell ?_ (by simp <;> omega) _)) (hb.mono (by simp; omega))⟩
      · have hc1 : 0 < n := by omega
        by_cases ha : a = x
        · by_cases h2 : b = y
          · subst ha; subst h2
            have HE := Lib.hid (show claimsV a b c a b z = (0, 0) by unfold claimsV; rw [hn]; simp [hv, hu, hc0])
            rw [HE.out]
            clear hn
            go_enter Tryd.func21, Tryd.ntmps21
            go_wp2_with (first | (go_at_call 13; refine (Valid_any _ _ _ _).mono ?_; rintro e w' ⟨rfl, rfl⟩) | (go_at_call 17; refine (Compare_any _ _ _ _ _ _ _).mono ?_; rintro e w1 ⟨rfl, hb⟩; obtain ⟨hc, hf⟩ := bcell hb; rw [HN.out]))
            go_ret2
            exact ⟨rfl, Below.trans (by repeat (first | exact Below.refl _ _ | refine Below.drew ?_ | refine Below.alloc ?_ (by simp <;> omega) _ | refine Below.setCell ?_ (by simp <;> omega) _)) (hb.mono (by simp; omega))⟩
          · subst ha
            have HE := Lib.hid (show claimsV a b c a y z = (1, 0) by unfold claimsV; rw [hn]; simp [hv, hu, hc0, h2])
            have h3 : (b != y) = true := by simpa using h2
            rw [HE.out]
            clear hn h2
            go_enter Tryd.func21, Tryd.ntmps21
            go_wp2_with (first | (go_at_call 13; refine (Valid_any _ _ _ _).mono ?_; rintro e w' ⟨rfl, rfl⟩) | (go_at_call 17; refine (Compare_any _ _ _ _ _ _ _).mono ?_; rintro e w1 ⟨rfl, hb⟩; obtain ⟨hc, hf⟩ := bcell hb; rw [HN.out]))
            go_ret2
            exact ⟨rfl, Below.trans (by repeat (first | exact Below.refl _ _ | refine Below.drew ?_ | refine Below.alloc ?_ (by simp <;> omega) _ | refine Below.setCell ?_ (by simp <;> omega) _)) (hb.mono (by simp; omega))⟩
        · have HE := Lib.hid (show claimsV a b c x y z = (2, 0) by unfold claimsV; rw [hn]; simp [hv, hu, hc0, ha])
          have h3 : (a != x) = true := by simpa using ha
          rw [HE.out]
          clear hn ha
          go_enter Tryd.func21, Tryd.ntmps21
          go_wp2_with (first | (go_at_call 13; refine (Valid_any _ _ _ _).mono ?_; rintro e w' ⟨rfl, rfl⟩) | (go_at_call 17; refine (Compare_any _ _ _ _ _ _ _).mono ?_; rintro e w1 ⟨rfl, hb⟩; obtain ⟨hc, hf⟩ := bcell hb; rw [HN.out]))
          go_ret2
          exact ⟨rfl, Below.trans (by repeat (first | exact Below.refl _ _ | refine Below.drew ?_ | refine Below.alloc ?_ (by simp <;> omega) _ | refine Below.setCell ?_ (by simp <;> omega) _)) (hb.mono (by simp; omega))⟩
    · have hu : validB x y z = false := by simpa using hu
      have HE := Lib.hid (show claimsV a b c x y z = (0, 1) by unfold claimsV; simp [hu])
      rw [HE.out]
      clear hn
      go_enter Tryd.func21, Tryd.ntmps21
      go_wp2_with (first | (go_at_call 13; refine (Valid_any _ _ _ _).mono ?_; rintro e w' ⟨rfl, rfl⟩) | (go_at_call 17; refine (Compare_any _ _ _ _ _ _ _).mono ?_; rintro e w1 ⟨rfl, hb⟩; obtain ⟨hc, hf⟩ := bcell hb; rw [HN.out]))
      go_ret2
      exact ⟨rfl, (by repeat (first | exact Below.refl _ _ | refine Below.drew ?_ | refine Below.alloc ?_ (by simp <;> omega) _ | refine Below.setCell ?_ (by simp <;> omega) _))⟩
  · have hv : validB a b c = false := by simpa using hv
    have HE := Lib.hid (show claimsV a b c x y z = (0, 1) by unfold claimsV; simp [hv])
    rw [HE.out]
    clear hn
    go_enter Tryd.func21, Tryd.ntmps21
    go_wp2_with (first | (go_at_call 13; refine (Valid_any _ _ _ _).mono ?_; rintro e w' ⟨rfl, rfl⟩) | (go_at_call 17; refine (Compare_any _ _ _ _ _ _ _).mono ?_; rintro e w1 ⟨rfl, hb⟩; obtain ⟨hc, hf⟩ := bcell hb; rw [HN.out]))
    go_ret2
    exact ⟨rfl, (by repeat (first | exact Below.refl _ _ | refine Below.drew ?_ | refine Below.alloc ?_ (by simp <;> omega) _ | refine Below.setCell ?_ (by simp <;> omega) _))⟩
/-- whether a number is permitted after another one. -/
def permitsV (a b c x y z l : Int) : Bool := decide ((claimsV a b c x y z).2 = 0) && (knownB l && decide (l ≤ (claimsV a b c x y z).1))

set_option maxRecDepth 100000 in
set_option maxHeartbeats 4000000 in
theorem Permits_any (a b c x y z l : Int) (w : World) : Calls Tryd.prog 20 #[.agg #[.int .i64 a, .int .i64 b, .int .i64 c], .agg #[.int .i64 x, .int .i64 y, .int .i64 z], .int .i64 l] w fun e w' =>
    e = .returned (.bool (permitsV a b c x y z l)) ∧ Below w.heap.size w w' := by
  obtain ⟨n, e, hne⟩ : ∃ n e, claimsV a b c x y z = (n, e) := ⟨_, _, rfl⟩
  have HC := Lib.hid (Claims_any a b c x y z)
  rw [hne] at HC
  obtain ⟨r, hr⟩ : ∃ r, permitsV a b c x y z l = r := ⟨_, rfl⟩
  rw [hr]
  unfold permitsV at hr
  rw [hne] at hr
  simp only at hr HC
  clear hne
  by_cases he : e = 0
  · by_cases hk : knownB l = true
    · have HR := Lib.hid (show r = decide (l ≤ n) by rw [← hr]; simp [he, hk])
      clear hr
      subst he
      go_enter Tryd.func20, Tryd.ntmps20
      go_wp2_with (first | (go_at_call 21; refine (HC.out _).mono ?_; rintro e w1 ⟨rfl, hb⟩) | (go_at_call 36; refine (known_any _ _).mono ?_; rintro e w' ⟨rfl, rfl⟩))
      go_ret
      exact ⟨by rw [HR.out]; rfl, Below.trans (by repeat (first | exact Below.refl _ _ | refine Below.drew ?_ | refine Below.alloc ?_ (by simp <;> omega) _ | refine Below.setCell ?_ (by simp <;> omega) _)) (hb.mono (by simp; omega))⟩
    · have hk : knownB l = false := by simpa using hk
      have HR := Lib.hid (show r = false by rw [← hr]; simp [he, hk])
      clear hr
      subst he
      go_enter Tryd.func20, Tryd.ntmps20
      go_wp2_with (first | (go_at_call 21; refine (HC.out _).mono ?_; rintro e w1 ⟨rfl, hb⟩) | (go_at_call 36; refine (known_any _ _).mono ?_; rintro e w' ⟨rfl, rfl⟩))
      go_ret
      exact ⟨by rw [HR.out]; rfl, Below.trans (by repeat (first | exact Below.refl _ _ | refine Below.drew ?_ | refine Below.alloc ?_ (by simp <;> omega) _ | refine Below.setCell ?_ (by simp <;> omega) _)) (hb.mono (by simp; omega))⟩
  · have HR := Lib.hid (show r = false by rw [← hr]; simp [he])
    have he2 : (e == 0) = false := by simpa using he
    clear hr he
    go_enter Tryd.func20, Tryd.ntmps20
    go_wp2_with (first | (go_at_call 21; refine (HC.out _).mono ?_; rintro e w1 ⟨rfl, hb⟩) | (go_at_call 36; refine (known_any _ _).mono ?_; rintro e w' ⟨rfl, rfl⟩))
    go_ret
    exact ⟨by rw [HR.out]; rfl, Below.trans (by repeat (first | exact Below.refl _ _ | refine Below.drew ?_ | refine Below.alloc ?_ (by simp <;> omega) _ | refine Below.setCell ?_ (by simp <;> omega) _)) (hb.mono (by simp; omega))⟩
end Go.Proofs.YtbpgbbdebhmlkaaDoor
