/- Contract of the reference's Compare. -/
import Derived.Test.YtbpgbbdebhmlkaaGreatDoorVRef1
namespace Go.Proofs.YtbpgbbdebhmlkaaGreatDoor
open Go Go.RowKit

theorem cmpI_lt {a b : Int} (h : a < b) : cmpI a b = -1 := by unfold cmpI; rw [if_pos h]
theorem cmpI_gt {a b : Int} (h : b < a) : cmpI a b = 1 := by unfold cmpI; rw [if_neg (by omega), if_pos h]
theorem cmpI_eq {a b : Int} (h : a = b) : cmpI a b = 0 := by unfold cmpI; rw [if_neg (by omega), if_neg (by omega)]
theorem cmpI_ne {a b : Int} (h : a < b ∨ b < a) : cmpI a b ≠ 0 := by
  rcases h with h | h
  · rw [cmpI_lt h]; decide
  · rw [cmpI_gt h]; decide
set_option maxRecDepth 100000 in
set_option maxHeartbeats 8000000 in
theorem rCompare_any (a b c x y z : Int) (w : World) : Calls Tryz.prog 13 #[.agg #[.int .i64 a, .int .i64 b, .int .i64 c], .agg #[.int .i64 x, .int .i64 y, .int .i64 z]] w fun e w' => e = .returned (.int .i64 (cmpV a b c x y z)) ∧ Below w.heap.size w w' := by
  go_enter Tryz.func13, Tryz.ntmps13
  go_wp2_with fail
  obtain ⟨W, hW⟩ : ∃ W, (((w.alloc (.cells #[.int .i64 a, .int .i64 b, .int .i64 c] 23)).alloc (.cells #[.int .i64 x, .int .i64 y, .int .i64 z] 23)).alloc (.cells #[.int .i64 a, .int .i64 b, .int .i64 c] 3)).alloc (.cells #[.int .i64 x, .int .i64 y, .int .i64 z] 3) = W := ⟨_, rfl⟩
  rw [hW]
  have HB0 : Hid (Below w.heap.size w W) := Lib.hid (by rw [← hW]; exact (by repeat (first | exact Below.refl _ _ | refine Below.drew ?_ | refine Below.alloc ?_ (by simp <;> omega) _ | refine Below.setCell ?_ (by simp <;> omega) _)))
  have e0 : W.cell? ⟨w.heap.size + 1 + 1, 0, none⟩ = some (.int .i64 a) := by rw [← hW]; simp [go_sem]
  have e1 : W.cell? ⟨w.heap.size + 1 + 1, 1, none⟩ = some (.int .i64 b) := by rw [← hW]; simp [go_sem]
  have e2 : W.cell? ⟨w.heap.size + 1 + 1, 2, none⟩ = some (.int .i64 c) := by rw [← hW]; simp [go_sem]
  have k0 : W.cell? ⟨w.heap.size + 1 + 1 + 1, 0, none⟩ = some (.int .i64 x) := by rw [← hW]; simp [go_sem]
  have k1 : W.cell? ⟨w.heap.size + 1 + 1 + 1, 1, none⟩ = some (.int .i64 y) := by rw [← hW]; simp [go_sem]
  have k2 : W.cell? ⟨w.heap.size + 1 + 1 + 1, 2, none⟩ = some (.int .i64 z) := by rw [← hW]; simp [go_sem]
  clear hW
  go_loopw [7] (fun i wr => ((i = .int .i64 0) ∨ (i = .int .i64 1 ∧ Hid (cmpI a x = 0)) ∨ (i = .int .i64 2 ∧ Hid (cmpI a x = 0 ∧ cmpI b y = 0)) ∨ (i = .int .i64 3 ∧ Hid (cmpV a b c x y z = 0))) ∧ Hid (∃ n, wr = W.drewN n)) (fun i _ => 3 - (intOf i).toNat)
  case atStart => exact ⟨.inl rfl, Lib.hid ⟨0, rfl⟩⟩
  case round =>
    obtain ⟨hrel, HW⟩ := hrel
    obtain ⟨n, hn⟩ := HW.out
    replace e0 : wr.cell? ⟨w.heap.size + 1 + 1, 0, none⟩ = some (.int .i64 a) := by rw [hn]; exact e0
    replace e1 : wr.cell? ⟨w.heap.size + 1 + 1, 1, none⟩ = some (.int .i64 b) := by rw [hn]; exact e1
    replace e2 : wr.cell? ⟨w.heap.size + 1 + 1, 2, none⟩ = some (.int .i64 c) := by rw [hn]; exact e2
    replace k0 : wr.cell? ⟨w.heap.size + 1 + 1 + 1, 0, none⟩ = some (.int .i64 x) := by rw [hn]; exact k0
    replace k1 : wr.cell? ⟨w.heap.size + 1 + 1 + 1, 1, none⟩ = some (.int .i64 y) := by rw [hn]; exact k1
    replace k2 : wr.cell? ⟨w.heap.size + 1 + 1 + 1, 2, none⟩ = some (.int .i64 z) := by rw [hn]; exact k2
    have HBW : Hid (Below w.heap.size w wr) := Lib.hid (by rw [hn]; exact below_drewNV HB0.out _)
    have HN := Lib.hid hn
    clear hn HW
    rcases hrel with rfl | ⟨rfl, H1⟩ | ⟨rfl, H2⟩ | ⟨rfl, H3⟩
    · rcases Int.lt_trichotomy a x with h | h | h
      · have H0 := Lib.hid (cmpV_0 (b := b) (c := c) (y := y) (z := z) (cmpI_ne (.inl h)))
        have HR := Lib.hid (cmpI_lt h)
        go_wp2_with fail
        go_quiet (fail)
        go_wp2_with fail
        go_ret
        exact ⟨by rw [H0.out, HR.out]; rfl, below_drewNV HBW.out _⟩
      · have H0 := Lib.hid (cmpI_eq h)
        have h1 : ¬ a < x := by omega
        have h2 : ¬ x < a := by omega
        clear h
        go_wp2_with fail
        go_quiet (fail)
        go_wp2_with fail
        go_quiet (fail)
        go_wp2_with fail
        go_roundw
        case rel => exact ⟨.inr (.inl ⟨rfl, H0⟩), Lib.hid ⟨_, by rw [HN.out]; simp only [World.drewN_drewN]; rfl⟩⟩
        case measure => simp [intOf]
      · have H0 := Lib.hid (cmpV_0 (b := b) (c := c) (y := y) (z := z) (cmpI_ne (.inr h)))
        have HR := Lib.hid (cmpI_gt h)
        have h1 : ¬ a < x := by omega
        go_wp2_with fail
        go_quiet (fail)
        go_wp2_with fail
        go_quiet (fail)
        go_wp2_with fail
        go_ret
        exact ⟨by rw [H0.out, HR.out]; rfl, by first | exact below_drewNV (below_drewNV HBW.out _) _ | exact below_drewNV HBW.out _⟩
    · rcases Int.lt_trichotomy b y with h | h | h
      · have H0 := Lib.hid (cmpV_1 (c := c) (z := z) H1.out (cmpI_ne (.inl h)))
        have HR := Lib.hid (cmpI_lt h)
        go_wp2_with fail
        go_quiet (fail)
        go_wp2_with fail
        go_ret
        exact ⟨by rw [H0.out, HR.out]; rfl, below_drewNV HBW.out _⟩
      · have H0 := Lib.hid (cmpI_eq h)
        have h1 : ¬ b < y := by omega
        have h2 : ¬ y < b := by omega
        clear h
        go_wp2_with fail
        go_quiet (fail)
        go_wp2_with fail
        go_quiet (fail)
        go_wp2_with fail
        go_roundw
        case rel => exact ⟨.inr (.inr (.inl ⟨rfl, Lib.hid ⟨H1.out, H0.out⟩⟩)), Lib.hid ⟨_, by rw [HN.out]; simp only [World.drewN_drewN]; rfl⟩⟩
        case measure => simp [intOf]
      · have H0 := Lib.hid (cmpV_1 (c := c) (z := z) H1.out (cmpI_ne (.inr h)))
        have HR := Lib.hid (cmpI_gt h)
        have h1 : ¬ b < y := by omega
        go_wp2_with fail
        go_quiet (fail)
        go_wp2_with fail
        go_quiet (fail)
        go_wp2_with fail
        go_ret
        exact ⟨by rw [H0.out, HR.out]; rfl, by first | exact below_drewNV (below_drewNV HBW.out _) _ | exact below_drewNV HBW.out _⟩
    · rcases Int.lt_trichotomy c z with h | h | h
      · have H0 := Lib.hid (cmpV_2 (c := c) (z := z) H2.out.1 H2.out.2)
        have HR := Lib.hid (cmpI_lt h)
        go_wp2_with fail
        go_quiet (fail)
        go_wp2_with fail
        go_ret
        exact ⟨by rw [H0.out, HR.out]; rfl, below_drewNV HBW.out _⟩
      · have H0 := Lib.hid (cmpI_eq h)
        have h1 : ¬ c < z := by omega
        have h2 : ¬ z < c := by omega
        clear h
        go_wp2_with fail
        go_quiet (fail)
        go_wp2_with fail
        go_quiet (fail)
        go_wp2_with fail
        go_roundw
        case rel => exact ⟨.inr (.inr (.inr ⟨rfl, Lib.hid ((cmpV_2 H2.out.1 H2.out.2).trans H0.out)⟩)), Lib.hid ⟨_, by rw [HN.out]; simp only [World.drewN_drewN]; rfl⟩⟩
        case measure => simp [intOf]
      · have H0 := Lib.hid (cmpV_2 (c := c) (z := z) H2.out.1 H2.out.2)
        have HR := Lib.hid (cmpI_gt h)
        have h1 : ¬ c < z := by omega
        go_wp2_with fail
        go_quiet (fail)
        go_wp2_with fail
        go_quiet (fail)
        go_wp2_with fail
        go_ret
        exact ⟨by rw [H0.out, HR.out]; rfl, by first | exact below_drewNV (below_drewNV HBW.out _) _ | exact below_drewNV HBW.out _⟩
    · go_wp2_with fail
      go_ret
      exact ⟨by rw [H3.out]; rfl, HBW.out⟩
end Go.Proofs.YtbpgbbdebhmlkaaGreatDoor
