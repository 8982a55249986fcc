/- Contract of package version's Compare. -/
import Derived.Test.YtenfkejbndifdaaGreatDoorQB
import Derived.Tactics2
import Derived.Deep.RegionHeld3
import Derived.Deep.DeepCutAuto
namespace Go.Proofs.YtenfkejbndifdaaGreatDoor
open Go Go.RowKit
attribute [local go_sem ↓] Go.wp_at_zero Go.wp_at_succ

theorem cmpV_0 {a b c x y z : Int} (h : cmpI a x ≠ 0) : cmpV a b c x y z = cmpI a x := by unfold cmpV; rw [if_pos h]
theorem cmpV_1 {a b c x y z : Int} (h : cmpI a x = 0) (h1 : cmpI b y ≠ 0) : cmpV a b c x y z = cmpI b y := by unfold cmpV; rw [if_neg (by simp [h]), if_pos h1]
theorem cmpV_2 {a b c x y z : Int} (h : cmpI a x = 0) (h1 : cmpI b y = 0) : cmpV a b c x y z = cmpI c z := by unfold cmpV; rw [if_neg (by simp [h]), if_neg (by simp [h1])]

theorem below_drewNV {B : Nat} {a w : World} (h : Below B a w) (n : Nat) : Below B a (w.drewN n) := h.trans ⟨rfl, rfl, rfl, Nat.le_refl _, fun _ _ => rfl⟩
theorem keep6 {W w' : World} {g : Nat} {a b c x y z : Value} (hz : g + 1 < W.heap.size) (e0 : W.cell? ⟨g, 0, none⟩ = some a) (e1 : W.cell? ⟨g, 1, none⟩ = some b) (e2 : W.cell? ⟨g, 2, none⟩ = some c)
    (k0 : W.cell? ⟨g + 1, 0, none⟩ = some x) (k1 : W.cell? ⟨g + 1, 1, none⟩ = some y) (k2 : W.cell? ⟨g + 1, 2, none⟩ = some z) (h : Below W.heap.size W w') :
    w'.cell? ⟨g, 0, none⟩ = some a ∧ w'.cell? ⟨g, 1, none⟩ = some b ∧ w'.cell? ⟨g, 2, none⟩ = some c ∧ w'.cell? ⟨g + 1, 0, none⟩ = some x ∧ w'.cell? ⟨g + 1, 1, none⟩ = some y ∧ w'.cell? ⟨g + 1, 2, none⟩ = some z := by
  have h1 : g < W.heap.size := by omega
  exact ⟨(h.cell h1).trans e0, (h.cell h1).trans e1, (h.cell h1).trans e2, (h.cell hz).trans k0, (h.cell hz).trans k1, (h.cell hz).trans k2⟩
set_option maxRecDepth 100000 in
set_option maxHeartbeats 8000000 in
theorem Compare_any (a b c x y z : Int) (w : World) : Calls Tryz.prog 147 #[.agg #[.int .i64 a, .int .i64 b, .int .i64 c], .agg #[.int .i64 x, .int .i64 y, .int .i64 z]] w fun e w' => e = .returned (.int .i64 (cmpV a b c x y z)) ∧ Below w.heap.size w w' := by
  go_enter Tryz.func147, Tryz.ntmps147
  go_upto_region 1 with fail
  obtain ⟨W, hW⟩ : ∃ W, (w.alloc (.cells #[.int .i64 a, .int .i64 b, .int .i64 c] 41)).alloc (.cells #[.int .i64 x, .int .i64 y, .int .i64 z] 41) = W := ⟨_, rfl⟩
  rw [hW]
  have hB0 : Hid (Below w.heap.size w W) := Lib.hid (by rw [← hW]; exact ((Below.refl _ _).alloc (Nat.le_refl _) _).alloc (by simp) _)
  have e0 : W.cell? ⟨w.heap.size, 0, none⟩ = some (.int .i64 a) := by rw [← hW]; simp [go_sem]
  have e1 : W.cell? ⟨w.heap.size, 1, none⟩ = some (.int .i64 b) := by rw [← hW]; simp [go_sem]
  have e2 : W.cell? ⟨w.heap.size, 2, none⟩ = some (.int .i64 c) := by rw [← hW]; simp [go_sem]
  have k0 : W.cell? ⟨w.heap.size + 1, 0, none⟩ = some (.int .i64 x) := by rw [← hW]; simp [go_sem]
  have k1 : W.cell? ⟨w.heap.size + 1, 1, none⟩ = some (.int .i64 y) := by rw [← hW]; simp [go_sem]
  have k2 : W.cell? ⟨w.heap.size + 1, 2, none⟩ = some (.int .i64 z) := by rw [← hW]; simp [go_sem]
  clear hW
  have hz : w.heap.size + 1 < W.heap.size := by have := World.block_lt_of_cell? _ _ k0; simpa using this
  go_cut [5, 6] (fun s5 s6 wx => ∃ g5 g6 : Nat, s5 = .pointer (some ⟨g5, 0, none⟩) ∧ s6 = .pointer (some ⟨g6, 0, none⟩) ∧ wx.cell? ⟨g5, 0, none⟩ = some (.int .i64 a) ∧ wx.cell? ⟨g5, 1, none⟩ = some (.int .i64 b) ∧ wx.cell? ⟨g5, 2, none⟩ = some (.int .i64 c) ∧ wx.cell? ⟨g6, 0, none⟩ = some (.int .i64 x) ∧ wx.cell? ⟨g6, 1, none⟩ = some (.int .i64 y) ∧ wx.cell? ⟨g6, 2, none⟩ = some (.int .i64 z) ∧ Hid (Below w.heap.size w wx))
  case first =>
    go_region_held3 (fun w' => w'.cell? ⟨w.heap.size, 0, none⟩ = some (.int .i64 a) ∧ w'.cell? ⟨w.heap.size, 1, none⟩ = some (.int .i64 b) ∧ w'.cell? ⟨w.heap.size, 2, none⟩ = some (.int .i64 c) ∧ w'.cell? ⟨w.heap.size + 1, 0, none⟩ = some (.int .i64 x) ∧ w'.cell? ⟨w.heap.size + 1, 1, none⟩ = some (.int .i64 y) ∧ w'.cell? ⟨w.heap.size + 1, 2, none⟩ = some (.int .i64 z)) ((exact keep6 hz e0 e1 e2 k0 k1 k2 (by repeat (first | exact Below.refl _ _ | refine Below.drew ?_ | refine Below.alloc ?_ (by simp <;> omega) _ | refine Below.setCell ?_ (by simp <;> omega) _))))
      (first | (go_at_call 136; refine (parts_any _ _ _ _).mono ?_; rintro e w' ⟨rfl, rfl⟩))
    all_goals
      go_wp2_with fail
      go_meet
      exact ⟨_, _, rfl, rfl, by simp [go_sem], by simp [go_sem], by simp [go_sem], by simp [go_sem], by simp [go_sem], by simp [go_sem], Lib.hid (hB0.out.trans (Below.mono (by repeat (first | exact Below.refl _ _ | refine Below.drew ?_ | refine Below.alloc ?_ (by simp <;> omega) _ | refine Below.setCell ?_ (by simp <;> omega) _)) hB0.out.size))⟩
  case rest =>
    obtain ⟨g5, g6, rfl, rfl, c0, c1, c2, d0, d1, d2, HB⟩ := hcut
    go_wp2_with fail
    go_loopw [13] (fun i wr => ((i = .int .i64 0) ∨ (i = .int .i64 1 ∧ Hid (cmpI a x = 0)) ∨ (i = .int .i64 2 ∧ Hid (cmpI a x = 0 ∧ cmpI b y = 0)) ∨ (i = .int .i64 3 ∧ Hid (cmpV a b c x y z = 0))) ∧ Hid (∃ n, wr = wc.drewN n)) (fun i _ => 3 - (intOf i).toNat)
    case atStart => exact ⟨.inl rfl, Lib.hid ⟨0, rfl⟩⟩
    case round =>
      obtain ⟨hrel, HW⟩ := hrel
      obtain ⟨n, hn⟩ := HW.out
      replace c0 : wr.cell? ⟨g5, 0, none⟩ = some (.int .i64 a) := by rw [hn]; exact c0
      replace c1 : wr.cell? ⟨g5, 1, none⟩ = some (.int .i64 b) := by rw [hn]; exact c1
      replace c2 : wr.cell? ⟨g5, 2, none⟩ = some (.int .i64 c) := by rw [hn]; exact c2
      replace d0 : wr.cell? ⟨g6, 0, none⟩ = some (.int .i64 x) := by rw [hn]; exact d0
      replace d1 : wr.cell? ⟨g6, 1, none⟩ = some (.int .i64 y) := by rw [hn]; exact d1
      replace d2 : wr.cell? ⟨g6, 2, none⟩ = some (.int .i64 z) := by rw [hn]; exact d2
      have HBW : Hid (Below w.heap.size w wr) := Lib.hid (by rw [hn]; exact below_drewNV HB.out _)
      have HN := Lib.hid hn
      clear hn HW
      rcases hrel with rfl | ⟨rfl, H1⟩ | ⟨rfl, H2⟩ | ⟨rfl, H3⟩
      · by_cases h0 : cmpI a x = 0
        · have H0 := Lib.hid h0
          go_wp2_with fail
          go_quiet ((go_at_call 180; exact Calls.quiet_of_same ((cmp_any _ _ _).mono fun e w' h => ⟨h.1, h.2.symm⟩)))
          go_wp2_with fail
          go_roundw
          case rel => exact ⟨.inr (.inl ⟨rfl, H0⟩), Lib.hid ⟨n + nq, by rw [HN.out, World.drewN_drewN]⟩⟩
          case measure => simp [intOf]
        · have hb : (cmpI a x != 0) = true := by simpa using h0
          have H0 := Lib.hid (cmpV_0 (b := b) (c := c) (y := y) (z := z) h0)
          clear h0
          go_wp2_with fail
          go_quiet ((go_at_call 180; exact Calls.quiet_of_same ((cmp_any _ _ _).mono fun e w' h => ⟨h.1, h.2.symm⟩)))
          go_wp2_with fail
          go_ret
          exact ⟨by rw [H0.out]; rfl, below_drewNV HBW.out _⟩
      · by_cases h0 : cmpI b y = 0
        · have H0 := Lib.hid h0
          go_wp2_with fail
          go_quiet ((go_at_call 180; exact Calls.quiet_of_same ((cmp_any _ _ _).mono fun e w' h => ⟨h.1, h.2.symm⟩)))
          go_wp2_with fail
          go_roundw
          case rel => exact ⟨.inr (.inr (.inl ⟨rfl, Lib.hid ⟨H1.out, H0.out⟩⟩)), Lib.hid ⟨n + nq, by rw [HN.out, World.drewN_drewN]⟩⟩
          case measure => simp [intOf]
        · have hb : (cmpI b y != 0) = true := by simpa using h0
          have H0 := Lib.hid (cmpV_1 (c := c) (z := z) H1.out h0)
          clear h0
          go_wp2_with fail
          go_quiet ((go_at_call 180; exact Calls.quiet_of_same ((cmp_any _ _ _).mono fun e w' h => ⟨h.1, h.2.symm⟩)))
          go_wp2_with fail
          go_ret
          exact ⟨by rw [H0.out]; rfl, below_drewNV HBW.out _⟩
      · by_cases h0 : cmpI c z = 0
        · have H0 := Lib.hid h0
          go_wp2_with fail
          go_quiet ((go_at_call 180; exact Calls.quiet_of_same ((cmp_any _ _ _).mono fun e w' h => ⟨h.1, h.2.symm⟩)))
          go_wp2_with fail
          go_roundw
          case rel => exact ⟨.inr (.inr (.inr ⟨rfl, Lib.hid (by rw [cmpV_2 H2.out.1 H2.out.2]; exact H0.out)⟩)), Lib.hid ⟨n + nq, by rw [HN.out, World.drewN_drewN]⟩⟩
          case measure => simp [intOf]
        · have hb : (cmpI c z != 0) = true := by simpa using h0
          have H0 := Lib.hid (cmpV_2 (c := c) (z := z) H2.out.1 H2.out.2)
          clear h0
          go_wp2_with fail
          go_quiet ((go_at_call 180; exact Calls.quiet_of_same ((cmp_any _ _ _).mono fun e w' h => ⟨h.1, h.2.symm⟩)))
          go_wp2_with fail
          go_ret
          exact ⟨by rw [H0.out]; rfl, below_drewNV HBW.out _⟩
      · go_wp2_with fail
        go_ret
        exact ⟨by rw [H3.out]; rfl, HBW.out⟩
end Go.Proofs.YtenfkejbndifdaaGreatDoor
