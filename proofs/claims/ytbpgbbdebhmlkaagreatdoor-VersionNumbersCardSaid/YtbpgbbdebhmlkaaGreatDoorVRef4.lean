/- Contract of the reference's Next. -/
import Derived.Test.YtbpgbbdebhmlkaaGreatDoorVRef3
namespace Go.Proofs.YtbpgbbdebhmlkaaGreatDoor
open Go Go.RowKit

/-- the numbers that may come next. -/
def nx (a b c : Int) : Nat → V3
  | 0 => (a, b, c + 1)
  | 1 => (a, b + 1, 0)
  | _ => (a + 1, 0, 0)
def valid3 (x : V3) : Bool := validB x.1 x.2.1 x.2.2
theorem next_at (a b c : Int) (l k : Nat) (hv : validB a b c = true) (hl : l ≤ k) (hk : k < 3) (hn : ∀ j, l ≤ j → j < k → valid3 (nx a b c j) = false) (h : valid3 (nx a b c k) = true) : nextV a b c l = (nx a b c k, 0) := by
  have hkn : knownB l = true := (known_iff _).2 (by omega)
  unfold nextV
  rw [if_neg (by simp [hv, hkn])]
  rcases (show k = 0 ∨ k = 1 ∨ k = 2 by omega) with rfl | rfl | rfl
  · obtain rfl : l = 0 := by omega
    have h : validB a b (c + 1) = true := h
    rw [if_pos (by simp [h])]; rfl
  · have h : validB a (b + 1) 0 = true := h
    rcases (show l = 0 ∨ l = 1 by omega) with rfl | rfl
    · have h0 : validB a b (c + 1) = false := hn 0 (by omega) (by omega)
      rw [if_neg (by simp [h0]), if_pos (by simp [h])]; rfl
    · rw [if_neg (by simp), if_pos (by simp [h])]; rfl
  · have h : validB (a + 1) 0 0 = true := h
    rcases (show l = 0 ∨ l = 1 ∨ l = 2 by omega) with rfl | rfl | rfl
    · have h0 : validB a b (c + 1) = false := hn 0 (by omega) (by omega)
      have h1 : validB a (b + 1) 0 = false := hn 1 (by omega) (by omega)
      rw [if_neg (by simp [h0]), if_neg (by simp [h1]), if_pos h]; rfl
    · have h1 : validB a (b + 1) 0 = false := hn 1 (by omega) (by omega)
      rw [if_neg (by simp), if_neg (by simp [h1]), if_pos h]; rfl
    · rw [if_neg (by simp), if_neg (by simp), if_pos h]; rfl
theorem next_none (a b c : Int) (l : Nat) (hv : validB a b c = true) (hl : l ≤ 2) (hn : ∀ j, l ≤ j → j < 3 → valid3 (nx a b c j) = false) : nextV a b c l = ((0, 0, 0), 2) := by
  have hkn : knownB l = true := (known_iff _).2 (by omega)
  have h2 : validB (a + 1) 0 0 = false := hn 2 (by omega) (by omega)
  unfold nextV
  rw [if_neg (by simp [hv, hkn])]
  rcases (show l = 0 ∨ l = 1 ∨ l = 2 by omega) with rfl | rfl | rfl
  · have h0 : validB a b (c + 1) = false := hn 0 (by omega) (by omega)
    have h1 : validB a (b + 1) 0 = false := hn 1 (by omega) (by omega)
    rw [if_neg (by simp [h0]), if_neg (by simp [h1]), if_neg (by simp [h2])]
  · have h1 : validB a (b + 1) 0 = false := hn 1 (by omega) (by omega)
    rw [if_neg (by simp), if_neg (by simp [h1]), if_neg (by simp [h2])]
  · rw [if_neg (by simp), if_neg (by simp), if_neg (by simp [h2])]
/-- what lies behind some rounds. -/
def NSt (w wr : World) (a b c : Int) : Prop := Below w.heap.size w wr ∧ wr.heap[w.heap.size + 1]? = some (.cells #[.int .i64 0, .int .i64 0, .int .i64 0] 23 (0, 0)) ∧
  wr.heap[w.heap.size + 1 + 1 + 1]? = some (.cells #[.int .i64 a, .int .i64 b, .int .i64 (c + 1), .int .i64 a, .int .i64 (b + 1), .int .i64 0, .int .i64 (a + 1), .int .i64 0, .int .i64 0] 23 (0, 0))
theorem NSt.below {w wr w1 : World} {a b c : Int} (h : NSt w wr a b c) (hb : Below wr.heap.size wr w1) : NSt w w1 a b c := by
  obtain ⟨h1, h2, h3⟩ := h
  exact ⟨h1.trans (hb.mono h1.size), (hb.block _ (lt_of_block h2)).trans h2, (hb.block _ (lt_of_block h3)).trans h3⟩

set_option maxRecDepth 100000 in
set_option maxHeartbeats 8000000 in
theorem rNext_any (a b c l : Int) (w : World) : Calls Tryz.prog 7 #[.agg #[.int .i64 a, .int .i64 b, .int .i64 c], .int .i64 l] w fun e w' =>
    e = .returned (.tuple #[.agg #[.int .i64 (nextV a b c l).1.1, .int .i64 (nextV a b c l).1.2.1, .int .i64 (nextV a b c l).1.2.2], .int .i64 (nextV a b c l).2]) ∧ Below w.heap.size w w' := by
  by_cases hv : validB a b c = true
  · by_cases hk : knownB l = true
    · obtain ⟨l0, l2⟩ := (known_iff l).1 hk
      obtain ⟨L, rfl⟩ : ∃ L : Nat, l = L := ⟨l.toNat, by omega⟩
      obtain ⟨⟨a0, a1⟩, ⟨b0, b1⟩, c0, c1⟩ := valid_le hv
      have HN := Lib.hid (fun k => next_at a b c L k hv)
      have HZ := Lib.hid (next_none a b c L hv (by omega))
      have hL : L ≤ 2 := by omega
      obtain ⟨⟨⟨r0, r1, r2⟩, re⟩, hr⟩ : ∃ r, nextV a b c L = r := ⟨_, rfl⟩
      rw [hr] at HN HZ ⊢
      clear hr hk
      go_enter Tryz.func7, Tryz.ntmps7
      go_wp2_with (first | (go_at_call 24; refine (rValid_any _ _ _ _).mono ?_; rintro e w' ⟨rfl, rfl⟩))
      go_loopw [7] (fun i wr => ∃ k : Nat, L ≤ k ∧ k ≤ 3 ∧ i = .int .i64 k ∧ Hid (∀ j, L ≤ j → j < k → valid3 (nx a b c j) = false) ∧ Hid (NSt w wr a b c)) (fun i _ => 3 - (intOf i).toNat)
      case atStart => exact ⟨L, Nat.le_refl _, by omega, rfl, Lib.hid (fun j h1 h2 => by omega), Lib.hid ⟨(by repeat (first | exact Below.refl _ _ | refine Below.drew ?_ | refine Below.alloc ?_ (by simp <;> omega) _ | refine Below.setCell ?_ (by simp <;> omega) _)), by
        rw [Below.heap_alloc _ _ _ (by simp only [World.size_alloc]; omega), Below.heap_alloc _ _ _ (by simp only [World.size_alloc]; omega)]
        have := heap_alloc_new (w.alloc (.cells #[.int .i64 a, .int .i64 b, .int .i64 c] 23)) (.cells #[.int .i64 0, .int .i64 0, .int .i64 0] 23)
        rw [World.size_alloc] at this; exact this, by
        have := heap_alloc_new (((w.alloc (.cells #[.int .i64 a, .int .i64 b, .int .i64 c] 23)).alloc (.cells #[.int .i64 0, .int .i64 0, .int .i64 0] 23)).alloc (.cells #[.int .i64 a, .int .i64 b, .int .i64 c] 23)) (.cells #[.int .i64 a, .int .i64 b, .int .i64 (c + 1), .int .i64 a, .int .i64 (b + 1), .int .i64 0, .int .i64 (a + 1), .int .i64 0, .int .i64 0] 23)
        simp only [World.size_alloc] at this; exact this⟩⟩
      case round =>
        obtain ⟨k, hk1, hk2, rfl, HF, HS⟩ := hrel
        have z0 : wr.cell? ⟨w.heap.size + 1, 0, none⟩ = some (.int .i64 0) := by rw [Lib.cell_of_heap HS.out.2.1]; rfl
        have z1 : wr.cell? ⟨w.heap.size + 1, 1, none⟩ = some (.int .i64 0) := by rw [Lib.cell_of_heap HS.out.2.1]; rfl
        have z2 : wr.cell? ⟨w.heap.size + 1, 2, none⟩ = some (.int .i64 0) := by rw [Lib.cell_of_heap HS.out.2.1]; rfl
        have f0 := Lib.frozen_of_heap HS.out.2.1 0
        have f1 := Lib.frozen_of_heap HS.out.2.1 1
        have f2 := Lib.frozen_of_heap HS.out.2.1 2
        by_cases hlt : k < 3
        · obtain ⟨⟨x0, x1, x2⟩, hx⟩ : ∃ x, nx a b c k = x := ⟨_, rfl⟩
          have hcs : wr.cell? ⟨w.heap.size + 1 + 1 + 1, k * 3, none⟩ = some (.int .i64 x0) ∧ wr.cell? ⟨w.heap.size + 1 + 1 + 1, k * 3 + 1, none⟩ = some (.int .i64 x1) ∧ wr.cell? ⟨w.heap.size + 1 + 1 + 1, k * 3 + 2, none⟩ = some (.int .i64 x2) := by
            rw [Lib.cell_of_heap HS.out.2.2, Lib.cell_of_heap HS.out.2.2, Lib.cell_of_heap HS.out.2.2]
            rcases (show k = 0 ∨ k = 1 ∨ k = 2 by omega) with rfl | rfl | rfl
            all_goals (cases hx; exact ⟨rfl, rfl, rfl⟩)
          obtain ⟨e0, e1, e2⟩ := hcs
          have hkl : (k : Int) < 3 := by omega
          have hb1 : w.heap.size + 1 < wr.heap.size := lt_of_block HS.out.2.1
          have hb2 : w.heap.size + 1 + 1 + 1 < wr.heap.size := lt_of_block HS.out.2.2
          obtain ⟨v, hvv⟩ : ∃ v, validB x0 x1 x2 = v := ⟨_, rfl⟩
          have HV := Lib.hid (show ∀ W, _ from rValid_any x0 x1 x2)
          rw [hvv] at HV
          cases v with
          | true =>
            have HE := Lib.hid (HN.out k hk1 hlt HF.out (by rw [hx]; exact hvv))
            rw [hx] at HE
            have E0 : Hid (r0 = x0 ∧ r1 = x1 ∧ r2 = x2 ∧ re = 0) := Lib.hid (by have := HE.out; simp only [Prod.mk.injEq] at this; exact ⟨this.1.1, this.1.2.1, this.1.2.2, this.2⟩)
            clear hvv hx
            go_wp2_with fail
            (with_reducible refine (HV.out _).mono ?_)
            rintro e w' ⟨rfl, rfl⟩
            have HS2 := Lib.hid (HS.out.below ((Below.refl _ wr).alloc (Nat.le_refl _) (.cells #[.int .i64 x0, .int .i64 x1, .int .i64 x2] 23)))
            obtain ⟨wn, hwn⟩ : ∃ wn, wr.alloc (.cells #[.int .i64 x0, .int .i64 x1, .int .i64 x2] 23) = wn := ⟨_, rfl⟩
            rw [hwn] at HS2 ⊢
            have hbw := (Below.refl _ wr).alloc (Nat.le_refl _) (.cells #[.int .i64 x0, .int .i64 x1, .int .i64 x2] 23)
            rw [hwn] at hbw
            replace e0 := (hbw.cell (p := ⟨w.heap.size + 1 + 1 + 1, k * 3, none⟩) hb2).trans e0
            replace e1 := (hbw.cell (p := ⟨w.heap.size + 1 + 1 + 1, k * 3 + 1, none⟩) hb2).trans e1
            replace e2 := (hbw.cell (p := ⟨w.heap.size + 1 + 1 + 1, k * 3 + 2, none⟩) hb2).trans e2
            replace z0 := (hbw.cell (p := ⟨w.heap.size + 1, 0, none⟩) hb1).trans z0
            replace z1 := (hbw.cell (p := ⟨w.heap.size + 1, 1, none⟩) hb1).trans z1
            replace z2 := (hbw.cell (p := ⟨w.heap.size + 1, 2, none⟩) hb1).trans z2
            replace f0 := Lib.frozen_of_heap HS2.out.2.1 0
            replace f1 := Lib.frozen_of_heap HS2.out.2.1 1
            replace f2 := Lib.frozen_of_heap HS2.out.2.1 2
            clear hwn hbw
            go_wp2_with fail
            exact bodyPost_ret (v := .tuple #[.agg #[.int .i64 x0, .int .i64 x1, .int .i64 x2], .int .i64 0]) (by simp [results, Tryz.results7, go_sem, z0, z1, z2]) rfl ⟨by rw [E0.out.1, E0.out.2.1, E0.out.2.2.1, E0.out.2.2.2], ((HS2.out.1.setCell (p := ⟨_, 0, none⟩) (Nat.le_succ _) _).setCell (p := ⟨_, 1, none⟩) (Nat.le_succ _) _).setCell (p := ⟨_, 2, none⟩) (Nat.le_succ _) _⟩
          | false =>
            have HF2 := Lib.hid (show ∀ j, L ≤ j → j < k + 1 → valid3 (nx a b c j) = false from fun j h1 h2 => by
              rcases (show j < k ∨ j = k by omega) with h3 | rfl
              · exact HF.out j h1 h3
              · rw [hx]; exact hvv)
            clear hvv hx
            go_wp2_with fail
            (with_reducible refine (HV.out _).mono ?_)
            rintro e w' ⟨rfl, rfl⟩
            have HS2 := Lib.hid (HS.out.below ((Below.refl _ wr).alloc (Nat.le_refl _) (.cells #[.int .i64 x0, .int .i64 x1, .int .i64 x2] 23)))
            go_wp2_with fail
            go_roundw
            case rel => exact ⟨k + 1, by omega, by omega, by go_num, HF2, HS2⟩
            case measure => simp [intOf]; omega
        · obtain rfl : k = 3 := by omega
          have HE := Lib.hid (HZ.out HF.out)
          have E0 : Hid (r0 = 0 ∧ r1 = 0 ∧ r2 = 0 ∧ re = 2) := Lib.hid (by have := HE.out; simp only [Prod.mk.injEq] at this; exact ⟨this.1.1, this.1.2.1, this.1.2.2, this.2⟩)
          go_wp2_with fail
          exact bodyPost_ret (v := .tuple #[.agg #[.int .i64 0, .int .i64 0, .int .i64 0], .int .i64 2]) (by simp [results, Tryz.results7, go_sem, z0, z1, z2]) rfl ⟨by rw [E0.out.1, E0.out.2.1, E0.out.2.2.1, E0.out.2.2.2], ((HS.out.1.setCell (p := ⟨_, 0, none⟩) (Nat.le_succ _) _).setCell (p := ⟨_, 1, none⟩) (Nat.le_succ _) _).setCell (p := ⟨_, 2, none⟩) (Nat.le_succ _) _⟩
    · have hk : knownB l = false := by simpa using hk
      have HE := Lib.hid (show nextV a b c l = ((0, 0, 0), 1) by unfold nextV; simp [hv, hk])
      rw [HE.out]
      have hk3 : ¬ (0 ≤ l ∧ l ≤ 2) := fun h => by rw [(known_iff l).2 h] at hk; cases hk
      clear hk
      rcases (show l < 0 ∨ (0 ≤ l ∧ 2 < l) by omega) with k1 | ⟨k1, k2⟩
      all_goals
        clear hk3
        go_enter Tryz.func7, Tryz.ntmps7
        go_wp2_with (first | (go_at_call 24; refine (rValid_any _ _ _ _).mono ?_; rintro e w' ⟨rfl, rfl⟩))
        exact bodyPost_ret (v := .tuple #[.agg #[.int .i64 0, .int .i64 0, .int .i64 0], .int .i64 1]) (by simp [results, Tryz.results7, go_sem]) rfl ⟨rfl, (by repeat (first | exact Below.refl _ _ | refine Below.drew ?_ | refine Below.alloc ?_ (by simp <;> omega) _ | refine Below.setCell ?_ (by simp <;> omega) _))⟩
  · have hv : validB a b c = false := by simpa using hv
    have HE := Lib.hid (show nextV a b c l = ((0, 0, 0), 1) by unfold nextV; simp [hv])
    rw [HE.out]
    go_enter Tryz.func7, Tryz.ntmps7
    go_wp2_with (first | (go_at_call 24; refine (rValid_any _ _ _ _).mono ?_; rintro e w' ⟨rfl, rfl⟩))
    exact bodyPost_ret (v := .tuple #[.agg #[.int .i64 0, .int .i64 0, .int .i64 0], .int .i64 1]) (by simp [results, Tryz.results7, go_sem]) rfl ⟨rfl, (by repeat (first | exact Below.refl _ _ | refine Below.drew ?_ | refine Below.alloc ?_ (by simp <;> omega) _ | refine Below.setCell ?_ (by simp <;> omega) _))⟩
end Go.Proofs.YtbpgbbdebhmlkaaGreatDoor
