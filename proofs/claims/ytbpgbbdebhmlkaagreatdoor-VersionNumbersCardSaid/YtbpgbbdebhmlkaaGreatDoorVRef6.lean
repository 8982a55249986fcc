/- Contract of the reference's Latest. -/
import Derived.Test.YtbpgbbdebhmlkaaGreatDoorVRef2
import Derived.Test.YtbpgbbdebhmlkaaGreatDoorVLatest
namespace Go.Proofs.YtbpgbbdebhmlkaaGreatDoor
open Go Go.RowKit
attribute [local go_sem ↓] Go.wp_at_zero Go.wp_at_succ

set_option maxRecDepth 100000 in
set_option maxHeartbeats 8000000 in
theorem rLatest_any (v : Value) (l : List V3) (w : World) (hl : l.length ≤ 1000000) (hv : RowV v l w) : Calls Tryz.prog 11 #[v] w fun e w' =>
    e = .returned (.tuple #[.agg #[.int .i64 (maxV l).1, .int .i64 (maxV l).2.1, .int .i64 (maxV l).2.2], .bool (decide (l ≠ []))]) ∧ Below w.heap.size w w' := by
  obtain ⟨ad, cap, rfl⟩ : ∃ a c, v = .slice a l.length c := by
    rcases hv with ⟨h, a, c, h2⟩ | ⟨b, off, cap, h, _⟩
    · exact ⟨a, c, by rw [h2, h]; rfl⟩
    · exact ⟨_, _, h⟩
  obtain ⟨n, hn⟩ : ∃ n, l.length = n := ⟨_, rfl⟩
  have HN := Lib.hid hn
  have HV := Lib.hid hv
  have HE : Hid (decide (l ≠ []) = decide ((0 : Int) < n)) := Lib.hid (by
    rw [← hn, decide_eq_decide, ← List.length_pos_iff]; omega)
  rw [HE.out, hn]
  rw [hn] at hl
  have hnl : (n : Int) ≤ 1000000 := by omega
  clear hn hv HE
  have HM0 : Hid (MSt w ((w.alloc (.cells #[.int .i64 0, .int .i64 0, .int .i64 0] 23)).alloc (.cells #[.int .i64 0, .int .i64 0, .int .i64 0] 23)) (0, 0, 0)) := Lib.hid (by
    refine ⟨(by repeat (first | exact Below.refl _ _ | refine Below.drew ?_ | refine Below.alloc ?_ (by simp <;> omega) _ | refine Below.setCell ?_ (by simp <;> omega) _)), ?_, ?_⟩
    · rw [Below.heap_alloc _ _ _ (by simp)]; exact heap_alloc_new _ _
    · have := heap_alloc_new (w.alloc (.cells #[.int .i64 0, .int .i64 0, .int .i64 0] 23)) (.cells #[.int .i64 0, .int .i64 0, .int .i64 0] 23)
      rw [World.size_alloc] at this; exact this)
  go_enter Tryz.func11, Tryz.ntmps11
  go_wp2_with fail
  go_loopw [5] (fun i wr => ∃ k : Nat, k ≤ n ∧ i = .int .i64 k ∧ Hid (MSt w wr (maxV (l.take k)))) (fun i _ => n - (intOf i).toNat)
  case atStart => exact ⟨0, Nat.zero_le _, rfl, HM0⟩
  case round =>
    clear HM0
    obtain ⟨k, hk, rfl, HM⟩ := hrel
    by_cases hlt : k < n
    · obtain ⟨x, hx⟩ : ∃ x, l[k]? = some x := ⟨_, List.getElem?_eq_getElem (by have := HN.out; omega)⟩
      obtain ⟨b, off, had, hb, hc⟩ : ∃ b off, ad = some ⟨b, off, none⟩ ∧ b < w.heap.size ∧ ∀ i x, l[i]? = some x → w.cell? ⟨b, off + i * 3, none⟩ = some (.int .i64 x.1) ∧ w.cell? ⟨b, off + i * 3 + 1, none⟩ = some (.int .i64 x.2.1) ∧ w.cell? ⟨b, off + i * 3 + 2, none⟩ = some (.int .i64 x.2.2) := by
        rcases HV.out with ⟨h, _⟩ | ⟨b, off, cap2, h, hb, hc⟩
        · rw [h] at hx; simp at hx
        · rw [HN.out] at h; cases h; exact ⟨b, off, rfl, hb, hc⟩
      subst had
      obtain ⟨c0, c1, c2⟩ := hc k x hx
      rw [← HM.out.1.cell (p := ⟨b, _, none⟩) hb] at c0 c1 c2
      have hb1 : b < wr.heap.size := by have := HM.out.1.size; omega
      have hb2 : w.heap.size + 1 < wr.heap.size := lt_of_block HM.out.2.2
      have hk0 : (0 : Int) ≤ (k : Int) := by omega
      have hkn : (k : Int) < (n : Int) := by omega
      have HX := Lib.hid hx
      clear hc hb hx
      by_cases hz : k = 0
      · subst hz
        have HMX : Hid (maxV (l.take (0 + 1)) = x) := Lib.hid (by
          cases l with
          | nil => have := HX.out; simp at this
          | cons y r => have := HX.out; simp at this; subst this; rfl)
        obtain ⟨x0, x1, x2⟩ := x
        simp only [Nat.zero_mul, Nat.add_zero] at c0 c1 c2
        have f0 := Lib.frozen_of_heap HM.out.2.2 0
        have f1 := Lib.frozen_of_heap HM.out.2.2 1
        have f2 := Lib.frozen_of_heap HM.out.2.2 2
        obtain ⟨⟨m0, m1, m2⟩, hm⟩ : ∃ m, maxV (l.take 0) = m := ⟨_, rfl⟩
        rw [hm] at HM
        have e0 : wr.cell? ⟨w.heap.size + 1, 0, none⟩ = some (.int .i64 m0) := by rw [Lib.cell_of_heap HM.out.2.2]; rfl
        have e1 : wr.cell? ⟨w.heap.size + 1, 1, none⟩ = some (.int .i64 m1) := by rw [Lib.cell_of_heap HM.out.2.2]; rfl
        have e2 : wr.cell? ⟨w.heap.size + 1, 2, none⟩ = some (.int .i64 m2) := by rw [Lib.cell_of_heap HM.out.2.2]; rfl
        clear hm
        go_wp2_with fail
        go_quiet (fail)
        go_wp2_with fail
        go_roundw
        case rel => exact ⟨0 + 1, by omega, by go_num, Lib.hid (by rw [HMX.out]; exact (HM.out.below (below_drewNV (Below.refl _ _) _)).set x0 x1 x2)⟩
        case measure => simp [intOf]; omega
      · have HMX := Lib.hid (maxV_take l k (by omega) x HX.out)
        obtain ⟨x0, x1, x2⟩ := x
        obtain ⟨⟨m0, m1, m2⟩, hm⟩ : ∃ m, maxV (l.take k) = m := ⟨_, rfl⟩
        rw [hm] at HM HMX
        have e0 : wr.cell? ⟨w.heap.size + 1, 0, none⟩ = some (.int .i64 m0) := by rw [Lib.cell_of_heap HM.out.2.2]; rfl
        have e1 : wr.cell? ⟨w.heap.size + 1, 1, none⟩ = some (.int .i64 m1) := by rw [Lib.cell_of_heap HM.out.2.2]; rfl
        have e2 : wr.cell? ⟨w.heap.size + 1, 2, none⟩ = some (.int .i64 m2) := by rw [Lib.cell_of_heap HM.out.2.2]; rfl
        have hz2 : ((k : Int) == 0) = false := by rw [beq_eq_false_iff_ne]; omega
        simp only at c0 c1 c2
        clear hm hz
        by_cases hg : 0 < cmpV x0 x1 x2 m0 m1 m2
        · have HG := Lib.hid hg
          go_wp2_with fail
          go_region_held3 (fun w' => w'.cell? ⟨b, off + k * 3, none⟩ = some (.int .i64 x0) ∧ w'.cell? ⟨b, off + k * 3 + 1, none⟩ = some (.int .i64 x1) ∧ w'.cell? ⟨b, off + k * 3 + 2, none⟩ = some (.int .i64 x2) ∧ w'.cell? ⟨w.heap.size + 1, 0, none⟩ = some (.int .i64 m0) ∧ w'.cell? ⟨w.heap.size + 1, 1, none⟩ = some (.int .i64 m1) ∧ w'.cell? ⟨w.heap.size + 1, 2, none⟩ = some (.int .i64 m2))
            ((first | (refine keepV hb1 hb2 c0 c1 c2 e0 e1 e2 ?_; exact Below.trans (Below.drew (Below.refl _ _)) hbc) | (refine keepV hb1 hb2 c0 c1 c2 e0 e1 e2 ?_; exact Below.drew (Below.refl _ _)) | (refine keepV hb1 hb2 c0 c1 c2 e0 e1 e2 ?_; exact Below.refl _ _)))
            (first | (go_at_call 13; refine (rCompare_any _ _ _ _ _ _ _).mono ?_; rintro e w1 ⟨rfl, hbc⟩))
          all_goals
            rename_i hHeld
            obtain ⟨d0, d1, d2, d3, d4, d5⟩ := hHeld
            have HM1 := Lib.hid (HM.out.below ((Below.drew (Below.refl _ _)).trans hbc))
            have f0 := Lib.frozen_of_heap HM1.out.2.2 0
            have f1 := Lib.frozen_of_heap HM1.out.2.2 1
            have f2 := Lib.frozen_of_heap HM1.out.2.2 2
            clear hbc
            go_wp2_with fail
            go_roundw
            case rel => exact ⟨k + 1, by omega, by go_num, Lib.hid (by rw [HMX.out, show maxS (m0, m1, m2) (x0, x1, x2) = (x0, x1, x2) from if_pos HG.out]; exact HM1.out.set x0 x1 x2)⟩
            case measure => simp [intOf]; omega
        · have HG := Lib.hid hg
          have hg2 : cmpV x0 x1 x2 m0 m1 m2 ≤ 0 := by omega
          go_wp2_with fail
          go_region_held3 (fun w' => w'.cell? ⟨b, off + k * 3, none⟩ = some (.int .i64 x0) ∧ w'.cell? ⟨b, off + k * 3 + 1, none⟩ = some (.int .i64 x1) ∧ w'.cell? ⟨b, off + k * 3 + 2, none⟩ = some (.int .i64 x2) ∧ w'.cell? ⟨w.heap.size + 1, 0, none⟩ = some (.int .i64 m0) ∧ w'.cell? ⟨w.heap.size + 1, 1, none⟩ = some (.int .i64 m1) ∧ w'.cell? ⟨w.heap.size + 1, 2, none⟩ = some (.int .i64 m2))
            ((first | (refine keepV hb1 hb2 c0 c1 c2 e0 e1 e2 ?_; exact Below.trans (Below.drew (Below.refl _ _)) hbc) | (refine keepV hb1 hb2 c0 c1 c2 e0 e1 e2 ?_; exact Below.drew (Below.refl _ _)) | (refine keepV hb1 hb2 c0 c1 c2 e0 e1 e2 ?_; exact Below.refl _ _)))
            (first | (go_at_call 13; refine (rCompare_any _ _ _ _ _ _ _).mono ?_; rintro e w1 ⟨rfl, hbc⟩))
          all_goals
            rename_i hHeld
            have HM1 := Lib.hid (HM.out.below ((Below.drew (Below.refl _ _)).trans hbc))
            clear hbc hHeld
            go_wp2_with fail
            go_roundw
            case rel => exact ⟨k + 1, by omega, by go_num, Lib.hid (by rw [HMX.out, show maxS (m0, m1, m2) (x0, x1, x2) = (m0, m1, m2) from if_neg (by have := HG.out; simp only; omega)]; exact HM1.out)⟩
            case measure => simp [intOf]; omega
    · obtain rfl : k = n := by omega
      have HE := Lib.hid (show maxV (l.take k) = maxV l by rw [List.take_of_length_le (by have := HN.out; omega)])
      rw [HE.out] at HM
      obtain ⟨⟨m0, m1, m2⟩, hm⟩ : ∃ m, maxV l = m := ⟨_, rfl⟩
      rw [hm] at HM
      have HMM := Lib.hid hm
      have e0 : wr.cell? ⟨w.heap.size + 1, 0, none⟩ = some (.int .i64 m0) := by rw [Lib.cell_of_heap HM.out.2.2]; rfl
      have e1 : wr.cell? ⟨w.heap.size + 1, 1, none⟩ = some (.int .i64 m1) := by rw [Lib.cell_of_heap HM.out.2.2]; rfl
      have e2 : wr.cell? ⟨w.heap.size + 1, 2, none⟩ = some (.int .i64 m2) := by rw [Lib.cell_of_heap HM.out.2.2]; rfl
      have z0 : wr.cell? ⟨w.heap.size, 0, none⟩ = some (.int .i64 0) := by rw [Lib.cell_of_heap HM.out.2.1]; rfl
      have z1 : wr.cell? ⟨w.heap.size, 1, none⟩ = some (.int .i64 0) := by rw [Lib.cell_of_heap HM.out.2.1]; rfl
      have z2 : wr.cell? ⟨w.heap.size, 2, none⟩ = some (.int .i64 0) := by rw [Lib.cell_of_heap HM.out.2.1]; rfl
      have f0 := Lib.frozen_of_heap HM.out.2.1 0
      have f1 := Lib.frozen_of_heap HM.out.2.1 1
      have f2 := Lib.frozen_of_heap HM.out.2.1 2
      clear hm
      go_wp2_with fail
      rw [HMM.out]
      exact bodyPost_ret (v := .tuple #[.agg #[.int .i64 m0, .int .i64 m1, .int .i64 m2], .bool (decide ((0 : Int) < k))]) (by simp [results, Tryz.results11, go_sem, z0, z1, z2]) rfl ⟨rfl, ((HM.out.1.setCell (p := ⟨_, 0, none⟩) (Nat.le_refl _) _).setCell (p := ⟨_, 1, none⟩) (Nat.le_refl _) _).setCell (p := ⟨_, 2, none⟩) (Nat.le_refl _) _⟩
end Go.Proofs.YtbpgbbdebhmlkaaGreatDoor
