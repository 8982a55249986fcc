/- The law GraphCycles returns true. -/
import Derived.Test.YtlcgbkeggmaljaaGCycKit
namespace Go.Proofs.Ytlcgbkeggmaljaa
set_option linter.unusedVariables false
set_option linter.unusedSimpArgs false
open Go Go.RowKit

set_option maxRecDepth 100000 in
set_option maxHeartbeats 8000000 in
theorem GraphCycles_any (a : Option Addr) (c : Nat) (ev : Value) (ns : List ByteArray) (es : List (Int × Int)) (w : World) (hE : EdgesOf w.heap.size ev es w) (hR : RowOf Value.string w.heap.size (.slice a ns.length c) ns w) :
    Calls Try.prog 4 #[.agg #[.slice a ns.length c, ev]] w fun e w' => e = .returned (.bool true) ∧ Below w.heap.size w w' := by
  have hE0 := hE
  obtain ⟨ao, ec, rfl, _⟩ := hE
  have HE := Lib.hid hE0
  have HR := Lib.hid hR
  have HB0 : Hid (Below w.heap.size w (w.alloc (.cells #[.slice a ns.length c, .slice ao es.length ec] 25))) := Lib.hid (bel_alloc _ _)
  have HG0 : Hid ((w.alloc (.cells #[.slice a ns.length c, .slice ao es.length ec] 25)).heap[w.heap.size]? = some (.cells #[.slice a ns.length c, .slice ao es.length ec] 25 (0, 0))) := Lib.hid (World.alloc_heap_new w _)
  have HAW := Lib.hid (awake_any (w.alloc (.cells #[.slice a ns.length c, .slice ao es.length ec] 25)))
  clear hE0 hR
  go_enter Try.func4, Try.ntmps4
  go_wp2_with fail
  refine HAW.out.mono ?_
  rintro e w1 ⟨rfl, hb1⟩
  have hs1 := hb1.size
  simp only [World.size_alloc] at hs1
  have HG1 := Lib.hid ((hb1.block w.heap.size (by simp)).trans HG0.out)
  have HB1 := Lib.hid (HB0.out.trans (hb1.mono (by simp)))
  have hg0 : w1.cell? ⟨w.heap.size, 0, none⟩ = some (.slice a ns.length c) := cell_of_row _ _ 0 _ _ _ HG1.out
  have hg1 : w1.cell? ⟨w.heap.size, 1, none⟩ = some (.slice ao es.length ec) := cell_of_row _ _ 1 _ _ _ HG1.out
  have HFW := Lib.hid (Few_any a ao ns.length c es.length ec w1)
  clear hb1 HAW
  go_wp2_with fail
  refine HFW.out.mono ?_
  rintro e w2 ⟨rfl, hb2⟩
  have hs2 := hb2.size
  have HG2 := Lib.hid ((hb2.block w.heap.size (by omega)).trans HG1.out)
  have HB2 := Lib.hid (HB1.out.trans (hb2.mono (by omega)))
  have hg0 : w2.cell? ⟨w.heap.size, 0, none⟩ = some (.slice a ns.length c) := cell_of_row _ _ 0 _ _ _ HG2.out
  have hg1 : w2.cell? ⟨w.heap.size, 1, none⟩ = some (.slice ao es.length ec) := cell_of_row _ _ 1 _ _ _ HG2.out
  clear hb2 HFW
  by_cases hfw : (decide (ns.length ≤ 14) && decide (es.length ≤ 60)) = true
  case neg =>
    have hf2 : (decide (ns.length ≤ 14) && decide (es.length ≤ 60)) = false := by simpa using hfw
    rw [hf2]
    clear hfw hf2
    go_wp2_with fail
    go_ret
    exact ⟨rfl, HB2.out⟩
  case pos =>
    have hN : ns.length ≤ 14 := by rw [Bool.and_eq_true] at hfw; exact of_decide_eq_true hfw.1
    have hes : es.length ≤ 60 := by rw [Bool.and_eq_true] at hfw; exact of_decide_eq_true hfw.2
    rw [hfw]
    clear hfw
    go_wp2_with fail
    refine region_plainP (S := HeldC ⟨w.heap.size, 0, none⟩ ⟨w.heap.size, 1, none⟩ (.slice a ns.length c) (.slice ao es.length ec)) (by kernel_rfl) ?_
    have hSd : HeldC ⟨w.heap.size, 0, none⟩ ⟨w.heap.size, 1, none⟩ (.slice a ns.length c) (.slice ao es.length ec) w2.drew := ⟨hg0, hg1⟩
    (refine wpAnyH_take (i := 0) (v := ?_) rfl (by kernel_rfl) (by kernel_rfl) (by kernel_rfl) (fun _ _ _ h => h) (Or.inl ⟨by rfl, ?_⟩) (by assumption) ?_; rotate_left; (· (intro w hSw; obtain ⟨c0, c1⟩ := hSw; go_simp; try with_reducible rfl)); (try simp only [List.getElem_toArray, List.getElem_cons_zero, List.getElem_cons_succ, Act.put, List.setIfInBounds_toArray, List.set_cons_zero, List.set_cons_succ]))
    (refine wpAnyH_take (i := 2) (v := ?_) rfl (by kernel_rfl) (by kernel_rfl) (by kernel_rfl) (fun _ _ _ h => h) (Or.inl ⟨by rfl, ?_⟩) (by assumption) ?_; rotate_left; (· (intro w hSw; obtain ⟨c0, c1⟩ := hSw; go_simp; try with_reducible rfl)); (try simp only [List.getElem_toArray, List.getElem_cons_zero, List.getElem_cons_succ, Act.put, List.setIfInBounds_toArray, List.set_cons_zero, List.set_cons_succ]))
    have HSW : Hid (∀ W' : World, Below w2.heap.size w2 W' → HeldC ⟨w.heap.size, 0, none⟩ ⟨w.heap.size, 1, none⟩ (.slice a ns.length c) (.slice ao es.length ec) W') := Lib.hid fun W' h => ⟨cell_of_row _ _ 0 _ _ _ ((h.block _ (by omega)).trans HG2.out), cell_of_row _ _ 1 _ _ _ ((h.block _ (by omega)).trans HG2.out)⟩
    refine wpAnyH_inv (fun listed a' W => ∃ (l1 l3 l4 l5 l6 l7 : Bool) (s3 s4 s11 s13 : Value) (a1 a3 e1 e3 : Option Addr) (c1 c3 k1 k3 b4 b5 : Nat), listed = #[true, l1, true, l3, l4, l5, l6, l7] ∧ a' = { tmps := #[.agg #[.slice a ns.length c, .slice ao es.length ec], .pointer (some ⟨w.heap.size, 0, none⟩), .bool false, s3, s4, .bool true, .bool false, .agg #[.slice a ns.length c, .slice ao es.length ec], .bool true, .bool false, .agg #[.slice a ns.length c, .slice ao es.length ec], s11, .agg #[.slice a ns.length c, .slice ao es.length ec], s13, undef, undef, undef, undef, undef, undef, undef, undef, undef, undef, undef, undef, undef, undef, undef, undef, undef, undef, undef, undef, undef, undef, undef, undef, undef, undef], defers := [] } ∧ RevJ (revN ns es) (revE ns.length es) w2.heap.size w2 W l1 l3 l4 l5 l6 l7 s3 s4 s11 s13 a1 a3 e1 e3 c1 c3 k1 k3 b4 b5) ?step ?fin _ _ _ _ (by decide) ?start
    case start => exact ⟨false, false, false, false, false, false, _, _, _, _, none, none, none, none, 0, 0, 0, 0, 0, 0, rfl, rfl, ⟨(Below.refl _ _).drew, Nat.le_refl _, fun h => (by cases h), fun h => (by cases h), fun h => (by cases h), fun h => (by cases h), fun h => (by cases h), fun h => (by cases h), fun h => (by cases h)⟩⟩
    case step =>
      rintro listed a' W i ⟨l1, l3, l4, l5, l6, l7, s3, s4, s11, s13, a1, a3, e1, e3, c1, c3, k1, k3, b4, b5, rfl, rfl, hJ⟩ hi
      obtain ⟨h1, h2, h3⟩ := ready_spec hi
      have hi8 : i < 8 := h1
      have hi : i = 0 ∨ i = 1 ∨ i = 2 ∨ i = 3 ∨ i = 4 ∨ i = 5 ∨ i = 6 ∨ i = 7 := by omega
      clear h1 hi8
      rcases hi with rfl | rfl | rfl | rfl | rfl | rfl | rfl | rfl
      · cases h2
      · obtain rfl : l1 = false := h2
        refine wpOp_hid rfl (fun K hK => ?_)
        have hEW := (HE.out.below (HB2.out.trans (hJ.bel.mono (by omega))) (Nat.le_refl _)).mono (B' := W.heap.size) (by have := hJ.hB; omega)
        have hRW := (HR.out.below (HB2.out.trans (hJ.bel.mono (by omega))) (Nat.le_refl _)).mono (B' := W.heap.size) (by have := hJ.hB; omega)
        have HCON := Lib.hid (Reverse_con a c (.slice ao es.length ec) ns es W (by omega) hEW hRW)
        have HJ := Lib.hid hJ
        clear h3 hJ hEW hRW
        go_simp
        refine HCON.out.mono ?_
        rintro e W' ⟨v, rfl, ⟨ax, cx, ex, kx, rfl, hr, he⟩, hb⟩
        have h := HJ.out.call1 hb hr he
        exact hK.out _ _ ⟨HSW.out _ h.bel, true, l3, l4, l5, l6, l7, _, _, _, _, _, _, _, _, _, _, _, _, _, _, rfl, rfl, h⟩
      · cases h2
      · obtain rfl : l3 = false := h2
        refine wpOp_hid rfl (fun K hK => ?_)
        have hEW := (HE.out.below (HB2.out.trans (hJ.bel.mono (by omega))) (Nat.le_refl _)).mono (B' := W.heap.size) (by have := hJ.hB; omega)
        have hRW := (HR.out.below (HB2.out.trans (hJ.bel.mono (by omega))) (Nat.le_refl _)).mono (B' := W.heap.size) (by have := hJ.hB; omega)
        have HCON := Lib.hid (rReverse_con a c (.slice ao es.length ec) ns es W (by omega) (by omega) hEW hRW)
        have HJ := Lib.hid hJ
        clear h3 hJ hEW hRW
        go_simp
        refine HCON.out.mono ?_
        rintro e W' ⟨v, rfl, ⟨ax, cx, ex, kx, rfl, hr, he⟩, hb⟩
        have h := HJ.out.call3 hb hr he
        exact hK.out _ _ ⟨HSW.out _ h.bel, l1, true, l4, l5, l6, l7, _, _, _, _, _, _, _, _, _, _, _, _, _, _, rfl, rfl, h⟩
      · obtain rfl : l4 = false := h2
        refine wpOp_hid rfl (fun K hK => ?_)
        have HJ := Lib.hid hJ
        clear h3 hJ
        go_simp
        have h := HJ.out.al4
        exact hK.out _ _ ⟨HSW.out _ h.bel, l1, l3, true, l5, l6, l7, _, _, _, _, _, _, _, _, _, _, _, _, _, _, rfl, rfl, h⟩
      · obtain rfl : l5 = false := h2
        refine wpOp_hid rfl (fun K hK => ?_)
        have HJ := Lib.hid hJ
        clear h3 hJ
        go_simp
        have h := HJ.out.al5
        exact hK.out _ _ ⟨HSW.out _ h.bel, l1, l3, l4, true, l6, l7, _, _, _, _, _, _, _, _, _, _, _, _, _, _, rfl, rfl, h⟩
      · obtain rfl : l6 = false := h2
        obtain ⟨rfl, rfl, rfl, rfl⟩ : l1 = true ∧ l3 = true ∧ l4 = true ∧ l5 = true := by
          cases l1 <;> cases l3 <;> cases l4 <;> cases l5 <;> first | exact ⟨rfl, rfl, rfl, rfl⟩ | exact Bool.noConfusion (h3.symm.trans (by kernel_rfl : _ = false))
        obtain ⟨q1, q2, q3⟩ := hJ.p4 rfl
        obtain ⟨r1, _, _⟩ := hJ.m1 rfl
        have hc0 : W.cell? ⟨b4, 0, none⟩ = some (.slice none 0 0) := cell_of_row _ _ 0 _ _ _ q3
        have hc1 : W.cell? ⟨b4, 1, none⟩ = some (.slice none 0 0) := cell_of_row _ _ 1 _ _ _ q3
        have hf0 := frozen_of_row _ _ 0 _ _ q3
        have hf1 := frozen_of_row _ _ 1 _ _ q3
        subst q1
        subst r1
        refine wpOp_hid rfl (fun K hK => ?_)
        have HJ := Lib.hid hJ
        clear h3 hJ q3
        go_simp
        have h := HJ.out.st6
        exact hK.out _ _ ⟨HSW.out _ h.bel, true, true, true, true, true, l7, _, _, _, _, _, _, _, _, _, _, _, _, _, _, rfl, rfl, h⟩
      · obtain rfl : l7 = false := h2
        obtain ⟨rfl, rfl, rfl, rfl, rfl⟩ : l1 = true ∧ l3 = true ∧ l4 = true ∧ l5 = true ∧ l6 = true := by
          cases l1 <;> cases l3 <;> cases l4 <;> cases l5 <;> cases l6 <;> first | exact ⟨rfl, rfl, rfl, rfl, rfl⟩ | exact Bool.noConfusion (h3.symm.trans (by kernel_rfl : _ = false))
        obtain ⟨q1, q2, q3⟩ := hJ.p5 rfl
        obtain ⟨r1, _, _⟩ := hJ.m3 rfl
        have hc0 : W.cell? ⟨b5, 0, none⟩ = some (.slice none 0 0) := cell_of_row _ _ 0 _ _ _ q3
        have hc1 : W.cell? ⟨b5, 1, none⟩ = some (.slice none 0 0) := cell_of_row _ _ 1 _ _ _ q3
        have hf0 := frozen_of_row _ _ 0 _ _ q3
        have hf1 := frozen_of_row _ _ 1 _ _ q3
        subst q1
        subst r1
        refine wpOp_hid rfl (fun K hK => ?_)
        have HJ := Lib.hid hJ
        clear h3 hJ q3
        go_simp
        have h := HJ.out.st7
        exact hK.out _ _ ⟨HSW.out _ h.bel, true, true, true, true, true, true, _, _, _, _, _, _, _, _, _, _, _, _, _, _, rfl, rfl, h⟩
    case fin =>
      rintro listed a' W ⟨l1, l3, l4, l5, l6, l7, s3, s4, s11, s13, a1, a3, e1, e3, c1, c3, k1, k3, b4, b5, rfl, rfl, hJ⟩ hr
      have q1 := ready_nil hr 1 (by kernel_rfl)
      obtain rfl : l1 = true := q1
      have q4 := ready_nil hr 4 (by kernel_rfl)
      obtain rfl : l4 = true := q4
      have q5 := ready_nil hr 5 (by kernel_rfl)
      obtain rfl : l5 = true := q5
      have q3 := ready_nil hr 3 (by kernel_rfl)
      obtain rfl : l3 = true := q3
      have q6 := ready_nil hr 6 (by kernel_rfl)
      obtain rfl : l6 = true := q6
      have q7 := ready_nil hr 7 (by kernel_rfl)
      obtain rfl : l7 = true := q7
      obtain ⟨x1, hr1, he1⟩ := hJ.m1 rfl
      obtain ⟨x3, hr3, he3⟩ := hJ.m3 rfl
      obtain ⟨x4, _, hb4⟩ := hJ.p4 rfl
      obtain ⟨x5, _, hb5⟩ := hJ.p5 rfl
      subst x1
      subst x3
      subst x4
      subst x5
      have hbel := hJ.bel
      have hBW := hJ.hB
      have HB6 := Lib.hid (HB2.out.trans (hbel.mono (by omega)))
      have HG6 := Lib.hid ((hbel.block _ (by omega)).trans HG2.out)
      have hl4 := (Array.getElem?_eq_some_iff.1 hb4).1
      have hl5 := (Array.getElem?_eq_some_iff.1 hb5).1
      have HRA := Lib.hid hr1
      have HRB := Lib.hid hr3
      have HEA := Lib.hid he1
      have HEB := Lib.hid he3
      have HB4 := Lib.hid hb4
      have HB5 := Lib.hid hb5
      have HRL : Hid ((revN ns es).length ≤ 1000000000) := Lib.hid (by unfold revN; split; omega; simp)
      have HEL : Hid ((revE ns.length es).length ≤ 1000000000) := Lib.hid (by unfold revE; split; rw [List.length_map]; omega; simp)
      clear hJ hr hbel hr1 hr3 he1 he3 hb4 hb5
      refine NoPanic.normal ?_
      go_wp2_with fail
      have HSV : Hid (∀ V : World, Below W.heap.size W V → HeldS ⟨w.heap.size, 0, none⟩ ⟨w.heap.size, 1, none⟩ ⟨b4, 0, none⟩ ⟨b4, 1, none⟩ ⟨b5, 0, none⟩ ⟨b5, 1, none⟩ (.slice a ns.length c) (.slice ao es.length ec) (.slice a1 (revN ns es).length c1) (.slice e1 (revE ns.length es).length k1) (.slice a3 (revN ns es).length c3) (.slice e3 (revE ns.length es).length k3) V) := Lib.hid fun V h => ⟨cell_of_row _ _ 0 _ _ _ ((h.block _ (by omega)).trans HG6.out), cell_of_row _ _ 1 _ _ _ ((h.block _ (by omega)).trans HG6.out), cell_of_row _ _ 0 _ _ _ ((h.block _ hl4).trans HB4.out), cell_of_row _ _ 1 _ _ _ ((h.block _ hl4).trans HB4.out), cell_of_row _ _ 0 _ _ _ ((h.block _ hl5).trans HB5.out), cell_of_row _ _ 1 _ _ _ ((h.block _ hl5).trans HB5.out)⟩
      refine region_plainP (S := HeldS ⟨w.heap.size, 0, none⟩ ⟨w.heap.size, 1, none⟩ ⟨b4, 0, none⟩ ⟨b4, 1, none⟩ ⟨b5, 0, none⟩ ⟨b5, 1, none⟩ (.slice a ns.length c) (.slice ao es.length ec) (.slice a1 (revN ns es).length c1) (.slice e1 (revE ns.length es).length k1) (.slice a3 (revN ns es).length c3) (.slice e3 (revE ns.length es).length k3)) (by kernel_rfl) ?_
      have HBd : Hid (Below W.heap.size W W.drew) := Lib.hid (Below.refl _ _).drew
      have hSd6 := HSV.out _ HBd.out
      obtain ⟨vb, hvb⟩ : ∃ vb, vb = validG ns.length es := ⟨_, rfl⟩
      have HVB := Lib.hid hvb
      clear hvb
      have HEV : Hid (∀ V : World, Below W.heap.size W V → EdgesOf V.heap.size (.slice ao es.length ec) es V) := Lib.hid fun V h => (HE.out.below (HB6.out.trans (h.mono (by omega))) (Nat.le_refl _)).mono (by have := h.size; omega)
      have HRV : Hid (∀ V : World, Below W.heap.size W V → RowOf Value.string V.heap.size (.slice a ns.length c) ns V) := Lib.hid fun V h => (HR.out.below (HB6.out.trans (h.mono (by omega))) (Nat.le_refl _)).mono (by have := h.size; omega)
      have C3 := Lib.hid (cycle_con a c (.slice ao es.length ec) ns es W (by omega) (by omega) (HEV.out W (Below.refl _ _)) (HRV.out W (Below.refl _ _)))
      have C4 := Lib.hid (rcycle_con a c (.slice ao es.length ec) ns es W (by omega) (by omega) (HEV.out W (Below.refl _ _)))
      (refine wpAnyH_take (i := 0) (v := ?_) rfl (by kernel_rfl) (by kernel_rfl) (by kernel_rfl) (fun _ _ _ h => h) (Or.inl ⟨by rfl, ?_⟩) (by assumption) ?_; rotate_left; (· (intro w hSw; obtain ⟨c0, c1, c2, c3, c4, c5⟩ := hSw; go_simp; try with_reducible rfl)); (try simp only [List.getElem_toArray, List.getElem_cons_zero, List.getElem_cons_succ, Act.put, List.setIfInBounds_toArray, List.set_cons_zero, List.set_cons_succ]))
      (refine wpAnyH_take (i := 2) (v := ?_) rfl (by kernel_rfl) (by kernel_rfl) (by kernel_rfl) (fun _ _ _ h => h) (Or.inl ⟨by rfl, ?_⟩) (by assumption) ?_; rotate_left; (· (intro w hSw; obtain ⟨c0, c1, c2, c3, c4, c5⟩ := hSw; go_simp; try with_reducible rfl)); (try simp only [List.getElem_toArray, List.getElem_cons_zero, List.getElem_cons_succ, Act.put, List.setIfInBounds_toArray, List.set_cons_zero, List.set_cons_succ]))
      have hva := Valid_any a ns.length c (.slice ao es.length ec) es W.drew (by omega) (HEV.out _ HBd.out)
      rw [← HVB.out] at hva
      have HVA := Lib.hid hva
      clear hva
      refine wpAnyH_ready (rs := [1]) (by kernel_rfl) (by simp) (AllReadyH.cons rfl (fun K hK => ?_) AllReadyH.nil)
      go_simp
      refine HVA.out.mono ?_
      rintro e x1 ⟨rfl, hbx1⟩
      have HX1 := Lib.hid (HBd.out.trans (hbx1.mono HBd.out.size))
      have hS1 := HSV.out _ HX1.out
      clear hbx1 HVA
      try go_simp
      refine hK.out _ _ hS1 (fun _ => ?_)
      clear hK K
      (try simp only [List.getElem_toArray, List.getElem_cons_zero, List.getElem_cons_succ, Act.put, List.setIfInBounds_toArray, List.set_cons_zero, List.set_cons_succ])
      have hvr := rValid_any a ns.length c (.slice ao es.length ec) es x1 (by omega) (by omega) (HEV.out _ HX1.out)
      rw [← HVB.out] at hvr
      have HVR := Lib.hid hvr
      clear hvr
      refine wpAnyH_ready (rs := [3]) (by kernel_rfl) (by simp) (AllReadyH.cons rfl (fun K hK => ?_) AllReadyH.nil)
      go_simp
      refine HVR.out.mono ?_
      rintro e x2 ⟨rfl, hbx2⟩
      have HX2 := Lib.hid (HX1.out.trans (hbx2.mono HX1.out.size))
      have hS2 := HSV.out _ HX2.out
      clear hbx2 HVR
      try go_simp
      refine hK.out _ _ hS2 (fun _ => ?_)
      clear hK K
      (try simp only [List.getElem_toArray, List.getElem_cons_zero, List.getElem_cons_succ, Act.put, List.setIfInBounds_toArray, List.set_cons_zero, List.set_cons_succ])
      (refine wpAnyH_take (i := 4) (v := ?_) rfl (by kernel_rfl) (by kernel_rfl) (by kernel_rfl) (fun _ _ _ h => h) (Or.inl ⟨by rfl, ?_⟩) (by assumption) ?_; rotate_left; (· (intro w hSw; obtain ⟨c0, c1, c2, c3, c4, c5⟩ := hSw; go_simp; try with_reducible rfl)); (try simp only [List.getElem_toArray, List.getElem_cons_zero, List.getElem_cons_succ, Act.put, List.setIfInBounds_toArray, List.set_cons_zero, List.set_cons_succ]))
      (refine wpAnyH_take (i := 5) (v := ?_) rfl (by kernel_rfl) (by kernel_rfl) (by kernel_rfl) (fun _ _ _ h => h) (Or.inl ⟨by rfl, ?_⟩) (by assumption) ?_; rotate_left; (· (intro w hSw; obtain ⟨c0, c1, c2, c3, c4, c5⟩ := hSw; go_simp; try with_reducible rfl)); (try simp only [List.getElem_toArray, List.getElem_cons_zero, List.getElem_cons_succ, Act.put, List.setIfInBounds_toArray, List.set_cons_zero, List.set_cons_succ]))
      (refine wpAnyH_take (i := 6) (v := ?_) rfl (by kernel_rfl) (by kernel_rfl) (by kernel_rfl) (fun _ _ _ h => h) (Or.inl ⟨by rfl, ?_⟩) (by assumption) ?_; rotate_left; (· (intro w hSw; obtain ⟨c0, c1, c2, c3, c4, c5⟩ := hSw; go_simp; try with_reducible rfl)); (try simp only [List.getElem_toArray, List.getElem_cons_zero, List.getElem_cons_succ, Act.put, List.setIfInBounds_toArray, List.set_cons_zero, List.set_cons_succ]))
      (refine wpAnyH_take (i := 8) (v := ?_) rfl (by kernel_rfl) (by kernel_rfl) (by kernel_rfl) (fun _ _ _ h => h) (Or.inl ⟨by rfl, ?_⟩) (by assumption) ?_; rotate_left; (· (intro w hSw; obtain ⟨c0, c1, c2, c3, c4, c5⟩ := hSw; go_simp; try with_reducible rfl)); (try simp only [List.getElem_toArray, List.getElem_cons_zero, List.getElem_cons_succ, Act.put, List.setIfInBounds_toArray, List.set_cons_zero, List.set_cons_succ]))
      refine wpAnyH_ready (rs := [7]) (by kernel_rfl) (by simp) (AllReadyH.cons rfl (fun K hK => ?_) AllReadyH.nil)
      go_simp
      refine (C3.out _ HX2.out).mono ?_
      rintro e x3 ⟨v3, q3, rfl, hp3, hrw3, hn3, hbx3⟩
      have HX3 := Lib.hid (HX2.out.trans (hbx3.mono HX2.out.size))
      have hS3 := HSV.out _ HX3.out
      have HP3 := Lib.hid hp3
      have HRW3 := Lib.hid hrw3
      obtain ⟨aw3, cw3, hvw3, _⟩ := rowOf_open hrw3
      rw [List.length_map] at hvw3
      subst hvw3
      clear hbx3 hp3 hrw3 C3
      try go_simp
      refine hK.out _ _ hS3 (fun _ => ?_)
      clear hK K
      (try simp only [List.getElem_toArray, List.getElem_cons_zero, List.getElem_cons_succ, Act.put, List.setIfInBounds_toArray, List.set_cons_zero, List.set_cons_succ])
      refine wpAnyH_ready (rs := [9]) (by kernel_rfl) (by simp) (AllReadyH.cons rfl (fun K hK => ?_) AllReadyH.nil)
      go_simp
      refine (C4.out _ HX3.out).mono ?_
      rintro e x4 ⟨v4, q4, rfl, hp4, hrw4, hn4, hbx4⟩
      have HX4 := Lib.hid (HX3.out.trans (hbx4.mono HX3.out.size))
      have hS4 := HSV.out _ HX4.out
      have hqq : q4 = q3 := hp4.trans HP3.out.symm
      subst hqq
      obtain ⟨aw4, cw4, hvw4, _⟩ := rowOf_open hrw4
      rw [List.length_map] at hvw4
      subst hvw4
      have hequ := Equal_ints _ _ _ _ x4 ((HRW3.out.below hbx4 (Nat.le_refl _)).mono hbx4.size) hrw4 (by rw [List.length_map]; exact hn4) (by rw [List.length_map]; exact hn4)
      rw [decide_eq_true rfl] at hequ
      have HEQ := Lib.hid hequ
      clear hbx4 hp4 hrw4 hequ C4
      try go_simp
      refine hK.out _ _ hS4 (fun _ => ?_)
      clear hK K
      (try simp only [List.getElem_toArray, List.getElem_cons_zero, List.getElem_cons_succ, Act.put, List.setIfInBounds_toArray, List.set_cons_zero, List.set_cons_succ])
      refine wpAnyH_ready (rs := [10]) (by kernel_rfl) (by simp) (AllReadyH.cons rfl (fun K hK => ?_) AllReadyH.nil)
      go_simp
      refine HEQ.out.mono ?_
      rintro e x5 ⟨rfl, n5, hx5⟩
      have HX5 : Hid (Below W.heap.size W x5) := Lib.hid (by rw [hx5]; exact below_drewN HX4.out n5)
      have hS5 := HSV.out _ HX5.out
      clear HEQ hx5
      try go_simp
      refine hK.out _ _ hS5 (fun _ => ?_)
      clear hK K
      (try simp only [List.getElem_toArray, List.getElem_cons_zero, List.getElem_cons_succ, Act.put, List.setIfInBounds_toArray, List.set_cons_zero, List.set_cons_succ])
      (refine wpAnyH_take (i := 11) (v := ?_) rfl (by kernel_rfl) (by kernel_rfl) (by kernel_rfl) (fun _ _ _ h => h) (Or.inl ⟨by rfl, ?_⟩) (by assumption) ?_; rotate_left; (· (intro w hSw; obtain ⟨c0, c1, c2, c3, c4, c5⟩ := hSw; go_simp; try with_reducible rfl)); (try simp only [List.getElem_toArray, List.getElem_cons_zero, List.getElem_cons_succ, Act.put, List.setIfInBounds_toArray, List.set_cons_zero, List.set_cons_succ]))
      (refine wpAnyH_take (i := 12) (v := ?_) rfl (by kernel_rfl) (by kernel_rfl) (by kernel_rfl) (fun _ _ _ h => h) (Or.inl ⟨by rfl, ?_⟩) (by assumption) ?_; rotate_left; (· (intro w hSw; obtain ⟨c0, c1, c2, c3, c4, c5⟩ := hSw; go_simp; try with_reducible rfl)); (try simp only [List.getElem_toArray, List.getElem_cons_zero, List.getElem_cons_succ, Act.put, List.setIfInBounds_toArray, List.set_cons_zero, List.set_cons_succ]))
      (refine wpAnyH_take (i := 13) (v := ?_) rfl (by kernel_rfl) (by kernel_rfl) (by kernel_rfl) (fun _ _ _ h => h) (Or.inl ⟨by rfl, ?_⟩) (by assumption) ?_; rotate_left; (· (intro w hSw; obtain ⟨c0, c1, c2, c3, c4, c5⟩ := hSw; go_simp; try with_reducible rfl)); (try simp only [List.getElem_toArray, List.getElem_cons_zero, List.getElem_cons_succ, Act.put, List.setIfInBounds_toArray, List.set_cons_zero, List.set_cons_succ]))
      (refine wpAnyH_take (i := 14) (v := ?_) rfl (by kernel_rfl) (by kernel_rfl) (by kernel_rfl) (fun _ _ _ h => h) (Or.inl ⟨by rfl, ?_⟩) (by assumption) ?_; rotate_left; (· (intro w hSw; obtain ⟨c0, c1, c2, c3, c4, c5⟩ := hSw; go_simp; try with_reducible rfl)); (try simp only [List.getElem_toArray, List.getElem_cons_zero, List.getElem_cons_succ, Act.put, List.setIfInBounds_toArray, List.set_cons_zero, List.set_cons_succ]))
      (refine wpAnyH_take (i := 15) (v := ?_) rfl (by kernel_rfl) (by kernel_rfl) (by kernel_rfl) (fun _ _ _ h => h) (Or.inl ⟨by rfl, ?_⟩) (by assumption) ?_; rotate_left; (· (intro w hSw; obtain ⟨c0, c1, c2, c3, c4, c5⟩ := hSw; go_simp; try with_reducible rfl)); (try simp only [List.getElem_toArray, List.getElem_cons_zero, List.getElem_cons_succ, Act.put, List.setIfInBounds_toArray, List.set_cons_zero, List.set_cons_succ]))
      (refine wpAnyH_take (i := 16) (v := ?_) rfl (by kernel_rfl) (by kernel_rfl) (by kernel_rfl) (fun _ _ _ h => h) (Or.inl ⟨by rfl, ?_⟩) (by assumption) ?_; rotate_left; (· (intro w hSw; obtain ⟨c0, c1, c2, c3, c4, c5⟩ := hSw; go_simp; try with_reducible rfl)); (try simp only [List.getElem_toArray, List.getElem_cons_zero, List.getElem_cons_succ, Act.put, List.setIfInBounds_toArray, List.set_cons_zero, List.set_cons_succ]))
      have HES := Lib.hid (Equal_strs_same (.slice a1 (revN ns es).length c1) (.slice a3 (revN ns es).length c3) W.heap.size (revN ns es) x5 HRL.out (HRA.out.below HX5.out (Nat.le_refl _)) (HRB.out.below HX5.out (Nat.le_refl _)))
      refine wpAnyH_ready (rs := [17]) (by kernel_rfl) (by simp) (AllReadyH.cons rfl (fun K hK => ?_) AllReadyH.nil)
      go_simp
      refine HES.out.mono ?_
      rintro e x6 ⟨rfl, n6, hx6⟩
      have HX6 : Hid (Below W.heap.size W x6) := Lib.hid (by rw [hx6]; exact below_drewN HX5.out n6)
      have hS6 := HSV.out _ HX6.out
      clear HES hx6
      try go_simp
      refine hK.out _ _ hS6 (fun _ => ?_)
      clear hK K
      (try simp only [List.getElem_toArray, List.getElem_cons_zero, List.getElem_cons_succ, Act.put, List.setIfInBounds_toArray, List.set_cons_zero, List.set_cons_succ])
      (refine wpAnyH_take (i := 18) (v := ?_) rfl (by kernel_rfl) (by kernel_rfl) (by kernel_rfl) (fun _ _ _ h => h) (Or.inl ⟨by rfl, ?_⟩) (by assumption) ?_; rotate_left; (· (intro w hSw; obtain ⟨c0, c1, c2, c3, c4, c5⟩ := hSw; go_simp; try with_reducible rfl)); (try simp only [List.getElem_toArray, List.getElem_cons_zero, List.getElem_cons_succ, Act.put, List.setIfInBounds_toArray, List.set_cons_zero, List.set_cons_succ]))
      (refine wpAnyH_take (i := 19) (v := ?_) rfl (by kernel_rfl) (by kernel_rfl) (by kernel_rfl) (fun _ _ _ h => h) (Or.inl ⟨by rfl, ?_⟩) (by assumption) ?_; rotate_left; (· (intro w hSw; obtain ⟨c0, c1, c2, c3, c4, c5⟩ := hSw; go_simp; try with_reducible rfl)); (try simp only [List.getElem_toArray, List.getElem_cons_zero, List.getElem_cons_succ, Act.put, List.setIfInBounds_toArray, List.set_cons_zero, List.set_cons_succ]))
      (refine wpAnyH_take (i := 20) (v := ?_) rfl (by kernel_rfl) (by kernel_rfl) (by kernel_rfl) (fun _ _ _ h => h) (Or.inl ⟨by rfl, ?_⟩) (by assumption) ?_; rotate_left; (· (intro w hSw; obtain ⟨c0, c1, c2, c3, c4, c5⟩ := hSw; go_simp; try with_reducible rfl)); (try simp only [List.getElem_toArray, List.getElem_cons_zero, List.getElem_cons_succ, Act.put, List.setIfInBounds_toArray, List.set_cons_zero, List.set_cons_succ]))
      (refine wpAnyH_take (i := 21) (v := ?_) rfl (by kernel_rfl) (by kernel_rfl) (by kernel_rfl) (fun _ _ _ h => h) (Or.inl ⟨by rfl, ?_⟩) (by assumption) ?_; rotate_left; (· (intro w hSw; obtain ⟨c0, c1, c2, c3, c4, c5⟩ := hSw; go_simp; try with_reducible rfl)); (try simp only [List.getElem_toArray, List.getElem_cons_zero, List.getElem_cons_succ, Act.put, List.setIfInBounds_toArray, List.set_cons_zero, List.set_cons_succ]))
      (refine wpAnyH_take (i := 22) (v := ?_) rfl (by kernel_rfl) (by kernel_rfl) (by kernel_rfl) (fun _ _ _ h => h) (Or.inl ⟨by rfl, ?_⟩) (by assumption) ?_; rotate_left; (· (intro w hSw; obtain ⟨c0, c1, c2, c3, c4, c5⟩ := hSw; go_simp; try with_reducible rfl)); (try simp only [List.getElem_toArray, List.getElem_cons_zero, List.getElem_cons_succ, Act.put, List.setIfInBounds_toArray, List.set_cons_zero, List.set_cons_succ]))
      (refine wpAnyH_take (i := 23) (v := ?_) rfl (by kernel_rfl) (by kernel_rfl) (by kernel_rfl) (fun _ _ _ h => h) (Or.inl ⟨by rfl, ?_⟩) (by assumption) ?_; rotate_left; (· (intro w hSw; obtain ⟨c0, c1, c2, c3, c4, c5⟩ := hSw; go_simp; try with_reducible rfl)); (try simp only [List.getElem_toArray, List.getElem_cons_zero, List.getElem_cons_succ, Act.put, List.setIfInBounds_toArray, List.set_cons_zero, List.set_cons_succ]))
      have HEE := Lib.hid (Equal_edges_same (.slice e1 (revE ns.length es).length k1) (.slice e3 (revE ns.length es).length k3) W.heap.size (revE ns.length es) x6 HEL.out (HEA.out.below HX6.out (Nat.le_refl _)) (HEB.out.below HX6.out (Nat.le_refl _)))
      refine wpAnyH_ready (rs := [24]) (by kernel_rfl) (by simp) (AllReadyH.cons rfl (fun K hK => ?_) AllReadyH.nil)
      go_simp
      refine HEE.out.mono ?_
      rintro e x7 ⟨rfl, n7, hx7⟩
      have HX7 : Hid (Below W.heap.size W x7) := Lib.hid (by rw [hx7]; exact below_drewN HX6.out n7)
      have hS7 := HSV.out _ HX7.out
      clear HEE hx7
      try go_simp
      refine hK.out _ _ hS7 (fun _ => ?_)
      clear hK K
      (try simp only [List.getElem_toArray, List.getElem_cons_zero, List.getElem_cons_succ, Act.put, List.setIfInBounds_toArray, List.set_cons_zero, List.set_cons_succ])
      (refine wpAnyH_take (i := 25) (v := ?_) rfl (by kernel_rfl) (by kernel_rfl) (by kernel_rfl) (fun _ _ _ h => h) (Or.inl ⟨by rfl, ?_⟩) (by assumption) ?_; rotate_left; (· (intro w hSw; obtain ⟨c0, c1, c2, c3, c4, c5⟩ := hSw; go_simp; try with_reducible rfl)); (try simp only [List.getElem_toArray, List.getElem_cons_zero, List.getElem_cons_succ, Act.put, List.setIfInBounds_toArray, List.set_cons_zero, List.set_cons_succ]))
      (refine wpAnyH_take (i := 26) (v := ?_) rfl (by kernel_rfl) (by kernel_rfl) (by kernel_rfl) (fun _ _ _ h => h) (Or.inl ⟨by rfl, ?_⟩) (by assumption) ?_; rotate_left; (· (intro w hSw; obtain ⟨c0, c1, c2, c3, c4, c5⟩ := hSw; go_simp; try with_reducible rfl)); (try simp only [List.getElem_toArray, List.getElem_cons_zero, List.getElem_cons_succ, Act.put, List.setIfInBounds_toArray, List.set_cons_zero, List.set_cons_succ]))
      refine wpAnyH_done (by kernel_rfl) ?_ _
      refine NoPanic.normal ?_
      go_wp2_with fail
      go_ret
      exact ⟨rfl, HB6.out.trans (HX7.out.mono (by omega))⟩
end Go.Proofs.Ytlcgbkeggmaljaa
