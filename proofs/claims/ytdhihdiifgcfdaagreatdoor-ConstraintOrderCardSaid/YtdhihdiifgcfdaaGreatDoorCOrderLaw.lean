/- ConstraintOrder returns true at every input. -/
import Derived.Test.YtdhihdiifgcfdaaGreatDoorCLawKit
import Derived.Test.YtdhihdiifgcfdaaGreatDoorCEnds
import Derived.Test.YtdhihdiifgcfdaaGreatDoorCHas
import Derived.Test.YtdhihdiifgcfdaaGreatDoorCPlainOrd
import Derived.Test.YtdhihdiifgcfdaaGreatDoorVCompare
namespace Go.Proofs.YtdhihdiifgcfdaaGreatDoor
set_option linter.unusedVariables false
set_option linter.unusedSimpArgs false
open Go Go.RowKit

theorem VBox.set0 {B : Nat} {a b c : Int} {w : World} (h : VBox B a b c w) (x : Int) : VBox B x b c (w.setCell ⟨B, 0, none⟩ (.int .i64 x)) := heap_setCell_same w B 0 _ _ _ h
theorem VBox.far {B B' : Nat} {a b c : Int} {w : World} (h : VBox B a b c w) (hne : B ≠ B') (x : Value) (j : Nat) : VBox B a b c (w.setCell ⟨B', j, none⟩ x) := (Below.heap_setCell w ⟨B', j, none⟩ x B hne).trans h
theorem EdgesOf.setO {w : World} {v : Value} {es : List (Int × Int)} {n B : Nat} (h : EdgesOf n v es w) (hB : n ≤ B) (j : Nat) (x : Value) : EdgesOf n v es (w.setCell ⟨B, j, none⟩ x) := by
  obtain ⟨ao, cap, rfl, h⟩ := h
  refine ⟨ao, cap, rfl, fun i y hy => ?_⟩
  obtain ⟨b, off, rfl, hlt, h1, h2⟩ := h i y hy
  exact ⟨b, off, rfl, hlt, (World.cell?_of_block (a := ⟨b, off + i * 2, none⟩) (Below.heap_setCell w ⟨B, j, none⟩ x b (by show b ≠ B; omega))).trans h1, (World.cell?_of_block (a := ⟨b, off + i * 2 + 1, none⟩) (Below.heap_setCell w ⟨B, j, none⟩ x b (by show b ≠ B; omega))).trans h2⟩
set_option maxRecDepth 100000 in
set_option maxHeartbeats 64000000 in
theorem ConstraintOrder_any (a0 a1 a2 b0 b1 b2 : Int) (v : Value) (s : List (Int × Int)) (w : World) (hm : EnvOk w) (hE : EdgesOf w.heap.size v s w) :
    Calls Tryz.prog 6 #[.agg #[.int .i64 a0, .int .i64 a1, .int .i64 a2], .agg #[.int .i64 b0, .int .i64 b1, .int .i64 b2], v] w fun e w' => e = .returned (.bool true) ∧ Below w.heap.size w w' := by
  have hb00 := belT (bel1 w (.cells #[.int .i64 a0, .int .i64 a1, .int .i64 a2] 23)) (bel1 _ (.cells #[.int .i64 b0, .int .i64 b1, .int .i64 b2] 23))
  have HA := Lib.hid (cawake_any _ (hm.below hb00))
  have HE0 := Lib.hid hE
  have hX := (VBox.new w a0 a1 a2).alloc (.cells #[.int .i64 b0, .int .i64 b1, .int .i64 b2] 23)
  have hY := VBox.new (w.alloc (.cells #[.int .i64 a0, .int .i64 a1, .int .i64 a2] 23)) b0 b1 b2
  rw [World.size_alloc] at hY
  have HX := Lib.hid hX
  have HY := Lib.hid hY
  have HB := Lib.hid hb00
  obtain ⟨ao, ec, rfl, _⟩ := hE
  clear hm hX hY hb00
  by_cases h30 : 30 < s.length
  · have h30i : (30 : Int) < (s.length : Int) := by omega
    go_enter Tryz.func6, Tryz.ntmps6
    go_wp2_with fail
    (with_reducible refine HA.out.mono ?_)
    rintro e w1 ⟨rfl, hb⟩
    replace HB := Lib.hid (belT HB.out hb)
    clear hb
    go_wp2_with fail
    go_ret
    exact ⟨rfl, HB.out⟩
  · have h30i : ¬ (30 : Int) < (s.length : Int) := by omega
    have hls : s.length ≤ 1000000 := by omega
    have H1 := Lib.hid (fun W => Place_any a0 a1 a2 W)
    have H2 := Lib.hid (fun W => Place_any a0 b1 b2 W)
    have H3 := Lib.hid (fun W => Compare_any a0 a1 a2 a0 b1 b2 W)
    have HPE := Lib.hid (And.intro (place_err a0 a1 a2) (place_err a0 b1 b2))
    obtain ⟨⟨p, pe⟩, hp⟩ : ∃ x, placeV a0 a1 a2 = x := ⟨_, rfl⟩
    obtain ⟨⟨q, qe⟩, hq⟩ : ∃ x, placeV a0 b1 b2 = x := ⟨_, rfl⟩
    have HC0 : Hid (pe = 0 → qe = 0 → decide (cmpV a0 a1 a2 a0 b1 b2 < 0) = decide (p < q) ∧ decide (0 < cmpV a0 a1 a2 a0 b1 b2) = decide (q < p)) := Lib.hid (fun h1 h2 => cmp_place (by rw [hp, h1]) (by rw [hq, h2]))
    have HAT : Hid (pe = 0 → atV a0 p = ((a0, a1, a2), 0)) := Lib.hid (fun h1 => at_place (by rw [hp, h1]))
    have H4 := Lib.hid (fun W => At_any a0 p W)
    rw [hp] at H1 HPE
    rw [hq] at H2 HPE
    simp only at H1 H2
    generalize cmpV a0 a1 a2 a0 b1 b2 = c at *
    have H5 := Lib.hid (fun (W : World) (h : EdgesOf W.heap.size (.slice ao s.length ec) s W) => Least_any _ s W (by omega) h)
    have H6 := Lib.hid (fun (W : World) (h : EdgesOf W.heap.size (.slice ao s.length ec) s W) => Greatest_any _ s W (by omega) h)
    have H7 := Lib.hid (fun (W : World) (h : EdgesOf W.heap.size (.slice ao s.length ec) s W) => Upward_any _ s W (by omega) h)
    have H8 := Lib.hid (fun (W : World) (h : EdgesOf W.heap.size (.slice ao s.length ec) s W) => Canonical_any _ s W (by omega) h)
    have HHS := Lib.hid (fun (W : World) (k : Int) (h : EdgesOf W.heap.size (.slice ao s.length ec) s W) => Has_any _ s k W (by omega) h)
    have HYE := Lib.hid (fun (l : Int) h => ends_yes (s := s) (l := l) h)
    have HNO := Lib.hid (fun (l : Int) h => ends_no (s := s) (l := l) h)
    obtain ⟨⟨l, lb⟩, hl⟩ : ∃ x, leastV s = x := ⟨_, rfl⟩
    rw [hl] at H5
    simp only at H5
    have hcs : (pe ≠ 0 ∧ (pe == 0) = false) ∨ (pe = 0 ∧ ((qe ≠ 0 ∧ (qe == 0) = false) ∨ (qe = 0 ∧ c < 0 ∧ ¬ 0 < c ∧ p < q ∧ ¬ q < p) ∨ (qe = 0 ∧ ¬ c < 0 ∧ ¬ 0 < c ∧ ¬ p < q ∧ ¬ q < p) ∨ (qe = 0 ∧ ¬ c < 0 ∧ 0 < c ∧ ¬ p < q ∧ q < p))) := by
      by_cases h1 : pe = 0
      · refine .inr ⟨h1, ?_⟩
        by_cases h2 : qe = 0
        · obtain ⟨g1, g2⟩ := HC0.out h1 h2
          rw [decide_eq_decide] at g1 g2
          refine .inr ?_
          rcases Int.lt_trichotomy p q with h3 | h3 | h3
          · exact .inl ⟨h2, g1.2 h3, fun h => by have := g2.1 h; omega, h3, by omega⟩
          · exact .inr (.inl ⟨h2, fun h => by have := g1.1 h; omega, fun h => by have := g2.1 h; omega, by omega, by omega⟩)
          · exact .inr (.inr ⟨h2, fun h => by have := g1.1 h; omega, g2.2 h3, by omega, h3⟩)
        · exact .inl ⟨h2, by simpa using h2⟩
      · exact .inl ⟨h1, by simpa using h1⟩
    clear hp hq HC0 hls
    cases lb with
    | false =>
      have hce := HNO.out l hl
      rw [hce] at H7 H8
      have H7b := H7
      simp only [upB] at H7
      clear hl hce H7b
      rcases hcs with ⟨_, k1⟩ | ⟨rfl, hcs⟩
      · skip
        go_enter Tryz.func6, Tryz.ntmps6
        go_wp2_with fail
        (with_reducible refine HA.out.mono ?_)
        rintro e w1 ⟨rfl, hb⟩
        have HBw := Lib.hid (belT HB.out hb)
        replace HX := Lib.hid (HX.out.below hb)
        replace HY := Lib.hid (HY.out.below hb)
        clear hb
        obtain ⟨c0, c1, c2⟩ := HX.out.cells
        obtain ⟨d0, d1, d2⟩ := HY.out.cells
        have f0 := HY.out.free 0
        have hl2 := HY.out.lt
        have hne : w.heap.size ≠ w.heap.size + 1 := by omega
        go_wp2_with fail
        obtain ⟨W2, hW2⟩ : ∃ W, w1.setCell ⟨w.heap.size + 1, 0, none⟩ (.int .i64 a0) = W := ⟨_, rfl⟩
        rw [hW2]
        replace HX : Hid (VBox w.heap.size a0 a1 a2 W2) := Lib.hid (by rw [← hW2]; exact HX.out.far hne _ _)
        replace HY : Hid (VBox (w.heap.size + 1) a0 b1 b2 W2) := Lib.hid (by rw [← hW2]; exact HY.out.set0 a0)
        replace HB : Hid (Below w.heap.size w W2) := Lib.hid (by rw [← hW2]; exact HBw.out.setCell (p := ⟨w.heap.size + 1, 0, none⟩) (by show w.heap.size ≤ w.heap.size + 1; omega) _)
        have HV : Hid (EdgesOf W2.heap.size (.slice ao s.length ec) s W2) := Lib.hid (by
          rw [← hW2]
          exact ((HE0.out.below HBw.out (Nat.le_refl _)).setO (by omega) _ _).mono (by have := HBw.out.size; simp; omega))
        clear hW2 c0 c1 c2 d0 d1 d2 f0 hl2 hne HBw
        obtain ⟨c0, c1, c2⟩ := HX.out.cells
        go_wp2_with fail
        (with_reducible refine (H1.out _).mono ?_)
        rintro e w3 ⟨rfl, hb⟩
        replace HV := Lib.hid (HV.out.on hb)
        replace HX := Lib.hid (HX.out.below hb)
        replace HY := Lib.hid (HY.out.below hb)
        replace HB := Lib.hid (belT HB.out hb)
        clear hb
        clear c0 c1 c2
        obtain ⟨d0, d1, d2⟩ := HY.out.cells
        go_wp2_with fail
        (with_reducible refine (H2.out _).mono ?_)
        rintro e w4 ⟨rfl, hb⟩
        replace HV := Lib.hid (HV.out.on hb)
        replace HX := Lib.hid (HX.out.below hb)
        replace HY := Lib.hid (HY.out.below hb)
        replace HB := Lib.hid (belT HB.out hb)
        clear hb
        clear d0 d1 d2
        obtain ⟨c0, c1, c2⟩ := HX.out.cells
        obtain ⟨d0, d1, d2⟩ := HY.out.cells
        go_wp2_with fail
        (with_reducible refine (H3.out _).mono ?_)
        rintro e w5 ⟨rfl, hb⟩
        replace HV := Lib.hid (HV.out.on hb)
        replace HX := Lib.hid (HX.out.below hb)
        replace HY := Lib.hid (HY.out.below hb)
        replace HB := Lib.hid (belT HB.out hb)
        clear hb
        clear c0 c1 c2 d0 d1 d2
        obtain ⟨c0, c1, c2⟩ := HX.out.cells
        go_wp2_with fail
        (with_reducible refine (H5.out _ HV.out).mono ?_)
        rintro e w6 ⟨rfl, hb⟩
        replace HV := Lib.hid (HV.out.on hb)
        replace HX := Lib.hid (HX.out.below hb)
        replace HY := Lib.hid (HY.out.below hb)
        replace HB := Lib.hid (belT HB.out hb)
        clear hb
        clear c0 c1 c2
        go_wp2_with fail
        (with_reducible refine (H7.out _ HV.out).mono ?_)
        rintro e w7 ⟨rfl, hb⟩
        replace HV := Lib.hid (HV.out.on hb)
        replace HX := Lib.hid (HX.out.below hb)
        replace HY := Lib.hid (HY.out.below hb)
        replace HB := Lib.hid (belT HB.out hb)
        clear hb
        go_wp2_with fail
        (with_reducible refine (H8.out _ HV.out).mono ?_)
        rintro e w8 ⟨x8, rfl, hE, hb⟩
        replace HV := Lib.hid (HV.out.on hb)
        replace HX := Lib.hid (HX.out.below hb)
        replace HY := Lib.hid (HY.out.below hb)
        replace HB := Lib.hid (belT HB.out hb)
        have Hx8 := Lib.hid hE
        obtain ⟨ax8, cx8, rfl, _⟩ := hE
        clear hb
        simp only [List.length_nil]
        go_wp2_with fail
        go_ret
        exact ⟨rfl, HB.out⟩
      · have HAT2 := HAT.out rfl
        rw [HAT2] at H4
        simp only at H4
        clear HAT HAT2
        rcases hcs with ⟨_, k1⟩ | ⟨rfl, k1, k2, k3, k4⟩ | ⟨rfl, k1, k2, k3, k4⟩ | ⟨rfl, k1, k2, k3, k4⟩
        all_goals
          try (have j1 : (decide (c < 0) != decide (p < q)) = false := by simp [k1, k3])
          try (have j2 : (decide (0 < c) != decide (q < p)) = false := by simp [k2, k4])
          try (have j3 : (decide (c < 0) == decide (p < q)) = true := by simp [k1, k3])
          try (have j4 : (decide (0 < c) == decide (q < p)) = true := by simp [k2, k4])
          go_enter Tryz.func6, Tryz.ntmps6
          go_wp2_with fail
          (with_reducible refine HA.out.mono ?_)
          rintro e w1 ⟨rfl, hb⟩
          have HBw := Lib.hid (belT HB.out hb)
          replace HX := Lib.hid (HX.out.below hb)
          replace HY := Lib.hid (HY.out.below hb)
          clear hb
          obtain ⟨c0, c1, c2⟩ := HX.out.cells
          obtain ⟨d0, d1, d2⟩ := HY.out.cells
          have f0 := HY.out.free 0
          have hl2 := HY.out.lt
          have hne : w.heap.size ≠ w.heap.size + 1 := by omega
          go_wp2_with fail
          obtain ⟨W2, hW2⟩ : ∃ W, w1.setCell ⟨w.heap.size + 1, 0, none⟩ (.int .i64 a0) = W := ⟨_, rfl⟩
          rw [hW2]
          replace HX : Hid (VBox w.heap.size a0 a1 a2 W2) := Lib.hid (by rw [← hW2]; exact HX.out.far hne _ _)
          replace HY : Hid (VBox (w.heap.size + 1) a0 b1 b2 W2) := Lib.hid (by rw [← hW2]; exact HY.out.set0 a0)
          replace HB : Hid (Below w.heap.size w W2) := Lib.hid (by rw [← hW2]; exact HBw.out.setCell (p := ⟨w.heap.size + 1, 0, none⟩) (by show w.heap.size ≤ w.heap.size + 1; omega) _)
          have HV : Hid (EdgesOf W2.heap.size (.slice ao s.length ec) s W2) := Lib.hid (by
            rw [← hW2]
            exact ((HE0.out.below HBw.out (Nat.le_refl _)).setO (by omega) _ _).mono (by have := HBw.out.size; simp; omega))
          clear hW2 c0 c1 c2 d0 d1 d2 f0 hl2 hne HBw
          obtain ⟨c0, c1, c2⟩ := HX.out.cells
          go_wp2_with fail
          (with_reducible refine (H1.out _).mono ?_)
          rintro e w3 ⟨rfl, hb⟩
          replace HV := Lib.hid (HV.out.on hb)
          replace HX := Lib.hid (HX.out.below hb)
          replace HY := Lib.hid (HY.out.below hb)
          replace HB := Lib.hid (belT HB.out hb)
          clear hb
          clear c0 c1 c2
          obtain ⟨d0, d1, d2⟩ := HY.out.cells
          go_wp2_with fail
          (with_reducible refine (H2.out _).mono ?_)
          rintro e w4 ⟨rfl, hb⟩
          replace HV := Lib.hid (HV.out.on hb)
          replace HX := Lib.hid (HX.out.below hb)
          replace HY := Lib.hid (HY.out.below hb)
          replace HB := Lib.hid (belT HB.out hb)
          clear hb
          clear d0 d1 d2
          obtain ⟨c0, c1, c2⟩ := HX.out.cells
          obtain ⟨d0, d1, d2⟩ := HY.out.cells
          go_wp2_with fail
          (with_reducible refine (H3.out _).mono ?_)
          rintro e w5 ⟨rfl, hb⟩
          replace HV := Lib.hid (HV.out.on hb)
          replace HX := Lib.hid (HX.out.below hb)
          replace HY := Lib.hid (HY.out.below hb)
          replace HB := Lib.hid (belT HB.out hb)
          clear hb
          clear c0 c1 c2 d0 d1 d2
          obtain ⟨c0, c1, c2⟩ := HX.out.cells
          go_wp2_with fail
          (with_reducible refine (H4.out _).mono ?_)
          rintro e w6 ⟨rfl, hb⟩
          replace HV := Lib.hid (HV.out.on hb)
          replace HX := Lib.hid (HX.out.below hb)
          replace HY := Lib.hid (HY.out.below hb)
          replace HB := Lib.hid (belT HB.out hb)
          clear hb
          clear c0 c1 c2
          obtain ⟨c0, c1, c2⟩ := HX.out.cells
          have hlt := HX.out.lt
          have hne : w.heap.size ≠ w6.heap.size := Nat.ne_of_lt hlt
          have HBA := Lib.hid (bel1 w6 (.cells #[.int .i64 a0, .int .i64 a1, .int .i64 a2] 23))
          go_wp2_with fail
          replace HV := Lib.hid (HV.out.on HBA.out)
          replace HX := Lib.hid (HX.out.below HBA.out)
          replace HY := Lib.hid (HY.out.below HBA.out)
          replace HB := Lib.hid (belT HB.out HBA.out)
          clear HBA c0 c1 c2 hlt hne
          (with_reducible refine (H5.out _ HV.out).mono ?_)
          rintro e w7 ⟨rfl, hb⟩
          replace HV := Lib.hid (HV.out.on hb)
          replace HX := Lib.hid (HX.out.below hb)
          replace HY := Lib.hid (HY.out.below hb)
          replace HB := Lib.hid (belT HB.out hb)
          clear hb
          go_wp2_with fail
          (with_reducible refine (H7.out _ HV.out).mono ?_)
          rintro e w8 ⟨rfl, hb⟩
          replace HV := Lib.hid (HV.out.on hb)
          replace HX := Lib.hid (HX.out.below hb)
          replace HY := Lib.hid (HY.out.below hb)
          replace HB := Lib.hid (belT HB.out hb)
          clear hb
          go_wp2_with fail
          (with_reducible refine (H8.out _ HV.out).mono ?_)
          rintro e w9 ⟨x8, rfl, hE, hb⟩
          replace HV := Lib.hid (HV.out.on hb)
          replace HX := Lib.hid (HX.out.below hb)
          replace HY := Lib.hid (HY.out.below hb)
          replace HB := Lib.hid (belT HB.out hb)
          have Hx8 := Lib.hid hE
          obtain ⟨ax8, cx8, rfl, _⟩ := hE
          clear hb
          simp only [List.length_nil]
          go_wp2_with fail
          go_ret
          exact ⟨rfl, HB.out⟩
    | true =>
      obtain ⟨g, hg, g1, g2, g3, g4, g5, g6, g7⟩ := HYE.out l hl
      rw [hg] at H6
      simp only at H6
      have K1 := Lib.hid (fun (W : World) h => HHS.out W l h)
      have K2 := Lib.hid (fun (W : World) h => HHS.out W g h)
      have K3 := Lib.hid (fun (W : World) h => HHS.out W (l - 1) h)
      rw [g4] at K1
      rw [g5] at K2
      rw [g6] at K3
      have g1b : ¬ g < l := by omega
      have hw : IntKind.i64.wrap (l - 1) = l - 1 := IntWalk.i64_in _ (by omega)
      have H9 := Lib.hid (fun W => AtLeast_any l W)
      have hcl : (canon [(l, 1000000)]).length ≤ 1000000 := Nat.le_trans (canon_len _) (by simp)
      have hcl2 : (canon s).length ≤ 1000000 := Nat.le_trans (canon_len _) (by omega)
      have H10 := Lib.hid (fun (W : World) (x y : Value) (h : EdgesOf W.heap.size x (canon [(l, 1000000)]) W) (h2 : EdgesOf W.heap.size y (canon s) W) => Same_any x y _ _ W (by omega) (by omega) h h2)
      rw [← g7] at H10
      generalize upB (canon s) = ub at *
      generalize canon [(l, 1000000)] = cl at *
      generalize canon s = cs at *
      clear hl hg g4 g5 g6 g7 hcl hcl2 HYE HNO
      rcases hcs with ⟨_, k1⟩ | ⟨rfl, hcs⟩
      · skip
        go_enter Tryz.func6, Tryz.ntmps6
        go_wp2_with fail
        (with_reducible refine HA.out.mono ?_)
        rintro e w1 ⟨rfl, hb⟩
        have HBw := Lib.hid (belT HB.out hb)
        replace HX := Lib.hid (HX.out.below hb)
        replace HY := Lib.hid (HY.out.below hb)
        clear hb
        obtain ⟨c0, c1, c2⟩ := HX.out.cells
        obtain ⟨d0, d1, d2⟩ := HY.out.cells
        have f0 := HY.out.free 0
        have hl2 := HY.out.lt
        have hne : w.heap.size ≠ w.heap.size + 1 := by omega
        go_wp2_with fail
        obtain ⟨W2, hW2⟩ : ∃ W, w1.setCell ⟨w.heap.size + 1, 0, none⟩ (.int .i64 a0) = W := ⟨_, rfl⟩
        rw [hW2]
        replace HX : Hid (VBox w.heap.size a0 a1 a2 W2) := Lib.hid (by rw [← hW2]; exact HX.out.far hne _ _)
        replace HY : Hid (VBox (w.heap.size + 1) a0 b1 b2 W2) := Lib.hid (by rw [← hW2]; exact HY.out.set0 a0)
        replace HB : Hid (Below w.heap.size w W2) := Lib.hid (by rw [← hW2]; exact HBw.out.setCell (p := ⟨w.heap.size + 1, 0, none⟩) (by show w.heap.size ≤ w.heap.size + 1; omega) _)
        have HV : Hid (EdgesOf W2.heap.size (.slice ao s.length ec) s W2) := Lib.hid (by
          rw [← hW2]
          exact ((HE0.out.below HBw.out (Nat.le_refl _)).setO (by omega) _ _).mono (by have := HBw.out.size; simp; omega))
        clear hW2 c0 c1 c2 d0 d1 d2 f0 hl2 hne HBw
        obtain ⟨c0, c1, c2⟩ := HX.out.cells
        go_wp2_with fail
        (with_reducible refine (H1.out _).mono ?_)
        rintro e w3 ⟨rfl, hb⟩
        replace HV := Lib.hid (HV.out.on hb)
        replace HX := Lib.hid (HX.out.below hb)
        replace HY := Lib.hid (HY.out.below hb)
        replace HB := Lib.hid (belT HB.out hb)
        clear hb
        clear c0 c1 c2
        obtain ⟨d0, d1, d2⟩ := HY.out.cells
        go_wp2_with fail
        (with_reducible refine (H2.out _).mono ?_)
        rintro e w4 ⟨rfl, hb⟩
        replace HV := Lib.hid (HV.out.on hb)
        replace HX := Lib.hid (HX.out.below hb)
        replace HY := Lib.hid (HY.out.below hb)
        replace HB := Lib.hid (belT HB.out hb)
        clear hb
        clear d0 d1 d2
        obtain ⟨c0, c1, c2⟩ := HX.out.cells
        obtain ⟨d0, d1, d2⟩ := HY.out.cells
        go_wp2_with fail
        (with_reducible refine (H3.out _).mono ?_)
        rintro e w5 ⟨rfl, hb⟩
        replace HV := Lib.hid (HV.out.on hb)
        replace HX := Lib.hid (HX.out.below hb)
        replace HY := Lib.hid (HY.out.below hb)
        replace HB := Lib.hid (belT HB.out hb)
        clear hb
        clear c0 c1 c2 d0 d1 d2
        obtain ⟨c0, c1, c2⟩ := HX.out.cells
        go_wp2_with fail
        (with_reducible refine (H5.out _ HV.out).mono ?_)
        rintro e w6 ⟨rfl, hb⟩
        replace HV := Lib.hid (HV.out.on hb)
        replace HX := Lib.hid (HX.out.below hb)
        replace HY := Lib.hid (HY.out.below hb)
        replace HB := Lib.hid (belT HB.out hb)
        clear hb
        clear c0 c1 c2
        go_wp2_with fail
        (with_reducible refine (H6.out _ HV.out).mono ?_)
        rintro e w7 ⟨rfl, hb⟩
        replace HV := Lib.hid (HV.out.on hb)
        replace HX := Lib.hid (HX.out.below hb)
        replace HY := Lib.hid (HY.out.below hb)
        replace HB := Lib.hid (belT HB.out hb)
        clear hb
        go_wp2_with fail
        (with_reducible refine (K1.out _ HV.out).mono ?_)
        rintro e w8 ⟨rfl, hb⟩
        replace HV := Lib.hid (HV.out.on hb)
        replace HX := Lib.hid (HX.out.below hb)
        replace HY := Lib.hid (HY.out.below hb)
        replace HB := Lib.hid (belT HB.out hb)
        clear hb
        go_wp2_with fail
        (with_reducible refine (K2.out _ HV.out).mono ?_)
        rintro e w9 ⟨rfl, hb⟩
        replace HV := Lib.hid (HV.out.on hb)
        replace HX := Lib.hid (HX.out.below hb)
        replace HY := Lib.hid (HY.out.below hb)
        replace HB := Lib.hid (belT HB.out hb)
        clear hb
        go_wp2_with fail
        (with_reducible refine (K3.out _ HV.out).mono ?_)
        rintro e w10 ⟨rfl, hb⟩
        replace HV := Lib.hid (HV.out.on hb)
        replace HX := Lib.hid (HX.out.below hb)
        replace HY := Lib.hid (HY.out.below hb)
        replace HB := Lib.hid (belT HB.out hb)
        clear hb
        go_wp2_with fail
        (with_reducible refine (H7.out _ HV.out).mono ?_)
        rintro e w11 ⟨rfl, hb⟩
        replace HV := Lib.hid (HV.out.on hb)
        replace HX := Lib.hid (HX.out.below hb)
        replace HY := Lib.hid (HY.out.below hb)
        replace HB := Lib.hid (belT HB.out hb)
        clear hb
        go_wp2_with fail
        (with_reducible refine (H9.out _).mono ?_)
        rintro e w12 ⟨x9, rfl, hE, hb⟩
        replace HV := Lib.hid (HV.out.on hb)
        replace HX := Lib.hid (HX.out.below hb)
        replace HY := Lib.hid (HY.out.below hb)
        replace HB := Lib.hid (belT HB.out hb)
        have Hx9 := Lib.hid hE
        clear hE
        clear hb
        go_wp2_with fail
        (with_reducible refine (H8.out _ HV.out).mono ?_)
        rintro e w13 ⟨x8, rfl, hE, hb⟩
        replace HV := Lib.hid (HV.out.on hb)
        replace HX := Lib.hid (HX.out.below hb)
        replace HY := Lib.hid (HY.out.below hb)
        replace Hx9 := Lib.hid (Hx9.out.on hb)
        replace HB := Lib.hid (belT HB.out hb)
        have Hx8 := Lib.hid hE
        clear hE
        clear hb
        go_wp2_with fail
        (with_reducible refine (H10.out _ _ _ Hx9.out Hx8.out).mono ?_)
        rintro e w14 ⟨rfl, hb⟩
        replace HV := Lib.hid (HV.out.on hb)
        replace HX := Lib.hid (HX.out.below hb)
        replace HY := Lib.hid (HY.out.below hb)
        replace Hx9 := Lib.hid (Hx9.out.on hb)
        replace Hx8 := Lib.hid (Hx8.out.on hb)
        replace HB := Lib.hid (belT HB.out hb)
        clear hb
        go_wp2_with fail
        go_ret
        exact ⟨rfl, HB.out⟩
      · have HAT2 := HAT.out rfl
        rw [HAT2] at H4
        simp only at H4
        clear HAT HAT2
        rcases hcs with ⟨_, k1⟩ | ⟨rfl, k1, k2, k3, k4⟩ | ⟨rfl, k1, k2, k3, k4⟩ | ⟨rfl, k1, k2, k3, k4⟩
        all_goals
          try (have j1 : (decide (c < 0) != decide (p < q)) = false := by simp [k1, k3])
          try (have j2 : (decide (0 < c) != decide (q < p)) = false := by simp [k2, k4])
          try (have j3 : (decide (c < 0) == decide (p < q)) = true := by simp [k1, k3])
          try (have j4 : (decide (0 < c) == decide (q < p)) = true := by simp [k2, k4])
          go_enter Tryz.func6, Tryz.ntmps6
          go_wp2_with fail
          (with_reducible refine HA.out.mono ?_)
          rintro e w1 ⟨rfl, hb⟩
          have HBw := Lib.hid (belT HB.out hb)
          replace HX := Lib.hid (HX.out.below hb)
          replace HY := Lib.hid (HY.out.below hb)
          clear hb
          obtain ⟨c0, c1, c2⟩ := HX.out.cells
          obtain ⟨d0, d1, d2⟩ := HY.out.cells
          have f0 := HY.out.free 0
          have hl2 := HY.out.lt
          have hne : w.heap.size ≠ w.heap.size + 1 := by omega
          go_wp2_with fail
          obtain ⟨W2, hW2⟩ : ∃ W, w1.setCell ⟨w.heap.size + 1, 0, none⟩ (.int .i64 a0) = W := ⟨_, rfl⟩
          rw [hW2]
          replace HX : Hid (VBox w.heap.size a0 a1 a2 W2) := Lib.hid (by rw [← hW2]; exact HX.out.far hne _ _)
          replace HY : Hid (VBox (w.heap.size + 1) a0 b1 b2 W2) := Lib.hid (by rw [← hW2]; exact HY.out.set0 a0)
          replace HB : Hid (Below w.heap.size w W2) := Lib.hid (by rw [← hW2]; exact HBw.out.setCell (p := ⟨w.heap.size + 1, 0, none⟩) (by show w.heap.size ≤ w.heap.size + 1; omega) _)
          have HV : Hid (EdgesOf W2.heap.size (.slice ao s.length ec) s W2) := Lib.hid (by
            rw [← hW2]
            exact ((HE0.out.below HBw.out (Nat.le_refl _)).setO (by omega) _ _).mono (by have := HBw.out.size; simp; omega))
          clear hW2 c0 c1 c2 d0 d1 d2 f0 hl2 hne HBw
          obtain ⟨c0, c1, c2⟩ := HX.out.cells
          go_wp2_with fail
          (with_reducible refine (H1.out _).mono ?_)
          rintro e w3 ⟨rfl, hb⟩
          replace HV := Lib.hid (HV.out.on hb)
          replace HX := Lib.hid (HX.out.below hb)
          replace HY := Lib.hid (HY.out.below hb)
          replace HB := Lib.hid (belT HB.out hb)
          clear hb
          clear c0 c1 c2
          obtain ⟨d0, d1, d2⟩ := HY.out.cells
          go_wp2_with fail
          (with_reducible refine (H2.out _).mono ?_)
          rintro e w4 ⟨rfl, hb⟩
          replace HV := Lib.hid (HV.out.on hb)
          replace HX := Lib.hid (HX.out.below hb)
          replace HY := Lib.hid (HY.out.below hb)
          replace HB := Lib.hid (belT HB.out hb)
          clear hb
          clear d0 d1 d2
          obtain ⟨c0, c1, c2⟩ := HX.out.cells
          obtain ⟨d0, d1, d2⟩ := HY.out.cells
          go_wp2_with fail
          (with_reducible refine (H3.out _).mono ?_)
          rintro e w5 ⟨rfl, hb⟩
          replace HV := Lib.hid (HV.out.on hb)
          replace HX := Lib.hid (HX.out.below hb)
          replace HY := Lib.hid (HY.out.below hb)
          replace HB := Lib.hid (belT HB.out hb)
          clear hb
          clear c0 c1 c2 d0 d1 d2
          obtain ⟨c0, c1, c2⟩ := HX.out.cells
          go_wp2_with fail
          (with_reducible refine (H4.out _).mono ?_)
          rintro e w6 ⟨rfl, hb⟩
          replace HV := Lib.hid (HV.out.on hb)
          replace HX := Lib.hid (HX.out.below hb)
          replace HY := Lib.hid (HY.out.below hb)
          replace HB := Lib.hid (belT HB.out hb)
          clear hb
          clear c0 c1 c2
          obtain ⟨c0, c1, c2⟩ := HX.out.cells
          have hlt := HX.out.lt
          have hne : w.heap.size ≠ w6.heap.size := Nat.ne_of_lt hlt
          have HBA := Lib.hid (bel1 w6 (.cells #[.int .i64 a0, .int .i64 a1, .int .i64 a2] 23))
          go_wp2_with fail
          replace HV := Lib.hid (HV.out.on HBA.out)
          replace HX := Lib.hid (HX.out.below HBA.out)
          replace HY := Lib.hid (HY.out.below HBA.out)
          replace HB := Lib.hid (belT HB.out HBA.out)
          clear HBA c0 c1 c2 hlt hne
          (with_reducible refine (H5.out _ HV.out).mono ?_)
          rintro e w7 ⟨rfl, hb⟩
          replace HV := Lib.hid (HV.out.on hb)
          replace HX := Lib.hid (HX.out.below hb)
          replace HY := Lib.hid (HY.out.below hb)
          replace HB := Lib.hid (belT HB.out hb)
          clear hb
          go_wp2_with fail
          (with_reducible refine (H6.out _ HV.out).mono ?_)
          rintro e w8 ⟨rfl, hb⟩
          replace HV := Lib.hid (HV.out.on hb)
          replace HX := Lib.hid (HX.out.below hb)
          replace HY := Lib.hid (HY.out.below hb)
          replace HB := Lib.hid (belT HB.out hb)
          clear hb
          go_wp2_with fail
          (with_reducible refine (K1.out _ HV.out).mono ?_)
          rintro e w9 ⟨rfl, hb⟩
          replace HV := Lib.hid (HV.out.on hb)
          replace HX := Lib.hid (HX.out.below hb)
          replace HY := Lib.hid (HY.out.below hb)
          replace HB := Lib.hid (belT HB.out hb)
          clear hb
          go_wp2_with fail
          (with_reducible refine (K2.out _ HV.out).mono ?_)
          rintro e w10 ⟨rfl, hb⟩
          replace HV := Lib.hid (HV.out.on hb)
          replace HX := Lib.hid (HX.out.below hb)
          replace HY := Lib.hid (HY.out.below hb)
          replace HB := Lib.hid (belT HB.out hb)
          clear hb
          go_wp2_with fail
          (with_reducible refine (K3.out _ HV.out).mono ?_)
          rintro e w11 ⟨rfl, hb⟩
          replace HV := Lib.hid (HV.out.on hb)
          replace HX := Lib.hid (HX.out.below hb)
          replace HY := Lib.hid (HY.out.below hb)
          replace HB := Lib.hid (belT HB.out hb)
          clear hb
          go_wp2_with fail
          (with_reducible refine (H7.out _ HV.out).mono ?_)
          rintro e w12 ⟨rfl, hb⟩
          replace HV := Lib.hid (HV.out.on hb)
          replace HX := Lib.hid (HX.out.below hb)
          replace HY := Lib.hid (HY.out.below hb)
          replace HB := Lib.hid (belT HB.out hb)
          clear hb
          go_wp2_with fail
          (with_reducible refine (H9.out _).mono ?_)
          rintro e w13 ⟨x9, rfl, hE, hb⟩
          replace HV := Lib.hid (HV.out.on hb)
          replace HX := Lib.hid (HX.out.below hb)
          replace HY := Lib.hid (HY.out.below hb)
          replace HB := Lib.hid (belT HB.out hb)
          have Hx9 := Lib.hid hE
          clear hE
          clear hb
          go_wp2_with fail
          (with_reducible refine (H8.out _ HV.out).mono ?_)
          rintro e w14 ⟨x8, rfl, hE, hb⟩
          replace HV := Lib.hid (HV.out.on hb)
          replace HX := Lib.hid (HX.out.below hb)
          replace HY := Lib.hid (HY.out.below hb)
          replace Hx9 := Lib.hid (Hx9.out.on hb)
          replace HB := Lib.hid (belT HB.out hb)
          have Hx8 := Lib.hid hE
          clear hE
          clear hb
          go_wp2_with fail
          (with_reducible refine (H10.out _ _ _ Hx9.out Hx8.out).mono ?_)
          rintro e w15 ⟨rfl, hb⟩
          replace HV := Lib.hid (HV.out.on hb)
          replace HX := Lib.hid (HX.out.below hb)
          replace HY := Lib.hid (HY.out.below hb)
          replace Hx9 := Lib.hid (Hx9.out.on hb)
          replace Hx8 := Lib.hid (Hx8.out.on hb)
          replace HB := Lib.hid (belT HB.out hb)
          clear hb
          go_wp2_with fail
          go_ret
          exact ⟨rfl, HB.out⟩
end Go.Proofs.YtdhihdiifgcfdaaGreatDoor
