/- The law GraphReaches returns true. -/
import Derived.Test.YtlcgbkeggmaljaaGReaches
namespace Go.Proofs.Ytlcgbkeggmaljaa
set_option linter.unusedVariables false
set_option linter.unusedSimpArgs false
open Go Go.RowKit

set_option maxRecDepth 100000 in
set_option maxHeartbeats 4000000 in
theorem GraphReaches_any (a : Option Addr) (c : Nat) (ev lv : Value) (ns : List ByteArray) (es : List (Int × Int)) (fr : List Int) (x y : Int) (w : World) (hE : EdgesOf w.heap.size ev es w) (hR : RowOf Value.string w.heap.size (.slice a ns.length c) ns w) (hL : RowOf intC w.heap.size lv fr w) :
    Calls Try.prog 3 #[.agg #[.slice a ns.length c, ev], lv, .int .i64 x, .int .i64 y] w fun e w' => e = .returned (.bool true) ∧ Below w.heap.size w w' := by
  obtain ⟨la, lc, rfl, _⟩ := rowOf_open hL
  have hE0 := hE
  obtain ⟨ao, ec, rfl, _⟩ := hE
  have HE := Lib.hid hE0
  have HR := Lib.hid hR
  have HL := Lib.hid hL
  have HB0 : Hid (Below w.heap.size w (w.alloc (.cells #[.slice a ns.length c, .slice ao es.length ec] 25))) := Lib.hid (bel_alloc _ _)
  have HG0 : Hid ((w.alloc (.cells #[.slice a ns.length c, .slice ao es.length ec] 25)).heap[w.heap.size]? = some (.cells #[.slice a ns.length c, .slice ao es.length ec] 25 (0, 0))) := Lib.hid (World.alloc_heap_new w _)
  have HAW := Lib.hid (awake_any (w.alloc (.cells #[.slice a ns.length c, .slice ao es.length ec] 25)))
  clear hE0 hR hL
  go_enter Try.func3, Try.ntmps3
  go_wp2_with fail
  refine HAW.out.mono ?_
  rintro e w1 ⟨rfl, hb1⟩
  have hs1 := hb1.size
  simp only [World.size_alloc] at hs1
  have HG1 := Lib.hid ((hb1.block w.heap.size (by simp)).trans HG0.out)
  have HB1 := Lib.hid (HB0.out.trans (hb1.mono (by simp)))
  have hg0 : w1.cell? ⟨w.heap.size, 0, none⟩ = some (.slice a ns.length c) := cell_of_row _ _ 0 _ _ _ HG1.out
  have hg1 : w1.cell? ⟨w.heap.size, 1, none⟩ = some (.slice ao es.length ec) := cell_of_row _ _ 1 _ _ _ HG1.out
  have HFW := Lib.hid (Few_any a ao ns.length c es.length ec w1)
  clear hb1 HAW
  go_wp2_with fail
  refine HFW.out.mono ?_
  rintro e w2 ⟨rfl, hb2⟩
  have hs2 := hb2.size
  have HG2 := Lib.hid ((hb2.block w.heap.size (by omega)).trans HG1.out)
  have HB2 := Lib.hid (HB1.out.trans (hb2.mono (by omega)))
  have hg0 : w2.cell? ⟨w.heap.size, 0, none⟩ = some (.slice a ns.length c) := cell_of_row _ _ 0 _ _ _ HG2.out
  have hg1 : w2.cell? ⟨w.heap.size, 1, none⟩ = some (.slice ao es.length ec) := cell_of_row _ _ 1 _ _ _ HG2.out
  clear hb2 HFW
  by_cases hf : (decide (ns.length ≤ 14) && decide (es.length ≤ 60)) = true
  case neg =>
    have hf2 : (decide (ns.length ≤ 14) && decide (es.length ≤ 60)) = false := by simpa using hf
    rw [hf2]
    clear hf hf2
    go_wp2_with fail
    go_ret
    exact ⟨rfl, HB2.out⟩
  case pos =>
    have hN : ns.length ≤ 14 := by rw [Bool.and_eq_true] at hf; exact of_decide_eq_true hf.1
    have hes : es.length ≤ 60 := by rw [Bool.and_eq_true] at hf; exact of_decide_eq_true hf.2
    rw [hf]
    clear hf
    by_cases hl : fr.length ≤ 20
    case neg =>
      have hl2 : (20 : Int) < (fr.length : Int) := by omega
      have hl3 : decide ((20 : Int) < (fr.length : Int)) = true := decide_eq_true hl2
      go_wp2_with fail
      go_ret
      exact ⟨rfl, HB2.out⟩
    case pos =>
      have hl2 : ¬ (20 : Int) < (fr.length : Int) := by omega
      have hl3 : decide ((20 : Int) < (fr.length : Int)) = false := decide_eq_false hl2
      have HE2 := (HE.out.below HB2.out (Nat.le_refl _)).mono (B' := w2.heap.size) (by omega)
      have HR2 := (HR.out.below HB2.out (Nat.le_refl _)).mono (B' := w2.heap.size) (by omega)
      have HL2 := (HL.out.below HB2.out (Nat.le_refl _)).mono (B' := w2.heap.size) (by omega)
      have C1 := Lib.hid (reach_con a ns.length c _ _ es fr w2 (by omega) (by omega) HE2 (by omega) HL2)
      have C2 := Lib.hid (rreach_con a ns.length c _ _ es fr w2 (by omega) (by omega) HE2 (by omega) HL2)
      have C3 := Lib.hid (path_con a c _ ns es x y w2 (by omega) (by omega) HE2 HR2)
      have C4 := Lib.hid (rpath_con a ns.length c _ es x y w2 (by omega) (by omega) HE2)
      clear HE2 HR2 HL2
      go_wp2_with fail
      refine region_plainP (S := HeldC ⟨w.heap.size, 0, none⟩ ⟨w.heap.size, 1, none⟩ (.slice a ns.length c) (.slice ao es.length ec)) (by kernel_rfl) ?_
      have HSC : Hid (∀ W : World, Below w2.heap.size w2 W → HeldC ⟨w.heap.size, 0, none⟩ ⟨w.heap.size, 1, none⟩ (.slice a ns.length c) (.slice ao es.length ec) W) := Lib.hid fun W hW => ⟨cell_of_row _ _ 0 _ _ _ ((hW.block _ (by omega)).trans HG2.out), cell_of_row _ _ 1 _ _ _ ((hW.block _ (by omega)).trans HG2.out)⟩
      have HBd : Hid (Below w2.heap.size w2 w2.drew) := Lib.hid (Below.refl _ _).drew
      have hSd := HSC.out _ HBd.out
      (refine wpAnyH_take (i := 0) (v := ?_) rfl (by kernel_rfl) (by kernel_rfl) (by kernel_rfl) (fun _ _ _ h => h) (Or.inl ⟨by rfl, ?_⟩) (by assumption) ?_; rotate_left; (· (intro w hSw; obtain ⟨c0, c1⟩ := hSw; go_simp; try with_reducible rfl)); (try simp only [List.getElem_toArray, List.getElem_cons_zero, List.getElem_cons_succ, Act.put, List.setIfInBounds_toArray, List.set_cons_zero, List.set_cons_succ]))
      (refine wpAnyH_take (i := 1) (v := ?_) rfl (by kernel_rfl) (by kernel_rfl) (by kernel_rfl) (fun _ _ _ h => h) (Or.inl ⟨by rfl, ?_⟩) (by assumption) ?_; rotate_left; (· (intro w hSw; obtain ⟨c0, c1⟩ := hSw; go_simp; try with_reducible rfl)); (try simp only [List.getElem_toArray, List.getElem_cons_zero, List.getElem_cons_succ, Act.put, List.setIfInBounds_toArray, List.set_cons_zero, List.set_cons_succ]))
      (refine wpAnyH_take (i := 3) (v := ?_) rfl (by kernel_rfl) (by kernel_rfl) (by kernel_rfl) (fun _ _ _ h => h) (Or.inl ⟨by rfl, ?_⟩) (by assumption) ?_; rotate_left; (· (intro w hSw; obtain ⟨c0, c1⟩ := hSw; go_simp; try with_reducible rfl)); (try simp only [List.getElem_toArray, List.getElem_cons_zero, List.getElem_cons_succ, Act.put, List.setIfInBounds_toArray, List.set_cons_zero, List.set_cons_succ]))
      (refine wpAnyH_take (i := 4) (v := ?_) rfl (by kernel_rfl) (by kernel_rfl) (by kernel_rfl) (fun _ _ _ h => h) (Or.inl ⟨by rfl, ?_⟩) (by assumption) ?_; rotate_left; (· (intro w hSw; obtain ⟨c0, c1⟩ := hSw; go_simp; try with_reducible rfl)); (try simp only [List.getElem_toArray, List.getElem_cons_zero, List.getElem_cons_succ, Act.put, List.setIfInBounds_toArray, List.set_cons_zero, List.set_cons_succ]))
      refine wpAnyH_ready (rs := [2]) (by kernel_rfl) (by simp) (AllReadyH.cons rfl (fun K hK => ?_) AllReadyH.nil)
      go_simp
      refine (C1.out _ HBd.out).mono ?_
      rintro e w3 ⟨v3, lw3, rfl, hpw3, hrw3, hnw3, hbw3⟩
      have HBw3 := Lib.hid (HBd.out.trans (hbw3.mono HBd.out.size))
      have HPw3 := Lib.hid hpw3
      have HRRw3 := Lib.hid hrw3
      have HBBw3 := Lib.hid hbw3
      obtain ⟨aw3, cw3, hvw3, _⟩ := rowOf_open hrw3
      rw [List.length_map] at hvw3
      subst hvw3
      have hSw3 := HSC.out _ HBw3.out
      clear hpw3 hrw3 hbw3
      try go_simp
      refine hK.out _ _ hSw3 (fun _ => ?_)
      clear hK K
      (try simp only [List.getElem_toArray, List.getElem_cons_zero, List.getElem_cons_succ, Act.put, List.setIfInBounds_toArray, List.set_cons_zero, List.set_cons_succ])
      refine wpAnyH_ready (rs := [5]) (by kernel_rfl) (by simp) (AllReadyH.cons rfl (fun K hK => ?_) AllReadyH.nil)
      go_simp
      refine (C2.out _ HBw3.out).mono ?_
      rintro e w4 ⟨v4, lw4, rfl, hpw4, hrw4, hnw4, hbw4⟩
      have HBw4 := Lib.hid (HBw3.out.trans (hbw4.mono HBw3.out.size))
      have HPw4 := Lib.hid hpw4
      have HRRw4 := Lib.hid hrw4
      have HBBw4 := Lib.hid hbw4
      obtain ⟨aw4, cw4, hvw4, _⟩ := rowOf_open hrw4
      rw [List.length_map] at hvw4
      subst hvw4
      have hSw4 := HSC.out _ HBw4.out
      clear hpw4 hrw4 hbw4
      try go_simp
      refine hK.out _ _ hSw4 (fun _ => ?_)
      clear hK K
      (try simp only [List.getElem_toArray, List.getElem_cons_zero, List.getElem_cons_succ, Act.put, List.setIfInBounds_toArray, List.set_cons_zero, List.set_cons_succ])
      have hlw5 : lw4 = lw3 := reachP_unique HPw4.out HPw3.out
      subst hlw5
      have heqw5 := Equal_ints _ _ _ _ w4 ((HRRw3.out.below HBBw4.out (Nat.le_refl _)).mono HBBw4.out.size) HRRw4.out (by rw [List.length_map]; exact hnw3) (by rw [List.length_map]; exact hnw3)
      rw [decide_eq_true rfl] at heqw5
      have HEQw5 := Lib.hid heqw5
      clear heqw5
      refine wpAnyH_ready (rs := [6]) (by kernel_rfl) (by simp) (AllReadyH.cons rfl (fun K hK => ?_) AllReadyH.nil)
      go_simp
      refine HEQw5.out.mono ?_
      rintro e w5 ⟨rfl, q5, rfl⟩
      have HBw5 : Hid (Below w2.heap.size w2 (w4.drewN q5)) := Lib.hid (below_drewN HBw4.out q5)
      have hSw5 := HSC.out _ HBw5.out
      try go_simp
      refine hK.out _ _ hSw5 (fun _ => ?_)
      clear hK K
      (try simp only [List.getElem_toArray, List.getElem_cons_zero, List.getElem_cons_succ, Act.put, List.setIfInBounds_toArray, List.set_cons_zero, List.set_cons_succ])
      (refine wpAnyH_take (i := 7) (v := ?_) rfl (by kernel_rfl) (by kernel_rfl) (by kernel_rfl) (fun _ _ _ h => h) (Or.inl ⟨by rfl, ?_⟩) (by assumption) ?_; rotate_left; (· (intro w hSw; obtain ⟨c0, c1⟩ := hSw; go_simp; try with_reducible rfl)); (try simp only [List.getElem_toArray, List.getElem_cons_zero, List.getElem_cons_succ, Act.put, List.setIfInBounds_toArray, List.set_cons_zero, List.set_cons_succ]))
      (refine wpAnyH_take (i := 8) (v := ?_) rfl (by kernel_rfl) (by kernel_rfl) (by kernel_rfl) (fun _ _ _ h => h) (Or.inl ⟨by rfl, ?_⟩) (by assumption) ?_; rotate_left; (· (intro w hSw; obtain ⟨c0, c1⟩ := hSw; go_simp; try with_reducible rfl)); (try simp only [List.getElem_toArray, List.getElem_cons_zero, List.getElem_cons_succ, Act.put, List.setIfInBounds_toArray, List.set_cons_zero, List.set_cons_succ]))
      (refine wpAnyH_take (i := 9) (v := ?_) rfl (by kernel_rfl) (by kernel_rfl) (by kernel_rfl) (fun _ _ _ h => h) (Or.inl ⟨by rfl, ?_⟩) (by assumption) ?_; rotate_left; (· (intro w hSw; obtain ⟨c0, c1⟩ := hSw; go_simp; try with_reducible rfl)); (try simp only [List.getElem_toArray, List.getElem_cons_zero, List.getElem_cons_succ, Act.put, List.setIfInBounds_toArray, List.set_cons_zero, List.set_cons_succ]))
      (refine wpAnyH_take (i := 10) (v := ?_) rfl (by kernel_rfl) (by kernel_rfl) (by kernel_rfl) (fun _ _ _ h => h) (Or.inl ⟨by rfl, ?_⟩) (by assumption) ?_; rotate_left; (· (intro w hSw; obtain ⟨c0, c1⟩ := hSw; go_simp; try with_reducible rfl)); (try simp only [List.getElem_toArray, List.getElem_cons_zero, List.getElem_cons_succ, Act.put, List.setIfInBounds_toArray, List.set_cons_zero, List.set_cons_succ]))
      (refine wpAnyH_take (i := 12) (v := ?_) rfl (by kernel_rfl) (by kernel_rfl) (by kernel_rfl) (fun _ _ _ h => h) (Or.inl ⟨by rfl, ?_⟩) (by assumption) ?_; rotate_left; (· (intro w hSw; obtain ⟨c0, c1⟩ := hSw; go_simp; try with_reducible rfl)); (try simp only [List.getElem_toArray, List.getElem_cons_zero, List.getElem_cons_succ, Act.put, List.setIfInBounds_toArray, List.set_cons_zero, List.set_cons_succ]))
      (refine wpAnyH_take (i := 13) (v := ?_) rfl (by kernel_rfl) (by kernel_rfl) (by kernel_rfl) (fun _ _ _ h => h) (Or.inl ⟨by rfl, ?_⟩) (by assumption) ?_; rotate_left; (· (intro w hSw; obtain ⟨c0, c1⟩ := hSw; go_simp; try with_reducible rfl)); (try simp only [List.getElem_toArray, List.getElem_cons_zero, List.getElem_cons_succ, Act.put, List.setIfInBounds_toArray, List.set_cons_zero, List.set_cons_succ]))
      (refine wpAnyH_take (i := 14) (v := ?_) rfl (by kernel_rfl) (by kernel_rfl) (by kernel_rfl) (fun _ _ _ h => h) (Or.inl ⟨by rfl, ?_⟩) (by assumption) ?_; rotate_left; (· (intro w hSw; obtain ⟨c0, c1⟩ := hSw; go_simp; try with_reducible rfl)); (try simp only [List.getElem_toArray, List.getElem_cons_zero, List.getElem_cons_succ, Act.put, List.setIfInBounds_toArray, List.set_cons_zero, List.set_cons_succ]))
      refine wpAnyH_ready (rs := [11]) (by kernel_rfl) (by simp) (AllReadyH.cons rfl (fun K hK => ?_) AllReadyH.nil)
      go_simp
      refine (C3.out _ HBw5.out).mono ?_
      rintro e w6 ⟨v6, lw6, rfl, hpw6, hrw6, hnw6, hbw6⟩
      have HBw6 := Lib.hid (HBw5.out.trans (hbw6.mono HBw5.out.size))
      have HPw6 := Lib.hid hpw6
      have HRRw6 := Lib.hid hrw6
      have HBBw6 := Lib.hid hbw6
      obtain ⟨aw6, cw6, hvw6, _⟩ := rowOf_open hrw6
      rw [List.length_map] at hvw6
      subst hvw6
      have hSw6 := HSC.out _ HBw6.out
      clear hpw6 hrw6 hbw6
      try go_simp
      refine hK.out _ _ hSw6 (fun _ => ?_)
      clear hK K
      (try simp only [List.getElem_toArray, List.getElem_cons_zero, List.getElem_cons_succ, Act.put, List.setIfInBounds_toArray, List.set_cons_zero, List.set_cons_succ])
      refine wpAnyH_ready (rs := [15]) (by kernel_rfl) (by simp) (AllReadyH.cons rfl (fun K hK => ?_) AllReadyH.nil)
      go_simp
      refine (C4.out _ HBw6.out).mono ?_
      rintro e w7 ⟨v7, lw7, rfl, hpw7, hrw7, hnw7, hbw7⟩
      have HBw7 := Lib.hid (HBw6.out.trans (hbw7.mono HBw6.out.size))
      have HPw7 := Lib.hid hpw7
      have HRRw7 := Lib.hid hrw7
      have HBBw7 := Lib.hid hbw7
      obtain ⟨aw7, cw7, hvw7, _⟩ := rowOf_open hrw7
      rw [List.length_map] at hvw7
      subst hvw7
      have hSw7 := HSC.out _ HBw7.out
      clear hpw7 hrw7 hbw7
      try go_simp
      refine hK.out _ _ hSw7 (fun _ => ?_)
      clear hK K
      (try simp only [List.getElem_toArray, List.getElem_cons_zero, List.getElem_cons_succ, Act.put, List.setIfInBounds_toArray, List.set_cons_zero, List.set_cons_succ])
      have hlw8 : lw7 = lw6 := HPw7.out.trans HPw6.out.symm
      subst hlw8
      have heqw8 := Equal_ints _ _ _ _ w7 ((HRRw6.out.below HBBw7.out (Nat.le_refl _)).mono HBBw7.out.size) HRRw7.out (by rw [List.length_map]; exact hnw6) (by rw [List.length_map]; exact hnw6)
      rw [decide_eq_true rfl] at heqw8
      have HEQw8 := Lib.hid heqw8
      clear heqw8
      refine wpAnyH_ready (rs := [16]) (by kernel_rfl) (by simp) (AllReadyH.cons rfl (fun K hK => ?_) AllReadyH.nil)
      go_simp
      refine HEQw8.out.mono ?_
      rintro e w8 ⟨rfl, q8, rfl⟩
      have HBw8 : Hid (Below w2.heap.size w2 (w7.drewN q8)) := Lib.hid (below_drewN HBw7.out q8)
      have hSw8 := HSC.out _ HBw8.out
      try go_simp
      refine hK.out _ _ hSw8 (fun _ => ?_)
      clear hK K
      (try simp only [List.getElem_toArray, List.getElem_cons_zero, List.getElem_cons_succ, Act.put, List.setIfInBounds_toArray, List.set_cons_zero, List.set_cons_succ])
      (refine wpAnyH_take (i := 17) (v := ?_) rfl (by kernel_rfl) (by kernel_rfl) (by kernel_rfl) (fun _ _ _ h => h) (Or.inl ⟨by rfl, ?_⟩) (by assumption) ?_; rotate_left; (· (intro w hSw; obtain ⟨c0, c1⟩ := hSw; go_simp; try with_reducible rfl)); (try simp only [List.getElem_toArray, List.getElem_cons_zero, List.getElem_cons_succ, Act.put, List.setIfInBounds_toArray, List.set_cons_zero, List.set_cons_succ]))
      (refine wpAnyH_take (i := 18) (v := ?_) rfl (by kernel_rfl) (by kernel_rfl) (by kernel_rfl) (fun _ _ _ h => h) (Or.inl ⟨by rfl, ?_⟩) (by assumption) ?_; rotate_left; (· (intro w hSw; obtain ⟨c0, c1⟩ := hSw; go_simp; try with_reducible rfl)); (try simp only [List.getElem_toArray, List.getElem_cons_zero, List.getElem_cons_succ, Act.put, List.setIfInBounds_toArray, List.set_cons_zero, List.set_cons_succ]))
      refine wpAnyH_done (by kernel_rfl) ?_ _
      refine NoPanic.normal ?_
      go_wp2_with fail
      go_ret
      exact ⟨rfl, HB2.out.trans (HBw8.out.mono (by omega))⟩
end Go.Proofs.Ytlcgbkeggmaljaa
