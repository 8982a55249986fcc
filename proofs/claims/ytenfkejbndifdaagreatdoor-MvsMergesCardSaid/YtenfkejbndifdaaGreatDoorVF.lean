/- Contract of the reference's CheckRequirements. Contract of the reference's release. -/
import Derived.Test.YtenfkejbndifdaaGreatDoorVE
namespace Go.Proofs.YtenfkejbndifdaaGreatDoor
set_option linter.unusedVariables false
set_option linter.unusedSimpArgs false
open Go Go.RowKit

theorem maj_pos (s : ByteArray) : 0 ≤ majN s := by
  unfold majN
  split
  · unfold verN
    split
    · rename_i h
      unfold verOk okR at h
      simp only [Bool.and_eq_true] at h
      have h2 := h.2.2.2.2
      refine (valL_lt _ (fun b hb => ?_)).1
      unfold allZ at h2
      have h3 := List.all_eq_true.1 h2 b (by unfold tailS; simpa using hb)
      exact h3
    · decide
  · decide
theorem line_pos {s : ByteArray} (h : (lineV s).2.2 = 0) : 0 ≤ majV s := by
  unfold majV
  rw [if_neg (fun e => e h)]
  unfold lineV at h ⊢
  split at h
  · rename_i hp
    rw [if_pos hp]
    exact maj_pos s
  · exact absurd h (by decide)
theorem maj_neg {s : ByteArray} (h : (lineV s).2.2 ≠ 0) : majV s = -1 := by unfold majV; rw [if_pos h]
set_option maxRecDepth 100000 in
set_option maxHeartbeats 8000000 in
theorem rCheckReqs_any (v : Value) (l : List ReqL) (w : World) (hl : l.length ≤ 1000000) (hq : ∀ q ∈ l, q.1.size ≤ 1000000 ∧ q.2.length ≤ 1000000) (hR : ReqsOf w.heap.size v l w) :
    Calls Tryz.prog 77 #[v] w fun e w' => e = .returned (.int .i64 (checkReqs l)) ∧ Below w.heap.size w w' := by
  obtain ⟨ao, cap, rfl, hR⟩ := hR
  have HR := Lib.hid hR
  have HQ := Lib.hid hq
  clear hR hq
  obtain ⟨E, hE⟩ : ∃ E, checkReqs l = E := ⟨_, rfl⟩
  have HE := Lib.hid hE
  rw [hE]
  clear hE
  by_cases h16 : 16 < l.length
  · have h16a : (16 : Int) < (l.length : Int) := by omega
    have h16b : decide ((16 : Int) < (l.length : Int)) = true := decide_eq_true h16a
    have HX := Lib.hid (show E = 7 by rw [← HE.out]; unfold checkReqs; rw [if_pos h16])
    go_enter Tryz.func77, Tryz.ntmps77
    go_wp2_with fail
    go_ret
    exact ⟨by rw [HX.out]; rfl, Below.refl _ _⟩
  have h16a : ¬ ((16 : Int) < (l.length : Int)) := by omega
  have h16b : decide ((16 : Int) < (l.length : Int)) = false := decide_eq_false h16a
  have HF := Lib.hid (show E = firstE l.length fun k => reqE (l.getD k default) (beforeQ l k) by rw [← HE.out]; unfold checkReqs; rw [if_neg h16])
  go_enter Tryz.func77, Tryz.ntmps77
  go_wp2_with fail
  go_loopw [3] (fun p wr => ∃ k : Nat, k ≤ l.length ∧ p = .int .i64 k ∧ Hid (∀ j, j < k → reqE (l.getD j default) (beforeQ l j) = 0) ∧ Hid (Below w.heap.size w wr)) (fun p _ => l.length - (intOf p).toNat)
  case atStart => exact ⟨0, Nat.zero_le _, rfl, Lib.hid (fun j hj => absurd hj (Nat.not_lt_zero _)), Lib.hid (Below.refl _ _)⟩
  case round =>
    obtain ⟨k, hk, rfl, HZ, HB⟩ := hrel
    by_cases hlt : k < l.length
    case neg =>
      have hk2 : k = l.length := by omega
      subst hk2
      have HX := Lib.hid (show E = 0 by rw [HF.out]; exact firstE_none fun j hj => HZ.out j hj)
      go_wp2_with fail
      go_ret
      exact ⟨by rw [HX.out]; rfl, HB.out⟩
    case pos =>
      have hlt2 : (k : Int) < (l.length : Int) := by omega
      have hk0 : (0 : Int) ≤ (k : Int) := by omega
      obtain ⟨b, off, r, rfl, hbl, hc0, hc1, hsp⟩ := HR.out k l[k] (by simp [hlt])
      have hgd : l.getD k default = l[k] := by rw [List.getD_eq_getElem?_getD, List.getElem?_eq_getElem hlt]; rfl
      have hd0 := (HB.out.cell (p := ⟨b, off + k * 2, none⟩) hbl).trans hc0
      obtain ⟨q1, q2⟩ := HQ.out l[k] (List.getElem_mem hlt)
      obtain ⟨⟨p, s⟩, hps⟩ : ∃ z, l[k] = z := ⟨_, rfl⟩
      rw [hps] at hgd hc0 hd0 q1 q2 hsp
      have HGD := Lib.hid hgd
      have HC0 := Lib.hid hc0
      have HC1 := Lib.hid hc1
      have HSP := Lib.hid hsp
      simp only at hd0 q1 q2
      clear hgd hc0 hc1 hps
      obtain ⟨sa, sc, hr, _⟩ := hsp
      simp only at hr
      subst hr
      have hbw : b < wr.heap.size := Nat.lt_of_lt_of_le hbl HB.out.size
      have HM := Lib.hid (rmajor32_any p wr q1)
      have HFK := Lib.hid (show reqE (p, s) (beforeQ l k) ≠ 0 → E = reqE (p, s) (beforeQ l k) from fun h => by
        have e1 : reqE (l.getD k default) (beforeQ l k) = reqE (p, s) (beforeQ l k) := by rw [HGD.out]
        rw [HF.out, firstE_at hlt (fun j hj => HZ.out j hj) (by rw [e1]; exact h), e1])
      have HZK := Lib.hid (show reqE (p, s) (beforeQ l k) = 0 → ∀ j, j < k + 1 → reqE (l.getD j default) (beforeQ l j) = 0 from fun h j hj => by
        by_cases e : j = k
        · rw [e, HGD.out]; exact h
        · exact HZ.out j (by omega))
      by_cases hle : (lineV p).2.2 = 0
      case neg =>
        rw [maj_neg hle] at HM
        have HE4 := Lib.hid (show reqE (p, s) (beforeQ l k) = 4 by unfold reqE; rw [if_pos hle])
        have HX := Lib.hid (show E = 4 by rw [HFK.out (by rw [HE4.out]; decide), HE4.out])
        go_wp2_with fail
        refine HM.out.mono ?_
        rintro e w1 ⟨rfl, hb1⟩
        have HB1 := Lib.hid (HB.out.trans (hb1.mono HB.out.size))
        clear hb1
        go_wp2_with fail
        go_ret
        exact ⟨by rw [HX.out]; rfl, HB1.out⟩
      have HLE := Lib.hid hle
      have hmj := line_pos hle
      generalize majV p = mj at *
      have hmj2 : decide (mj < 0) = false := decide_eq_false (by omega)
      have hmj3 : ¬ mj < 0 := by omega
      clear hle
      go_wp2_with fail
      refine HM.out.mono ?_
      rintro e w1 ⟨rfl, hb1⟩
      have HB1 := Lib.hid (HB.out.trans (hb1.mono HB.out.size))
      have hs1 := hb1.size
      clear hb1 hd0 HM
      have hd0 := (HB1.out.cell (p := ⟨b, off + k * 2, none⟩) hbl).trans HC0.out
      have hd1 := (HB1.out.cell (p := ⟨b, off + k * 2 + 1, none⟩) hbl).trans HC1.out
      try simp only at hd0 hd1
      have hbw1 : b < w1.heap.size := by omega
      have HRC := Lib.hid (fun (wx : World) (h : Below w1.heap.size w1 wx) => rCanonical_any (.slice sa s.length sc) s wx q2 (((HSP.out.below HB1.out (Nat.le_refl _)).mono HB1.out.size).below h (Nat.le_refl _) |>.mono h.size))
      have HSM := Lib.hid (fun (wx : World) (v' : Value) (h : Below w1.heap.size w1 wx) (h2 : SpansOf wx.heap.size v' (canon s) wx) => SameS_any (.slice sa s.length sc) v' s (canon s) wx (by omega) (Nat.le_trans (canon_len _) (by omega)) ((((HSP.out.below HB1.out (Nat.le_refl _)).mono HB1.out.size).below h (Nat.le_refl _)).mono h.size) h2)
      have HBC : Hid (Below w1.heap.size w1 w1) := Lib.hid (Below.refl _ _)
      have HSQ : Hid (∀ W', Below w1.heap.size w1 W' → HeldC ⟨b, off + k * 2, none⟩ ⟨b, off + k * 2 + 1, none⟩ (.string p) (.slice sa s.length sc) W') := Lib.hid (fun W' hb => ⟨(hb.cell (p := ⟨b, off + k * 2, none⟩) hbw1).trans hd0, (hb.cell (p := ⟨b, off + k * 2 + 1, none⟩) hbw1).trans hd1⟩)
      go_upto_region 8 with fail
      by_cases h2 : s = []
      · subst h2
        have HE1 := Lib.hid (show reqE (p, []) (beforeQ l k) = 1 by unfold reqE; rw [if_neg (by rw [HLE.out]; simp), if_pos (.inl rfl)])
        have HX := Lib.hid (show E = 1 by rw [HFK.out (by rw [HE1.out]; decide), HE1.out])
        simp only [List.length_nil] at *
        refine wp_region_noPanic ?_
        refine wp_region_held_drew (S := HeldC ⟨b, off + k * 2, none⟩ ⟨b, off + k * 2 + 1, none⟩ (.string p) (.slice sa 0 sc)) (by kernel_rfl) ⟨hd0, hd1⟩ (fun hS0 => ?_)
        (refine zl3 0 ?_ rfl ?_ ?_; rotate_left; (· (rintro w ⟨c0, c1⟩; go_simp; try with_reducible rfl)); (try simp only [zl1]))
        (refine zl3 1 ?_ rfl ?_ ?_; rotate_left; (· (rintro w ⟨c0, c1⟩; go_simp; try with_reducible rfl)); (try simp only [zl1]))
        (refine zl3 2 ?_ rfl ?_ ?_; rotate_left; (· (rintro w ⟨c0, c1⟩; go_simp; try with_reducible rfl)); (try simp only [zl1]))
        (refine zl3 3 ?_ rfl ?_ ?_; rotate_left; (· (rintro w ⟨c0, c1⟩; go_simp; try with_reducible rfl)); (try simp only [zl1]))
        (refine zl3 4 ?_ rfl ?_ ?_; rotate_left; (· (rintro w ⟨c0, c1⟩; go_simp; try with_reducible rfl)); (try simp only [zl1]))
        (refine zl3 5 ?_ rfl ?_ ?_; rotate_left; (· (rintro w ⟨c0, c1⟩; go_simp; try with_reducible rfl)); (try simp only [zl1]))
        (refine zl3 6 ?_ rfl ?_ ?_; rotate_left; (· (rintro w ⟨c0, c1⟩; go_simp; try with_reducible rfl)); (try simp only [zl1]))
        (refine zl3 7 ?_ rfl ?_ ?_; rotate_left; (· (rintro w ⟨c0, c1⟩; go_simp; try with_reducible rfl)); (try simp only [zl1]))
        (refine zl2 (i := 8) (v := undef) rfl (Or.inr ⟨by rfl, rfl⟩) (by assumption) ?_; (try simp only [zl1]))
        (refine zl2 (i := 9) (v := undef) rfl (Or.inr ⟨by rfl, rfl⟩) (by assumption) ?_; (try simp only [zl1]))
        (refine zl2 (i := 10) (v := undef) rfl (Or.inr ⟨by rfl, rfl⟩) (by assumption) ?_; (try simp only [zl1]))
        (refine zl2 (i := 11) (v := undef) rfl (Or.inr ⟨by rfl, rfl⟩) (by assumption) ?_; (try simp only [zl1]))
        (refine zl2 (i := 12) (v := undef) rfl (Or.inr ⟨by rfl, rfl⟩) (by assumption) ?_; (try simp only [zl1]))
        (refine zl2 (i := 13) (v := undef) rfl (Or.inr ⟨by rfl, rfl⟩) (by assumption) ?_; (try simp only [zl1]))
        (refine zl2 (i := 14) (v := undef) rfl (Or.inr ⟨by rfl, rfl⟩) (by assumption) ?_; (try simp only [zl1]))
        (refine zl2 (i := 15) (v := undef) rfl (Or.inr ⟨by rfl, rfl⟩) (by assumption) ?_; (try simp only [zl1]))
        (refine zl2 (i := 16) (v := undef) rfl (Or.inr ⟨by rfl, rfl⟩) (by assumption) ?_; (try simp only [zl1]))
        (refine zl2 (i := 17) (v := undef) rfl (Or.inr ⟨by rfl, rfl⟩) (by assumption) ?_; (try simp only [zl1]))
        (refine zl2 (i := 18) (v := undef) rfl (Or.inr ⟨by rfl, rfl⟩) (by assumption) ?_; (try simp only [zl1]))
        (refine zl2 (i := 19) (v := undef) rfl (Or.inr ⟨by rfl, rfl⟩) (by assumption) ?_; (try simp only [zl1]))
        (refine zl2 (i := 20) (v := undef) rfl (Or.inr ⟨by rfl, rfl⟩) (by assumption) ?_; (try simp only [zl1]))
        (refine zl3 21 ?_ rfl ?_ ?_; rotate_left; (· (rintro w ⟨c0, c1⟩; go_simp; try with_reducible rfl)); (try simp only [zl1]))
        refine wpAnyH_done (by kernel_rfl) ?_ _
        refine NoPanic.normal ?_
        go_wp2_with fail
        go_ret
        exact ⟨by rw [HX.out]; rfl, HB1.out.drew⟩
      · have hl0 : ¬ s.length = 0 := fun e => h2 (List.length_eq_zero_iff.1 e)
        have hl1 : ¬ ((s.length : Int) = 0) := by omega
        have hl4 : ((s.length : Int) == 0) = false := beq_eq_false_iff_ne.2 (by omega)
        refine wp_region_noPanic ?_
        refine wp_region_held_drew (S := HeldC ⟨b, off + k * 2, none⟩ ⟨b, off + k * 2 + 1, none⟩ (.string p) (.slice sa s.length sc)) (by kernel_rfl) ⟨hd0, hd1⟩ (fun hS0 => ?_)
        (refine zl3 0 ?_ rfl ?_ ?_; rotate_left; (· (rintro w ⟨c0, c1⟩; go_simp; try with_reducible rfl)); (try simp only [zl1]))
        (refine zl3 1 ?_ rfl ?_ ?_; rotate_left; (· (rintro w ⟨c0, c1⟩; go_simp; try with_reducible rfl)); (try simp only [zl1]))
        (refine zl3 2 ?_ rfl ?_ ?_; rotate_left; (· (rintro w ⟨c0, c1⟩; go_simp; try with_reducible rfl)); (try simp only [zl1]))
        (refine zl3 3 ?_ rfl ?_ ?_; rotate_left; (· (rintro w ⟨c0, c1⟩; go_simp; try with_reducible rfl)); (try simp only [zl1]))
        (refine zl3 4 ?_ rfl ?_ ?_; rotate_left; (· (rintro w ⟨c0, c1⟩; go_simp; try with_reducible rfl)); (try simp only [zl1]))
        (refine zl3 5 ?_ rfl ?_ ?_; rotate_left; (· (rintro w ⟨c0, c1⟩; go_simp; try with_reducible rfl)); (try simp only [zl1]))
        (refine zl3 6 ?_ rfl ?_ ?_; rotate_left; (· (rintro w ⟨c0, c1⟩; go_simp; try with_reducible rfl)); (try simp only [zl1]))
        (refine zl3 7 ?_ rfl ?_ ?_; rotate_left; (· (rintro w ⟨c0, c1⟩; go_simp; try with_reducible rfl)); (try simp only [zl1]))
        (refine zl3 8 ?_ rfl ?_ ?_; rotate_left; (· (rintro w ⟨c0, c1⟩; go_simp; try with_reducible rfl)); (try simp only [zl1]))
        (refine zl3 9 ?_ rfl ?_ ?_; rotate_left; (· (rintro w ⟨c0, c1⟩; go_simp; try with_reducible rfl)); (try simp only [zl1]))
        (refine zl3 10 ?_ rfl ?_ ?_; rotate_left; (· (rintro w ⟨c0, c1⟩; go_simp; try with_reducible rfl)); (try simp only [zl1]))
        (refine zl3 11 ?_ rfl ?_ ?_; rotate_left; (· (rintro w ⟨c0, c1⟩; go_simp; try with_reducible rfl)); (try simp only [zl1]))
        (refine zl3 12 ?_ rfl ?_ ?_; rotate_left; (· (rintro w ⟨c0, c1⟩; go_simp; try with_reducible rfl)); (try simp only [zl1]))
        (refine zl3 13 ?_ rfl ?_ ?_; rotate_left; (· (rintro w ⟨c0, c1⟩; go_simp; try with_reducible rfl)); (try simp only [zl1]))
        (refine zl3 14 ?_ rfl ?_ ?_; rotate_left; (· (rintro w ⟨c0, c1⟩; go_simp; try with_reducible rfl)); (try simp only [zl1]))
        (refine zl3 15 ?_ rfl ?_ ?_; rotate_left; (· (rintro w ⟨c0, c1⟩; go_simp; try with_reducible rfl)); (try simp only [zl1]))
        (refine zl3 16 ?_ rfl ?_ ?_; rotate_left; (· (rintro w ⟨c0, c1⟩; go_simp; try with_reducible rfl)); (try simp only [zl1]))
        (refine zl3 17 ?_ rfl ?_ ?_; rotate_left; (· (rintro w ⟨c0, c1⟩; go_simp; try with_reducible rfl)); (try simp only [zl1]))
        refine wpAnyH_ready (rs := [18]) (by kernel_rfl) (by simp) (AllReadyH.cons rfl (fun K hK => ?_) AllReadyH.nil)
        go_simp
        refine (HRC.out _ HBC.out.drew).mono ?_
        rintro e wq ⟨v', rfl, hv', hbc⟩
        have HV := Lib.hid hv'
        replace HBC := Lib.hid (HBC.out.drew.trans (hbc.mono HBC.out.size))
        refine hK.out _ _ (HSQ.out _ HBC.out) (fun _ => ?_)
        clear hK K hS0 hbc hv'
        (try simp only [zl1])
        refine wpAnyH_ready (rs := [19]) (by kernel_rfl) (by simp) (AllReadyH.cons rfl (fun K hK => ?_) AllReadyH.nil)
        go_simp
        refine (HSM.out _ _ HBC.out HV.out).mono ?_
        rintro e w2 ⟨rfl, hbc⟩
        replace HBC := Lib.hid (HBC.out.trans (hbc.mono HBC.out.size))
        refine hK.out _ _ (HSQ.out _ HBC.out) (fun hS2 => ?_)
        clear hK K hbc
        (try simp only [zl1])
        (refine zl3 20 ?_ rfl ?_ ?_; rotate_left; (· (rintro w ⟨c0, c1⟩; go_simp; try with_reducible rfl)); (try simp only [zl1]))
        (refine zl3 21 ?_ rfl ?_ ?_; rotate_left; (· (rintro w ⟨c0, c1⟩; go_simp; try with_reducible rfl)); (try simp only [zl1]))
        refine wpAnyH_done (by kernel_rfl) ?_ _
        refine NoPanic.normal ?_
        have HB2 := Lib.hid (HB1.out.trans (HBC.out.mono HB1.out.size))
        obtain ⟨bq, hbq⟩ : ∃ bq, decide (s = canon s) = bq := ⟨_, rfl⟩
        have HBQ := Lib.hid hbq
        rw [hbq]
        clear hbq
        clear hd0 hd1 hl0 hl1 hl4 hbw hbw1 hS2
        cases bq with
        | false =>
          have HE1 := Lib.hid (show reqE (p, s) (beforeQ l k) = 1 by unfold reqE; rw [if_neg (by rw [HLE.out]; simp), if_pos (.inr (of_decide_eq_false HBQ.out))])
          have HX := Lib.hid (show E = 1 by rw [HFK.out (by rw [HE1.out]; decide), HE1.out])
          go_wp2_with fail
          go_ret
          exact ⟨by rw [HX.out]; rfl, HB2.out⟩
        | true =>
          have HE0 := Lib.hid (show reqE (p, s) (beforeQ l k) = (match beforeQ l k with | none => 0 | some b => if ltB b p = true then 0 else 1) by unfold reqE; rw [if_neg (by rw [HLE.out]; simp), if_neg (fun h => h.elim h2 (fun h => h (of_decide_eq_true HBQ.out)))]; cases beforeQ l k <;> rfl)
          cases k with
          | zero =>
            have HZ2 := Lib.hid (HZK.out (by rw [HE0.out]; rfl))
            go_wp2_with fail
            go_quiet (fail)
            have HBQ2 := Lib.hid (below_drewNV HB2.out nq)
            go_wp2_with fail
            all_goals
              refine ⟨⟨0 + 1, by omega, by go_num, HZ2, HBQ2⟩, ?_⟩
              simp [intOf]; omega
          | succ k =>
            have hgk : k < l.length := by omega
            obtain ⟨b2, off2, r2, e2, _, gc0, _⟩ := HR.out k l[k] (by simp [hgk])
            cases e2
            have hgd2 : l.getD k default = l[k] := by rw [List.getD_eq_getElem?_getD, List.getElem?_eq_getElem hgk]; rfl
            obtain ⟨pp, hpp⟩ : ∃ z, l[k].1 = z := ⟨_, rfl⟩
            rw [hpp] at gc0
            have HBE := Lib.hid (show beforeQ l (k + 1) = some pp by rw [beforeQ_succ, hgd2, hpp])
            clear hgd2 hpp
            have f0 := (HB2.out.cell (p := ⟨b, off + k * 2, none⟩) hbl).trans gc0
            have f1 := (HB2.out.cell (p := ⟨b, off + (k + 1) * 2, none⟩) hbl).trans HC0.out
            have hk1 : (0 : Int) < ((k + 1 : Nat) : Int) := by omega
            have hk2 : decide ((0 : Int) < ((k + 1 : Nat) : Int)) = true := decide_eq_true hk1
            have hsub : wrap64 (((k + 1 : Nat) : Int) - 1) = (k : Int) := by rw [show ((k + 1 : Nat) : Int) - 1 = (k : Int) by omega]; unfold wrap64; omega
            have hkl : (k : Int) < (l.length : Int) := by omega
            have hkz : (0 : Int) ≤ (k : Int) := by omega
            clear gc0
            go_wp2_with fail
            go_quiet (fail)
            have HBQ2 := Lib.hid (below_drewNV HB2.out nq)
            generalize w2.drewN nq = wx at *
            clear f0 f1 hk1 hk2 hsub hkl hkz
            cases hc : ltB pp p with
            | false =>
              have HE1 := Lib.hid (show reqE (p, s) (beforeQ l (k + 1)) = 1 by rw [HE0.out, HBE.out]; simp only; rw [hc, if_neg (by decide)])
              have HX := Lib.hid (show E = 1 by rw [HFK.out (by rw [HE1.out]; decide), HE1.out])
              have hc3 := leq_lt p pp
              rw [hc] at hc3
              have hc2 : Op.bytesLess pp.toList p.toList = false := hc
              first | rw [hc3] | rw [hc2]
              try simp only [Bool.not_false, Bool.not_true]
              clear hc hc2 hc3
              go_wp2_with fail
              go_ret
              exact ⟨by rw [HX.out]; rfl, HBQ2.out⟩
            | true =>
              have HZ2 := Lib.hid (HZK.out (by rw [HE0.out, HBE.out]; simp only; rw [hc, if_pos rfl]))
              have hc3 := leq_lt p pp
              rw [hc] at hc3
              have hc2 : Op.bytesLess pp.toList p.toList = true := hc
              first | rw [hc3] | rw [hc2]
              try simp only [Bool.not_false, Bool.not_true]
              clear hc hc2 hc3
              go_wp2_with fail
              all_goals
                refine ⟨⟨k + 1 + 1, by omega, by go_num, HZ2, HBQ2⟩, ?_⟩
                simp [intOf]; omega
end Go.Proofs.YtenfkejbndifdaaGreatDoor

namespace Go.Proofs.YtenfkejbndifdaaGreatDoor
set_option linter.unusedVariables false
set_option linter.unusedSimpArgs false
open Go Go.RowKit

set_option maxRecDepth 100000 in
set_option maxHeartbeats 8000000 in
theorem rrelease_any (x : RelL) (r : Value) (w : World) (hp : x.path.size ≤ 1000000) (hl : x.reqs.length ≤ 1000000) (hq : ∀ q ∈ x.reqs, q.1.size ≤ 1000000 ∧ q.2.length ≤ 1000000) (hR : ReqsOf w.heap.size r x.reqs w) :
    Calls Tryz.prog 121 #[.agg (relC x r)] w fun e w' => e = .returned (.int .i64 (relE x)) ∧ Below w.heap.size w w' := by
  obtain ⟨E, hE⟩ : ∃ E, relE x = E := ⟨_, rfl⟩
  have HE := Lib.hid hE
  rw [hE]
  clear hE
  have HB0 : Hid (Below w.heap.size w (w.alloc (.cells (relC x r) 71))) := Lib.hid (belQ _ _)
  have HG0 : Hid (BoxR (w.alloc (.cells (relC x r) 71)) w.heap.size x r) := Lib.hid (BoxR.made w x r)
  have HL := Lib.hid (rmajor32_any x.path (w.alloc (.cells (relC x r) 71)) hp)
  have HCR := Lib.hid (fun W (hb : Below w.heap.size w W) => rCheckReqs_any r x.reqs W hl hq ((hR.below hb (Nat.le_refl _)).mono hb.size))
  obtain ⟨ra, rc, hr⟩ : ∃ ra rc, r = .slice ra x.reqs.length rc := by obtain ⟨a, c, e, _⟩ := hR; exact ⟨a, c, e⟩
  clear hp hl hq hR
  obtain ⟨p, ⟨v1, v2, v3⟩, rq, sa, si, sc, yk⟩ := x
  simp only [relC] at HL HCR hr HB0 HG0 ⊢
  have hmv : majV p = (if (lineV p).2.2 ≠ 0 then -1 else (lineV p).2.1) := rfl
  have hmp := @line_pos p
  obtain ⟨⟨ln, lm, le⟩, hln⟩ : ∃ z, lineV p = z := ⟨_, rfl⟩
  rw [hln] at hmv hmp
  simp only at hmv hmp
  generalize majV p = mj at *
  have HMV := Lib.hid (And.intro hmv hmp)
  clear hmv hmp
  obtain ⟨cr, hcr⟩ : ∃ z, checkReqs rq = z := ⟨_, rfl⟩
  rw [hcr] at HCR
  have HV := Lib.hid (fun W => rValid_any v1 v2 v3 W)
  obtain ⟨vb, hvb⟩ : ∃ z, validB v1 v2 v3 = z := ⟨_, rfl⟩
  rw [hvb] at HV
  obtain ⟨da, hda⟩ : ∃ z, digB sa = z := ⟨_, rfl⟩
  obtain ⟨di, hdi⟩ : ∃ z, digB si = z := ⟨_, rfl⟩
  obtain ⟨dc, hdc⟩ : ∃ z, digB sc = z := ⟨_, rfl⟩
  have hX : E = (if le ≠ 0 then 4 else if (vb && decide (v1 = lm)) = false then 2 else if cr ≠ 0 then cr else if (da && (di && dc)) = true then 0 else 1) := by
    rw [← HE.out, ← hvb, ← hcr, ← hda, ← hdi, ← hdc]; unfold relE; simp only [hln]
  have F1 := Lib.hid (show le ≠ 0 → E = 4 from fun h => by rw [hX, if_pos h])
  have F2 := Lib.hid (show le = 0 → vb = false ∨ v1 ≠ lm → E = 2 from fun h h2 => by rw [hX, if_neg (by simp [h]), if_pos (by rcases h2 with h2 | h2 <;> simp [h2])])
  have F3 := Lib.hid (show le = 0 → vb = true → v1 = lm → cr ≠ 0 → E = cr from fun h h2 h3 h4 => by rw [hX, if_neg (by simp [h]), if_neg (by simp [h2, h3]), if_pos h4])
  have F4 := Lib.hid (show le = 0 → vb = true → v1 = lm → cr = 0 → E = (if (da && (di && dc)) = true then 0 else 1) from fun h h2 h3 h4 => by rw [hX, if_neg (by simp [h]), if_neg (by simp [h2, h3]), if_neg (by simp [h4])])
  have F5 := Lib.hid (show le = 0 → vb = true → v1 = lm → cr = 0 → (da = false ∨ di = false ∨ dc = false) → E = 1 from fun h h2 h3 h4 h5 => by rw [F4.out h h2 h3 h4, if_neg (by rcases h5 with h5 | h5 | h5 <;> simp [h5])])
  have F6 := Lib.hid (show le = 0 → vb = true → v1 = lm → cr = 0 → da = true → di = true → dc = true → E = 0 from fun h h2 h3 h4 h5 h6 h7 => by rw [F4.out h h2 h3 h4, if_pos (by simp [h5, h6, h7])])
  clear hX F4
  have HD := Lib.hid (And.intro hda (And.intro hdi hdc))
  clear hln hcr hvb hda hdi hdc HE
  subst hr
  go_enter Tryz.func121, Tryz.ntmps121
  go_wp2_with fail
  refine HL.out.mono ?_
  rintro e w1 ⟨rfl, hb1⟩
  have HB1 := Lib.hid (HB0.out.trans (hb1.mono HB0.out.size))
  have HG1 := Lib.hid (HG0.out.on hb1)
  obtain ⟨g0, g1, g2, g3, g4, g5, g6, g7, _⟩ := HG1.out.cells
  simp only at g0 g1 g2 g3 g4 g5 g6 g7
  clear hb1 HL HB0 HG0
  by_cases h1 : le = 0
  case neg =>
    have hm1 : mj = -1 := by rw [HMV.out.1, if_pos h1]
    subst hm1
    have HY := Lib.hid (F1.out h1)
    go_wp2_with fail
    go_ret
    exact ⟨by rw [HY.out]; rfl, HB1.out⟩
  have hm2 : mj = lm := by rw [HMV.out.1, if_neg (fun h => h h1)]
  have hm3 : 0 ≤ mj := HMV.out.2 h1
  subst h1
  subst hm2
  have hm4 : decide (mj < 0) = false := decide_eq_false (by omega)
  have hm5 : ¬ mj < 0 := by omega
  clear HMV
  go_wp2_with fail
  refine (HV.out _).mono ?_
  rintro e w2 ⟨rfl, hw2⟩
  have hb2 : Below w1.heap.size w1 w2 := by rw [hw2]; exact (by repeat (first | exact Below.refl _ _ | refine Below.drew ?_ | refine Below.alloc ?_ (by simp <;> omega) _ | refine Below.setCell ?_ (by simp <;> omega) _))
  have HB2 := Lib.hid (HB1.out.trans (hb2.mono HB1.out.size))
  have HG2 := Lib.hid (HG1.out.on hb2)
  clear hw2 hb2 g0 g1 g2 g3 g4 g5 g6 g7 HV HB1 HG1
  obtain ⟨g0, g1, g2, g3, g4, g5, g6, g7, _⟩ := HG2.out.cells
  simp only at g0 g1 g2 g3 g4 g5 g6 g7
  cases vb with
  | false =>
    have HY := Lib.hid (F2.out (by trivial) (.inl (by trivial)))
    go_wp2_with fail
    go_ret
    exact ⟨by rw [HY.out]; rfl, HB2.out⟩
  | true =>
  by_cases h2 : v1 = mj
  case neg =>
    have h2b : (v1 != mj) = true := by simpa using h2
    have h2c : (v1 == mj) = false := by simpa using h2
    have HY := Lib.hid (F2.out (by trivial) (.inr h2))
    go_wp2_with fail
    go_ret
    exact ⟨by rw [HY.out]; rfl, HB2.out⟩
  subst h2
  go_wp2_with fail
  refine (HCR.out _ HB2.out).mono ?_
  rintro e w3 ⟨rfl, hb3⟩
  have HB3 := Lib.hid (HB2.out.trans (hb3.mono HB2.out.size))
  have HG3 := Lib.hid (HG2.out.on hb3)
  clear hb3 g0 g1 g2 g3 g4 g5 g6 g7 HB2 HG2
  obtain ⟨g0, g1, g2, g3, g4, g5, g6, g7, _⟩ := HG3.out.cells
  simp only at g0 g1 g2 g3 g4 g5 g6 g7
  by_cases h3 : cr = 0
  case neg =>
    have h3b : (cr != 0) = true := by simpa using h3
    have HY := Lib.hid (F3.out (by trivial) (by trivial) (by trivial) h3)
    go_wp2_with fail
    go_ret
    exact ⟨by rw [HY.out]; rfl, HB3.out⟩
  subst h3
  have HDA := Lib.hid (fun W => rdigest_any sa W)
  have HDI := Lib.hid (fun W => rdigest_any si W)
  have HDC := Lib.hid (fun W => rdigest_any sc W)
  rw [HD.out.1] at HDA
  rw [HD.out.2.1] at HDI
  rw [HD.out.2.2] at HDC
  cases da with
  | false =>
    have HY := Lib.hid (F5.out (by trivial) (by trivial) (by trivial) (by trivial) (by simp))
    go_wp2_with (go_at_call 150; first | (with_reducible refine (HDA.out _).mono ?_; rintro e wd ⟨rfl, rfl⟩) | (with_reducible refine (HDI.out _).mono ?_; rintro e wd ⟨rfl, rfl⟩) | (with_reducible refine (HDC.out _).mono ?_; rintro e wd ⟨rfl, rfl⟩))
    go_ret
    exact ⟨by rw [HY.out]; rfl, HB3.out⟩
  | true =>
  cases di with
  | false =>
    have HY := Lib.hid (F5.out (by trivial) (by trivial) (by trivial) (by trivial) (by simp))
    go_wp2_with (go_at_call 150; first | (with_reducible refine (HDA.out _).mono ?_; rintro e wd ⟨rfl, rfl⟩) | (with_reducible refine (HDI.out _).mono ?_; rintro e wd ⟨rfl, rfl⟩) | (with_reducible refine (HDC.out _).mono ?_; rintro e wd ⟨rfl, rfl⟩))
    go_ret
    exact ⟨by rw [HY.out]; rfl, HB3.out⟩
  | true =>
  cases dc with
  | false =>
    have HY := Lib.hid (F5.out (by trivial) (by trivial) (by trivial) (by trivial) (by simp))
    go_wp2_with (go_at_call 150; first | (with_reducible refine (HDA.out _).mono ?_; rintro e wd ⟨rfl, rfl⟩) | (with_reducible refine (HDI.out _).mono ?_; rintro e wd ⟨rfl, rfl⟩) | (with_reducible refine (HDC.out _).mono ?_; rintro e wd ⟨rfl, rfl⟩))
    go_ret
    exact ⟨by rw [HY.out]; rfl, HB3.out⟩
  | true =>
    have HY := Lib.hid (F6.out (by trivial) (by trivial) (by trivial) (by trivial) (by trivial) (by trivial) (by trivial))
    go_wp2_with (go_at_call 150; first | (with_reducible refine (HDA.out _).mono ?_; rintro e wd ⟨rfl, rfl⟩) | (with_reducible refine (HDI.out _).mono ?_; rintro e wd ⟨rfl, rfl⟩) | (with_reducible refine (HDC.out _).mono ?_; rintro e wd ⟨rfl, rfl⟩))
    go_ret
    exact ⟨by rw [HY.out]; rfl, HB3.out⟩
end Go.Proofs.YtenfkejbndifdaaGreatDoor
