/- Contract of the reference's Check of an index. Contracts of the reference's Least, Greatest, AtLeast and Upward. -/
import Derived.Test.YtenfkejbndifdaaGreatDoorVF
import Derived.Test.YtenfkejbndifdaaGreatDoorUI
import Derived.Test.YtenfkejbndifdaaGreatDoorUE
import Derived.Test.YtenfkejbndifdaaGreatDoorVB
namespace Go.Proofs.YtenfkejbndifdaaGreatDoor
set_option linter.unusedVariables false
set_option linter.unusedSimpArgs false
open Go Go.RowKit

theorem cmpS_zero (a b : ByteArray) : cmpS a b = 0 ↔ a = b := by
  unfold cmpS
  cases h1 : ltB a b with
  | true => rw [if_pos rfl]; exact ⟨fun h => absurd h (by decide), fun h => by rw [h, ltB_irrefl] at h1; cases h1⟩
  | false =>
    rw [if_neg (by decide)]
    cases h2 : ltB b a with
    | true => rw [if_pos rfl]; exact ⟨fun h => absurd h (by decide), fun h => by rw [h, ltB_irrefl] at h2; cases h2⟩
    | false => rw [if_neg (by decide)]; exact ⟨fun _ => ltB_tri h1 h2, fun _ => rfl⟩
theorem cmpI_zero (a b : Int) : cmpI a b = 0 ↔ a = b := by
  unfold cmpI
  split
  · exact ⟨fun h => absurd h (by decide), fun h => by omega⟩
  · split
    · exact ⟨fun h => absurd h (by decide), fun h => by omega⟩
    · exact ⟨fun _ => by omega, fun _ => rfl⟩
theorem cmpV_zero (a b c x y z : Int) : cmpV a b c x y z = 0 ↔ a = x ∧ b = y ∧ c = z := by
  unfold cmpV
  split
  · rename_i h; rw [ne_eq, cmpI_zero] at h; rw [cmpI_zero]; exact ⟨fun e => absurd e h, fun e => e.1⟩
  · rename_i h
    have h := (cmpI_zero _ _).1 (Classical.not_not.1 h)
    split
    · rename_i h2; rw [ne_eq, cmpI_zero] at h2; rw [cmpI_zero]; exact ⟨fun e => absurd e h2, fun e => e.2.1⟩
    · rename_i h2
      have h2 := (cmpI_zero _ _).1 (Classical.not_not.1 h2)
      rw [cmpI_zero]
      exact ⟨fun e => ⟨h, h2, e⟩, fun e => e.2.2⟩
theorem cmpR_zero (a b : RelL) : cmpR a b = 0 ↔ keyL a = keyL b := by
  unfold cmpR
  split
  · rename_i h
    constructor
    · exact fun e => absurd e h
    · intro e
      have : a.path = b.path := congrArg (·.1) e
      exact absurd ((cmpS_zero _ _).2 this) h
  · rename_i h
    have h := (cmpS_zero _ _).1 (Classical.not_not.1 h)
    rw [cmpV_zero]
    constructor
    · rintro ⟨h1, h2, h3⟩
      exact Prod.ext h (Prod.ext h1 (Prod.ext h2 h3))
    · intro e
      have h1 : a.ver = b.ver := congrArg (·.2) e
      rw [h1]
      exact ⟨rfl, rfl, rfl⟩
set_option maxRecDepth 100000 in
set_option maxHeartbeats 8000000 in
theorem rCheck32_any (v iv : Value) (X : List RelL) (w : World) (hX : X.length ≤ 1000000) (hq : ∀ x ∈ X, RelBd x) (hR : RelsOf w.heap.size v X w) :
    Calls Tryz.prog 76 #[.agg #[v, iv]] w fun e w' => e = .returned (.int .i64 (checkX X)) ∧ Below w.heap.size w w' := by
  obtain ⟨E, hE⟩ : ∃ E, checkX X = E := ⟨_, rfl⟩
  have HE := Lib.hid hE
  rw [hE]
  clear hE
  obtain ⟨ao, cap, rv, rfl, hrv⟩ := hR.rv
  have HR := Lib.hid hrv
  have HQ := Lib.hid hq
  clear hR hq hrv
  have HB0 : Hid (Below w.heap.size w (w.alloc (.cells #[.slice ao X.length cap, iv] 25))) := Lib.hid (belQ _ _)
  by_cases h256 : 256 < X.length
  · have h256a : (256 : Int) < (X.length : Int) := by omega
    have h256b : decide ((256 : Int) < (X.length : Int)) = true := decide_eq_true h256a
    have HX := Lib.hid (show E = 7 by rw [← HE.out]; unfold checkX; rw [if_pos h256])
    go_enter Tryz.func76, Tryz.ntmps76
    go_wp2_with fail
    go_ret
    exact ⟨by rw [HX.out]; rfl, HB0.out⟩
  have h256a : ¬ ((256 : Int) < (X.length : Int)) := by omega
  have h256b : decide ((256 : Int) < (X.length : Int)) = false := decide_eq_false h256a
  have HF := Lib.hid (show E = firstE X.length (idxErr X) by rw [← HE.out]; unfold checkX; rw [if_neg h256])
  clear h256
  go_enter Tryz.func76, Tryz.ntmps76
  go_wp2_with fail
  go_loopw [4] (fun p wr => Hid (∃ k : Nat, k ≤ X.length ∧ p = .int .i64 k ∧ (∀ j, j < k → idxErr X j = 0) ∧ Below w.heap.size w wr)) (fun p _ => X.length - (intOf p).toNat)
  case atStart => exact Lib.hid ⟨0, Nat.zero_le _, rfl, fun j hj => absurd hj (Nat.not_lt_zero _), HB0.out⟩
  case round =>
    obtain ⟨k, hk, rfl, hz, hb⟩ := hrel.out
    have HZ := Lib.hid hz
    have HB := Lib.hid hb
    clear hrel hz hb
    by_cases hlt : k < X.length
    case neg =>
      have hk2 : k = X.length := by omega
      subst hk2
      have HX := Lib.hid (show E = 0 by rw [HF.out]; exact firstE_none fun j hj => HZ.out j hj)
      go_wp2_with fail
      go_ret
      exact ⟨by rw [HX.out]; rfl, HB.out⟩
    case pos =>
      obtain ⟨b, off, rfl, hbl, hcs, hrq⟩ := HR.out k X[k] (by simp [hlt])
      have hgd : X.getD k default = X[k] := by rw [List.getD_eq_getElem?_getD, List.getElem?_eq_getElem hlt]; rfl
      obtain ⟨q1, q2, q3⟩ := HQ.out X[k] (List.getElem_mem hlt)
      obtain ⟨x, hx⟩ : ∃ x, X[k] = x := ⟨_, rfl⟩
      rw [hx] at hgd hcs hrq q1 q2 q3
      have HGD := Lib.hid hgd
      obtain ⟨r, hr⟩ : ∃ r, rv k = r := ⟨_, rfl⟩
      rw [hr] at hcs hrq
      clear hx hgd hr
      have HCS := Lib.hid hcs
      have HRQ := Lib.hid hrq
      obtain ⟨ra, rc, rfl, _⟩ := hrq
      have hbw : b < wr.heap.size := Nat.lt_of_lt_of_le hbl HB.out.size
      obtain ⟨d0, d1, d2, d3, d4, d5, d6, d7, d8⟩ := hcs.below HB.out hbl
      have HC := Lib.hid (rrelease_any x (.slice ra x.reqs.length rc) wr q1 q2 q3 ((HRQ.out.below HB.out (Nat.le_refl _)).mono HB.out.size))
      simp only [relC] at HC
      clear hcs q1 q2 q3
      go_wp2_with fail
      refine HC.out.mono ?_
      rintro e w3 ⟨rfl, hb3⟩
      have HB3 := Lib.hid (HB.out.trans (hb3.mono HB.out.size))
      have hs3 := HB3.out.size
      clear hb3 d0 d1 d2 d3 d4 d5 d6 d7 d8 HC
      by_cases hz : relE x = 0
      case neg =>
        have HX := Lib.hid (show E = relE x by
          have e1 : idxErr X k = relE x := by unfold idxErr; rw [HGD.out, if_pos hz]
          rw [HF.out, firstE_at hlt (fun j hj => HZ.out j hj) (by rw [e1]; exact hz), e1])
        generalize relE x = er at *
        have hz2 : (er != 0) = true := by simpa using hz
        go_wp2_with fail
        go_ret
        exact ⟨by rw [HX.out]; rfl, HB3.out⟩
      have HZR := Lib.hid hz
      rw [hz]
      clear hz
      cases k with
      | zero =>
        have HZ2 := Lib.hid (show ∀ j, j < 0 + 1 → idxErr X j = 0 from fun j hj => by
          obtain rfl : j = 0 := by omega
          unfold idxErr
          rw [HGD.out, if_neg (by rw [HZR.out]; simp), if_pos rfl])
        go_wp2_with fail
        go_quiet (fail)
        have HB4 := Lib.hid (below_drewNV HB3.out nq)
        generalize w3.drewN nq = w4 at *
        go_wp2_with fail
        go_quiet (fail)
        have HB5 := Lib.hid (below_drewNV HB4.out nq)
        go_wp2_with fail
        all_goals
          refine ⟨Lib.hid ⟨0 + 1, by omega, by go_num, HZ2.out, HB5.out⟩, ?_⟩
          simp [intOf]; omega
      | succ k =>
        have hgk : k < X.length := by omega
        obtain ⟨b2, off2, e2, _, hcs2, hrq2⟩ := HR.out k X[k] (by simp [hgk])
        cases e2
        have hgd2 : X.getD k default = X[k] := by rw [List.getD_eq_getElem?_getD, List.getElem?_eq_getElem hgk]; rfl
        obtain ⟨y, hy⟩ : ∃ y, X[k] = y := ⟨_, rfl⟩
        rw [hy] at hcs2 hgd2 hrq2
        have HGD2 := Lib.hid hgd2
        obtain ⟨r2, hr2⟩ : ∃ r, rv k = r := ⟨_, rfl⟩
        rw [hr2] at hcs2 hrq2
        clear hy hgd2 hr2
        obtain ⟨ra2, rc2, rfl, _⟩ := hrq2
        have HSQ : Hid (∀ W', Below w3.heap.size w3 W' → CellsAt W' b (off + k * 9) y (.slice ra2 y.reqs.length rc2) ∧ CellsAt W' b (off + (k + 1) * 9) x (.slice ra x.reqs.length rc)) := Lib.hid (fun W' hb => ⟨hcs2.below (HB3.out.trans (hb.mono hs3)) hbl, HCS.out.below (HB3.out.trans (hb.mono hs3)) hbl⟩)
        have HCM := Lib.hid (fun W => rcompare32_any y x (.slice ra2 y.reqs.length rc2) (.slice ra x.reqs.length rc) W)
        simp only [relC] at HCM
        obtain ⟨cm, hcm⟩ : ∃ cm, cmpR y x = cm := ⟨_, rfl⟩
        rw [hcm] at HCM
        have HI := Lib.hid (show idxErr X (k + 1) = if cm = 0 then 5 else if 0 < cm then 1 else 0 by
          unfold idxErr
          rw [HGD.out, if_neg (by rw [HZR.out]; simp), if_neg (by omega), show k + 1 - 1 = k from rfl, HGD2.out]
          unfold relE2
          rw [hcm]
          by_cases h : keyL y = keyL x
          · rw [if_pos h, if_pos (by rw [← hcm]; exact (cmpR_zero _ _).2 h)]
          · have hne : ¬ cm = 0 := by rw [← hcm]; exact fun e => h ((cmpR_zero _ _).1 e)
            rw [if_neg h]
            simp [hne])
        clear hcs2 hcm
        have hk1 : (0 : Int) < ((k + 1 : Nat) : Int) := by omega
        have hk2 : decide ((0 : Int) < ((k + 1 : Nat) : Int)) = true := decide_eq_true hk1
        have hsub : wrap64 (((k + 1 : Nat) : Int) - 1) = (k : Int) := by rw [show ((k + 1 : Nat) : Int) - 1 = (k : Int) by omega]; unfold wrap64; omega
        have hwk : IntKind.i64.wrap (k : Int) = (k : Int) := IntWalk.i64_in _ (by omega)
        have hwk1 : IntKind.i64.wrap (((k + 1 : Nat) : Int) - 1) = (k : Int) := by rw [show ((k + 1 : Nat) : Int) - 1 = (k : Int) by omega]; exact hwk
        have hkl : (k : Int) < (X.length : Int) := by omega
        have hkn : (k : Int) + 1 < (X.length : Int) := by omega
        have hkp : (0 : Int) ≤ (k : Int) + 1 := by omega
        have hkq : (0 : Int) < (k : Int) + 1 := by omega
        have hkz : (0 : Int) ≤ (k : Int) := by omega
        have hkl1 : ((k + 1 : Nat) : Int) < (X.length : Int) := by omega
        have hkz1 : (0 : Int) ≤ ((k + 1 : Nat) : Int) := by omega
        have HBR : Hid (Below w3.heap.size w3 w3) := Lib.hid (Below.refl _ _)
        go_upto_region 10 with fail
        refine wp_region_noPanic ?_
        refine wp_region_held_drew (S := fun W' => CellsAt W' b (off + k * 9) y (.slice ra2 y.reqs.length rc2) ∧ CellsAt W' b (off + (k + 1) * 9) x (.slice ra x.reqs.length rc)) (by kernel_rfl) (HSQ.out w3.drew HBR.out.drew) (fun hS0 => ?_)
        (refine zl3 0 ?_ rfl ?_ ?_; rotate_left; (· (rintro w ⟨⟨a0, a1, a2, a3, a4, a5, a6, a7, a8⟩, b0, b1, b2, b3, b4, b5, b6, b7, b8⟩; go_simp; try with_reducible rfl)); (try simp only [zl1]))
        (refine zl3 1 ?_ rfl ?_ ?_; rotate_left; (· (rintro w ⟨⟨a0, a1, a2, a3, a4, a5, a6, a7, a8⟩, b0, b1, b2, b3, b4, b5, b6, b7, b8⟩; go_simp; try with_reducible rfl)); (try simp only [zl1]))
        (refine zl3 2 ?_ rfl ?_ ?_; rotate_left; (· (rintro w ⟨⟨a0, a1, a2, a3, a4, a5, a6, a7, a8⟩, b0, b1, b2, b3, b4, b5, b6, b7, b8⟩; go_simp; try with_reducible rfl)); (try simp only [zl1]))
        (refine zl3 3 ?_ rfl ?_ ?_; rotate_left; (· (rintro w ⟨⟨a0, a1, a2, a3, a4, a5, a6, a7, a8⟩, b0, b1, b2, b3, b4, b5, b6, b7, b8⟩; go_simp; try with_reducible rfl)); (try simp only [zl1]))
        (refine zl3 4 ?_ rfl ?_ ?_; rotate_left; (· (rintro w ⟨⟨a0, a1, a2, a3, a4, a5, a6, a7, a8⟩, b0, b1, b2, b3, b4, b5, b6, b7, b8⟩; go_simp; try with_reducible rfl)); (try simp only [zl1]))
        (refine zl3 5 ?_ rfl ?_ ?_; rotate_left; (· (rintro w ⟨⟨a0, a1, a2, a3, a4, a5, a6, a7, a8⟩, b0, b1, b2, b3, b4, b5, b6, b7, b8⟩; go_simp; try with_reducible rfl)); (try simp only [zl1]))
        (refine zl3 6 ?_ rfl ?_ ?_; rotate_left; (· (rintro w ⟨⟨a0, a1, a2, a3, a4, a5, a6, a7, a8⟩, b0, b1, b2, b3, b4, b5, b6, b7, b8⟩; go_simp; try with_reducible rfl)); (try simp only [zl1]))
        (refine zl3 7 ?_ rfl ?_ ?_; rotate_left; (· (rintro w ⟨⟨a0, a1, a2, a3, a4, a5, a6, a7, a8⟩, b0, b1, b2, b3, b4, b5, b6, b7, b8⟩; go_simp; try with_reducible rfl)); (try simp only [zl1]))
        (refine zl3 8 ?_ rfl ?_ ?_; rotate_left; (· (rintro w ⟨⟨a0, a1, a2, a3, a4, a5, a6, a7, a8⟩, b0, b1, b2, b3, b4, b5, b6, b7, b8⟩; go_simp; try with_reducible rfl)); (try simp only [zl1]))
        (refine zl3 9 ?_ rfl ?_ ?_; rotate_left; (· (rintro w ⟨⟨a0, a1, a2, a3, a4, a5, a6, a7, a8⟩, b0, b1, b2, b3, b4, b5, b6, b7, b8⟩; go_simp; try with_reducible rfl)); (try simp only [zl1]))
        (refine zl3 10 ?_ rfl ?_ ?_; rotate_left; (· (rintro w ⟨⟨a0, a1, a2, a3, a4, a5, a6, a7, a8⟩, b0, b1, b2, b3, b4, b5, b6, b7, b8⟩; go_simp; try with_reducible rfl)); (try simp only [zl1]))
        (refine zl3 11 ?_ rfl ?_ ?_; rotate_left; (· (rintro w ⟨⟨a0, a1, a2, a3, a4, a5, a6, a7, a8⟩, b0, b1, b2, b3, b4, b5, b6, b7, b8⟩; go_simp; try with_reducible rfl)); (try simp only [zl1]))
        refine wpAnyH_ready (rs := [12]) (by kernel_rfl) (by simp) (AllReadyH.cons rfl (fun K hK => ?_) AllReadyH.nil)
        go_simp
        refine (HCM.out _).mono ?_
        rintro e wq ⟨rfl, hbc⟩
        have HBC := Lib.hid (HBR.out.drew.trans hbc)
        refine hK.out _ _ (HSQ.out _ HBC.out) (fun _ => ?_)
        clear hK K hS0 hbc
        (try simp only [zl1])
        by_cases hc0 : cm = 0
        · subst hc0
          have HX := Lib.hid (show E = 5 by
            have e1 : idxErr X (k + 1) = 5 := by rw [HI.out, if_pos rfl]
            rw [HF.out, firstE_at hlt (fun j hj => HZ.out j hj) (by rw [e1]; decide), e1])
          (refine zl3 13 ?_ rfl ?_ ?_; rotate_left; (· (rintro w ⟨⟨a0, a1, a2, a3, a4, a5, a6, a7, a8⟩, b0, b1, b2, b3, b4, b5, b6, b7, b8⟩; go_simp; try with_reducible rfl)); (try simp only [zl1]))
          (refine zl3 14 ?_ rfl ?_ ?_; rotate_left; (· (rintro w ⟨⟨a0, a1, a2, a3, a4, a5, a6, a7, a8⟩, b0, b1, b2, b3, b4, b5, b6, b7, b8⟩; go_simp; try with_reducible rfl)); (try simp only [zl1]))
          refine wpAnyH_done (by kernel_rfl) ?_ _
          refine NoPanic.normal ?_
          go_wp2_with fail
          go_ret
          exact ⟨by rw [HX.out]; rfl, HB3.out.trans (HBC.out.mono hs3)⟩
        have hcb : (cm == 0) = false := beq_eq_false_iff_ne.2 hc0
        (refine zl3 13 ?_ rfl ?_ ?_; rotate_left; (· (rintro w ⟨⟨a0, a1, a2, a3, a4, a5, a6, a7, a8⟩, b0, b1, b2, b3, b4, b5, b6, b7, b8⟩; go_simp; try with_reducible rfl)); (try simp only [zl1]))
        (refine zl3 14 ?_ rfl ?_ ?_; rotate_left; (· (rintro w ⟨⟨a0, a1, a2, a3, a4, a5, a6, a7, a8⟩, b0, b1, b2, b3, b4, b5, b6, b7, b8⟩; go_simp; try with_reducible rfl)); (try simp only [zl1]))
        refine wpAnyH_done (by kernel_rfl) ?_ _
        refine NoPanic.normal ?_
        go_wp2_with fail
        clear hcb
        refine wp_region_noPanic ?_
        refine wp_region_held_drew (S := fun W' => CellsAt W' b (off + k * 9) y (.slice ra2 y.reqs.length rc2) ∧ CellsAt W' b (off + (k + 1) * 9) x (.slice ra x.reqs.length rc)) (by kernel_rfl) (HSQ.out wq.drew HBC.out.drew) (fun hS0 => ?_)
        (refine zl3 0 ?_ rfl ?_ ?_; rotate_left; (· (rintro w ⟨⟨a0, a1, a2, a3, a4, a5, a6, a7, a8⟩, b0, b1, b2, b3, b4, b5, b6, b7, b8⟩; go_simp; try with_reducible rfl)); (try simp only [zl1]))
        (refine zl3 1 ?_ rfl ?_ ?_; rotate_left; (· (rintro w ⟨⟨a0, a1, a2, a3, a4, a5, a6, a7, a8⟩, b0, b1, b2, b3, b4, b5, b6, b7, b8⟩; go_simp; try with_reducible rfl)); (try simp only [zl1]))
        (refine zl3 2 ?_ rfl ?_ ?_; rotate_left; (· (rintro w ⟨⟨a0, a1, a2, a3, a4, a5, a6, a7, a8⟩, b0, b1, b2, b3, b4, b5, b6, b7, b8⟩; go_simp; try with_reducible rfl)); (try simp only [zl1]))
        (refine zl3 3 ?_ rfl ?_ ?_; rotate_left; (· (rintro w ⟨⟨a0, a1, a2, a3, a4, a5, a6, a7, a8⟩, b0, b1, b2, b3, b4, b5, b6, b7, b8⟩; go_simp; try with_reducible rfl)); (try simp only [zl1]))
        (refine zl3 4 ?_ rfl ?_ ?_; rotate_left; (· (rintro w ⟨⟨a0, a1, a2, a3, a4, a5, a6, a7, a8⟩, b0, b1, b2, b3, b4, b5, b6, b7, b8⟩; go_simp; try with_reducible rfl)); (try simp only [zl1]))
        (refine zl3 5 ?_ rfl ?_ ?_; rotate_left; (· (rintro w ⟨⟨a0, a1, a2, a3, a4, a5, a6, a7, a8⟩, b0, b1, b2, b3, b4, b5, b6, b7, b8⟩; go_simp; try with_reducible rfl)); (try simp only [zl1]))
        (refine zl3 6 ?_ rfl ?_ ?_; rotate_left; (· (rintro w ⟨⟨a0, a1, a2, a3, a4, a5, a6, a7, a8⟩, b0, b1, b2, b3, b4, b5, b6, b7, b8⟩; go_simp; try with_reducible rfl)); (try simp only [zl1]))
        (refine zl3 7 ?_ rfl ?_ ?_; rotate_left; (· (rintro w ⟨⟨a0, a1, a2, a3, a4, a5, a6, a7, a8⟩, b0, b1, b2, b3, b4, b5, b6, b7, b8⟩; go_simp; try with_reducible rfl)); (try simp only [zl1]))
        (refine zl3 8 ?_ rfl ?_ ?_; rotate_left; (· (rintro w ⟨⟨a0, a1, a2, a3, a4, a5, a6, a7, a8⟩, b0, b1, b2, b3, b4, b5, b6, b7, b8⟩; go_simp; try with_reducible rfl)); (try simp only [zl1]))
        (refine zl3 9 ?_ rfl ?_ ?_; rotate_left; (· (rintro w ⟨⟨a0, a1, a2, a3, a4, a5, a6, a7, a8⟩, b0, b1, b2, b3, b4, b5, b6, b7, b8⟩; go_simp; try with_reducible rfl)); (try simp only [zl1]))
        (refine zl3 10 ?_ rfl ?_ ?_; rotate_left; (· (rintro w ⟨⟨a0, a1, a2, a3, a4, a5, a6, a7, a8⟩, b0, b1, b2, b3, b4, b5, b6, b7, b8⟩; go_simp; try with_reducible rfl)); (try simp only [zl1]))
        (refine zl3 11 ?_ rfl ?_ ?_; rotate_left; (· (rintro w ⟨⟨a0, a1, a2, a3, a4, a5, a6, a7, a8⟩, b0, b1, b2, b3, b4, b5, b6, b7, b8⟩; go_simp; try with_reducible rfl)); (try simp only [zl1]))
        refine wpAnyH_ready (rs := [12]) (by kernel_rfl) (by simp) (AllReadyH.cons rfl (fun K hK => ?_) AllReadyH.nil)
        go_simp
        refine (HCM.out _).mono ?_
        rintro e w9 ⟨rfl, hbc⟩
        have HBD := Lib.hid (HBC.out.trans (Below.mono (show Below wq.heap.size wq _ from (Below.refl _ _).drew.trans hbc) HBC.out.size))
        refine hK.out _ _ (HSQ.out _ HBD.out) (fun _ => ?_)
        clear hK K hS0 hbc
        (try simp only [zl1])
        have HBE := Lib.hid (HB3.out.trans (HBD.out.mono hs3))
        by_cases hcp : 0 < cm
        · have hcb : decide (0 < cm) = true := decide_eq_true hcp
          have HX := Lib.hid (show E = 1 by
            have e1 : idxErr X (k + 1) = 1 := by rw [HI.out, if_neg hc0, if_pos hcp]
            rw [HF.out, firstE_at hlt (fun j hj => HZ.out j hj) (by rw [e1]; decide), e1])
          (refine zl3 13 ?_ rfl ?_ ?_; rotate_left; (· (rintro w ⟨⟨a0, a1, a2, a3, a4, a5, a6, a7, a8⟩, b0, b1, b2, b3, b4, b5, b6, b7, b8⟩; go_simp; try with_reducible rfl)); (try simp only [zl1]))
          (refine zl3 14 ?_ rfl ?_ ?_; rotate_left; (· (rintro w ⟨⟨a0, a1, a2, a3, a4, a5, a6, a7, a8⟩, b0, b1, b2, b3, b4, b5, b6, b7, b8⟩; go_simp; try with_reducible rfl)); (try simp only [zl1]))
          refine wpAnyH_done (by kernel_rfl) ?_ _
          refine NoPanic.normal ?_
          go_wp2_with fail
          go_ret
          exact ⟨by rw [HX.out]; rfl, HBE.out⟩
        have hcb : decide (0 < cm) = false := decide_eq_false hcp
        have HZ2 := Lib.hid (show ∀ j, j < k + 1 + 1 → idxErr X j = 0 from fun j hj => by
          by_cases e : j = k + 1
          · rw [e, HI.out, if_neg hc0, if_neg hcp]
          · exact HZ.out j (by omega))
        (refine zl3 13 ?_ rfl ?_ ?_; rotate_left; (· (rintro w ⟨⟨a0, a1, a2, a3, a4, a5, a6, a7, a8⟩, b0, b1, b2, b3, b4, b5, b6, b7, b8⟩; go_simp; try with_reducible rfl)); (try simp only [zl1]))
        (refine zl3 14 ?_ rfl ?_ ?_; rotate_left; (· (rintro w ⟨⟨a0, a1, a2, a3, a4, a5, a6, a7, a8⟩, b0, b1, b2, b3, b4, b5, b6, b7, b8⟩; go_simp; try with_reducible rfl)); (try simp only [zl1]))
        refine wpAnyH_done (by kernel_rfl) ?_ _
        refine NoPanic.normal ?_
        go_wp2_with fail
        all_goals
          refine ⟨Lib.hid ⟨k + 1 + 1, by omega, by go_num, HZ2.out, HBE.out⟩, ?_⟩
          simp [intOf]; omega
end Go.Proofs.YtenfkejbndifdaaGreatDoor

namespace Go.Proofs.YtenfkejbndifdaaGreatDoor
set_option linter.unusedVariables false
set_option linter.unusedSimpArgs false
open Go Go.RowKit

set_option maxRecDepth 100000 in
theorem rAtLeast_own (p : Int) (w : World) :
    Calls Tryz.prog 88 #[.int .i64 p] w fun e w' => ∃ v', e = .returned v' ∧ w'.ownsRow w.heap.size 133 2 v' (canon [(p, 1000000)]).length (spanCells (canon [(p, 1000000)])) ∧ Below w.heap.size w w' := by
  have HC := Lib.hid (rCanonical_own (.slice (some ⟨w.heap.size, 0, none⟩) 1 1) [(p, 1000000)] (w.alloc (.cells #[intC p, intC 1000000] 133)) (by simp) ⟨_, _, rfl, fun i x hx => by
    have hi : i = 0 := by have := (List.getElem?_eq_some_iff.1 hx).1; simpa using this
    subst hi
    cases hx
    exact ⟨w.heap.size, 0, rfl, by simp, by simp [go_sem], by simp [go_sem]⟩⟩)
  go_enter Tryz.func88, Tryz.ntmps88
  go_wp2_with fail
  (with_reducible refine HC.out.mono ?_)
  rintro e w' ⟨v', rfl, hE', hb⟩
  have HE := Lib.hid (own_low (B' := w.heap.size) hE' (by simp))
  have HB := Lib.hid hb
  clear hE' hb
  go_wp2_with fail
  go_ret
  exact ⟨_, rfl, HE.out, ((Below.refl _ _).alloc (Nat.le_refl _) _).trans (HB.out.mono (by simp))⟩
set_option maxRecDepth 100000 in
theorem rUpward_any (v : Value) (s : List (Int × Int)) (w : World) (hs : s.length ≤ 1000000) (hE : SpansOf w.heap.size v s w) :
    Calls Tryz.prog 125 #[v] w fun e w' => e = .returned (.bool (upB (canon s))) ∧ Below w.heap.size w w' := by
  have HC := Lib.hid (rCanonical_any v s w hs hE)
  have hlen := canon_len s
  clear hE
  generalize canon s = c at *
  match c with
  | [] =>
    show Calls _ _ _ _ fun e w' => e = .returned (.bool true) ∧ _
    go_enter Tryz.func125, Tryz.ntmps125
    go_wp2_with fail
    (with_reducible refine HC.out.mono ?_)
    rintro e w' ⟨v', rfl, hE', hb⟩
    obtain ⟨ao, cap, rfl⟩ := edges_len hE'
    clear hE'
    simp only [List.length_nil]
    go_wp2_with fail
    go_ret
    exact ⟨rfl, hb⟩
  | [x] =>
    show Calls _ _ _ _ fun e w' => e = .returned (.bool (decide (x.2 = 1000000))) ∧ _
    obtain ⟨x1, x2⟩ := x
    go_enter Tryz.func125, Tryz.ntmps125
    go_wp2_with fail
    (with_reducible refine HC.out.mono ?_)
    rintro e w' ⟨v', rfl, hE', hb⟩
    obtain ⟨ao, cap, rfl⟩ := edges_len hE'
    obtain ⟨b, off, rfl, h1, h2⟩ := edges_head hE'
    clear hE'
    simp only [List.length_singleton]
    by_cases hx : x2 = 1000000
    · subst hx
      go_wp2_with fail
      go_ret
      exact ⟨rfl, hb⟩
    · have hx2 : (x2 == 1000000) = false := by simpa using hx
      go_wp2_with fail
      go_ret
      exact ⟨by simp [hx], hb⟩
  | x :: y :: t =>
    show Calls _ _ _ _ fun e w' => e = .returned (.bool false) ∧ _
    go_enter Tryz.func125, Tryz.ntmps125
    go_wp2_with fail
    (with_reducible refine HC.out.mono ?_)
    rintro e w' ⟨v', rfl, hE', hb⟩
    obtain ⟨ao, cap, rfl⟩ := edges_len hE'
    have hn : 1 < (x :: y :: t).length := by simp
    generalize (x :: y :: t).length = n at *
    have hn1 : ((n : Int) == 0) = false := by simp; omega
    have hn2 : ((n : Int) == 1) = false := by simp; omega
    clear hE'
    go_wp2_with fail
    go_ret
    exact ⟨rfl, hb⟩
end Go.Proofs.YtenfkejbndifdaaGreatDoor
