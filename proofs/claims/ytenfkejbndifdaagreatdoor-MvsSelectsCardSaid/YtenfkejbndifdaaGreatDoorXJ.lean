/- Contract of the reference's Compare. Contracts of the reference's checks of releases: major, digest, compare. Contract of the reference's CheckRequirements. -/
import Derived.Test.YtenfkejbndifdaaGreatDoorWP
import Derived.Test.YtenfkejbndifdaaGreatDoorWI
import Derived.Test.YtenfkejbndifdaaGreatDoorXI
import Derived.Test.YtenfkejbndifdaaGreatDoorXF
import Derived.Test.YtenfkejbndifdaaGreatDoorXG
namespace Go.Proofs.YtenfkejbndifdaaGreatDoor
open Go Go.RowKit

theorem cmpI_lt {a b : Int} (h : a < b) : cmpI a b = -1 := by unfold cmpI; rw [if_pos h]
theorem cmpI_gt {a b : Int} (h : b < a) : cmpI a b = 1 := by unfold cmpI; rw [if_neg (by omega), if_pos h]
theorem cmpI_eq {a b : Int} (h : a = b) : cmpI a b = 0 := by unfold cmpI; rw [if_neg (by omega), if_neg (by omega)]
theorem cmpI_ne {a b : Int} (h : a < b ∨ b < a) : cmpI a b ≠ 0 := by
  rcases h with h | h
  · rw [cmpI_lt h]; decide
  · rw [cmpI_gt h]; decide
set_option maxRecDepth 100000 in
set_option maxHeartbeats 8000000 in
theorem rCompare_any (a b c x y z : Int) (w : World) : Calls Tryz.prog 151 #[.agg #[.int .i64 a, .int .i64 b, .int .i64 c], .agg #[.int .i64 x, .int .i64 y, .int .i64 z]] w fun e w' => e = .returned (.int .i64 (cmpV a b c x y z)) ∧ Below w.heap.size w w' := by
  go_enter Tryz.func151, Tryz.ntmps151
  go_wp2_with fail
  obtain ⟨W, hW⟩ : ∃ W, (((w.alloc (.cells #[.int .i64 a, .int .i64 b, .int .i64 c] 41)).alloc (.cells #[.int .i64 x, .int .i64 y, .int .i64 z] 41)).alloc (.cells #[.int .i64 a, .int .i64 b, .int .i64 c] 3)).alloc (.cells #[.int .i64 x, .int .i64 y, .int .i64 z] 3) = W := ⟨_, rfl⟩
  rw [hW]
  have HB0 : Hid (Below w.heap.size w W) := Lib.hid (by rw [← hW]; exact (by repeat (first | exact Below.refl _ _ | refine Below.drew ?_ | refine Below.alloc ?_ (by simp <;> omega) _ | refine Below.setCell ?_ (by simp <;> omega) _)))
  have e0 : W.cell? ⟨w.heap.size + 1 + 1, 0, none⟩ = some (.int .i64 a) := by rw [← hW]; simp [go_sem]
  have e1 : W.cell? ⟨w.heap.size + 1 + 1, 1, none⟩ = some (.int .i64 b) := by rw [← hW]; simp [go_sem]
  have e2 : W.cell? ⟨w.heap.size + 1 + 1, 2, none⟩ = some (.int .i64 c) := by rw [← hW]; simp [go_sem]
  have k0 : W.cell? ⟨w.heap.size + 1 + 1 + 1, 0, none⟩ = some (.int .i64 x) := by rw [← hW]; simp [go_sem]
  have k1 : W.cell? ⟨w.heap.size + 1 + 1 + 1, 1, none⟩ = some (.int .i64 y) := by rw [← hW]; simp [go_sem]
  have k2 : W.cell? ⟨w.heap.size + 1 + 1 + 1, 2, none⟩ = some (.int .i64 z) := by rw [← hW]; simp [go_sem]
  clear hW
  go_loopw [7] (fun i wr => ((i = .int .i64 0) ∨ (i = .int .i64 1 ∧ Hid (cmpI a x = 0)) ∨ (i = .int .i64 2 ∧ Hid (cmpI a x = 0 ∧ cmpI b y = 0)) ∨ (i = .int .i64 3 ∧ Hid (cmpV a b c x y z = 0))) ∧ Hid (∃ n, wr = W.drewN n)) (fun i _ => 3 - (intOf i).toNat)
  case atStart => exact ⟨.inl rfl, Lib.hid ⟨0, rfl⟩⟩
  case round =>
    obtain ⟨hrel, HW⟩ := hrel
    obtain ⟨n, hn⟩ := HW.out
    replace e0 : wr.cell? ⟨w.heap.size + 1 + 1, 0, none⟩ = some (.int .i64 a) := by rw [hn]; exact e0
    replace e1 : wr.cell? ⟨w.heap.size + 1 + 1, 1, none⟩ = some (.int .i64 b) := by rw [hn]; exact e1
    replace e2 : wr.cell? ⟨w.heap.size + 1 + 1, 2, none⟩ = some (.int .i64 c) := by rw [hn]; exact e2
    replace k0 : wr.cell? ⟨w.heap.size + 1 + 1 + 1, 0, none⟩ = some (.int .i64 x) := by rw [hn]; exact k0
    replace k1 : wr.cell? ⟨w.heap.size + 1 + 1 + 1, 1, none⟩ = some (.int .i64 y) := by rw [hn]; exact k1
    replace k2 : wr.cell? ⟨w.heap.size + 1 + 1 + 1, 2, none⟩ = some (.int .i64 z) := by rw [hn]; exact k2
    have HBW : Hid (Below w.heap.size w wr) := Lib.hid (by rw [hn]; exact below_drewNV HB0.out _)
    have HN := Lib.hid hn
    clear hn HW
    rcases hrel with rfl | ⟨rfl, H1⟩ | ⟨rfl, H2⟩ | ⟨rfl, H3⟩
    · rcases Int.lt_trichotomy a x with h | h | h
      · have H0 := Lib.hid (cmpV_0 (b := b) (c := c) (y := y) (z := z) (cmpI_ne (.inl h)))
        have HR := Lib.hid (cmpI_lt h)
        go_wp2_with fail
        go_quiet (fail)
        go_wp2_with fail
        go_ret
        exact ⟨by rw [H0.out, HR.out]; rfl, below_drewNV HBW.out _⟩
      · have H0 := Lib.hid (cmpI_eq h)
        have h1 : ¬ a < x := by omega
        have h2 : ¬ x < a := by omega
        clear h
        go_wp2_with fail
        go_quiet (fail)
        go_wp2_with fail
        go_quiet (fail)
        go_wp2_with fail
        go_roundw
        case rel => exact ⟨.inr (.inl ⟨rfl, H0⟩), Lib.hid ⟨_, by rw [HN.out]; simp only [World.drewN_drewN]; rfl⟩⟩
        case measure => simp [intOf]
      · have H0 := Lib.hid (cmpV_0 (b := b) (c := c) (y := y) (z := z) (cmpI_ne (.inr h)))
        have HR := Lib.hid (cmpI_gt h)
        have h1 : ¬ a < x := by omega
        go_wp2_with fail
        go_quiet (fail)
        go_wp2_with fail
        go_quiet (fail)
        go_wp2_with fail
        go_ret
        exact ⟨by rw [H0.out, HR.out]; rfl, by first | exact below_drewNV (below_drewNV HBW.out _) _ | exact below_drewNV HBW.out _⟩
    · rcases Int.lt_trichotomy b y with h | h | h
      · have H0 := Lib.hid (cmpV_1 (c := c) (z := z) H1.out (cmpI_ne (.inl h)))
        have HR := Lib.hid (cmpI_lt h)
        go_wp2_with fail
        go_quiet (fail)
        go_wp2_with fail
        go_ret
        exact ⟨by rw [H0.out, HR.out]; rfl, below_drewNV HBW.out _⟩
      · have H0 := Lib.hid (cmpI_eq h)
        have h1 : ¬ b < y := by omega
        have h2 : ¬ y < b := by omega
        clear h
        go_wp2_with fail
        go_quiet (fail)
        go_wp2_with fail
        go_quiet (fail)
        go_wp2_with fail
        go_roundw
        case rel => exact ⟨.inr (.inr (.inl ⟨rfl, Lib.hid ⟨H1.out, H0.out⟩⟩)), Lib.hid ⟨_, by rw [HN.out]; simp only [World.drewN_drewN]; rfl⟩⟩
        case measure => simp [intOf]
      · have H0 := Lib.hid (cmpV_1 (c := c) (z := z) H1.out (cmpI_ne (.inr h)))
        have HR := Lib.hid (cmpI_gt h)
        have h1 : ¬ b < y := by omega
        go_wp2_with fail
        go_quiet (fail)
        go_wp2_with fail
        go_quiet (fail)
        go_wp2_with fail
        go_ret
        exact ⟨by rw [H0.out, HR.out]; rfl, by first | exact below_drewNV (below_drewNV HBW.out _) _ | exact below_drewNV HBW.out _⟩
    · rcases Int.lt_trichotomy c z with h | h | h
      · have H0 := Lib.hid (cmpV_2 (c := c) (z := z) H2.out.1 H2.out.2)
        have HR := Lib.hid (cmpI_lt h)
        go_wp2_with fail
        go_quiet (fail)
        go_wp2_with fail
        go_ret
        exact ⟨by rw [H0.out, HR.out]; rfl, below_drewNV HBW.out _⟩
      · have H0 := Lib.hid (cmpI_eq h)
        have h1 : ¬ c < z := by omega
        have h2 : ¬ z < c := by omega
        clear h
        go_wp2_with fail
        go_quiet (fail)
        go_wp2_with fail
        go_quiet (fail)
        go_wp2_with fail
        go_roundw
        case rel => exact ⟨.inr (.inr (.inr ⟨rfl, Lib.hid ((cmpV_2 H2.out.1 H2.out.2).trans H0.out)⟩)), Lib.hid ⟨_, by rw [HN.out]; simp only [World.drewN_drewN]; rfl⟩⟩
        case measure => simp [intOf]
      · have H0 := Lib.hid (cmpV_2 (c := c) (z := z) H2.out.1 H2.out.2)
        have HR := Lib.hid (cmpI_gt h)
        have h1 : ¬ c < z := by omega
        go_wp2_with fail
        go_quiet (fail)
        go_wp2_with fail
        go_quiet (fail)
        go_wp2_with fail
        go_ret
        exact ⟨by rw [H0.out, HR.out]; rfl, by first | exact below_drewNV (below_drewNV HBW.out _) _ | exact below_drewNV HBW.out _⟩
    · go_wp2_with fail
      go_ret
      exact ⟨by rw [H3.out]; rfl, HBW.out⟩
end Go.Proofs.YtenfkejbndifdaaGreatDoor

namespace Go.Proofs.YtenfkejbndifdaaGreatDoor
set_option linter.unusedVariables false
set_option linter.unusedSimpArgs false
open Go Go.RowKit

def majV (s : ByteArray) : Int := if (lineV s).2.2 ≠ 0 then -1 else (lineV s).2.1
set_option maxRecDepth 100000 in
theorem rmajor32_any (s : ByteArray) (w : World) (hs : s.size ≤ 1000000) : Calls Tryz.prog 123 #[.string s] w fun e w' => e = .returned (.int .i64 (majV s)) ∧ Below w.heap.size w w' := by
  have HL := Lib.hid (rLine_any s w hs)
  unfold majV
  obtain ⟨⟨ln, lm, le⟩, hln⟩ : ∃ z, lineV s = z := ⟨_, rfl⟩
  rw [hln] at HL ⊢
  simp only at HL ⊢
  clear hln
  by_cases h : le = 0
  · subst h
    rw [if_neg (by simp)]
    go_enter Tryz.func123, Tryz.ntmps123
    go_wp2_with fail
    refine HL.out.mono ?_
    rintro e w1 ⟨rfl, hb1⟩
    go_wp2_with fail
    go_ret
    exact ⟨rfl, hb1⟩
  · have hb : (le != 0) = true := by simpa using h
    rw [if_pos h]
    go_enter Tryz.func123, Tryz.ntmps123
    go_wp2_with fail
    refine HL.out.mono ?_
    rintro e w1 ⟨rfl, hb1⟩
    go_wp2_with fail
    go_ret
    exact ⟨rfl, hb1⟩
set_option maxRecDepth 100000 in
theorem rdigest_any (s : ByteArray) (w : World) : Calls Tryz.prog 150 #[.string s] w fun e w' => e = .returned (.bool (digB s)) ∧ w = w' := by
  unfold digB
  by_cases h0 : s.size = 0
  · have hb : ((s.size : Int) == 0) = true := by simp [h0]
    rw [h0]
    go_enter Tryz.func150, Tryz.ntmps150
    go_wp2_with fail
    go_ret
    exact ⟨by simp, rfl⟩
  · have hb : ((s.size : Int) == 0) = false := beq_eq_false_iff_ne.2 (by omega)
    by_cases h1 : s.size = 32
    · have hb1 : ((s.size : Int) == 32) = true := by simp [h1]
      rw [h1]
      go_enter Tryz.func150, Tryz.ntmps150
      go_wp2_with fail
      go_ret
      exact ⟨by simp, rfl⟩
    · have hb1 : ((s.size : Int) == 32) = false := beq_eq_false_iff_ne.2 (by omega)
      have HX := Lib.hid (show (decide (s.size = 0) || decide (s.size = 32)) = false by simp [h0, h1])
      rw [HX.out]
      go_enter Tryz.func150, Tryz.ntmps150
      go_wp2_with fail
      go_ret
      exact ⟨by simp, rfl⟩
set_option maxRecDepth 100000 in
set_option maxHeartbeats 4000000 in
theorem rcompare32_any (a b : RelL) (ra rb : Value) (w : World) : Calls Tryz.prog 122 #[.agg (relC a ra), .agg (relC b rb)] w fun e w' => e = .returned (.int .i64 (cmpR a b)) ∧ Below w.heap.size w w' := by
  have HC := Lib.hid (fun W => rCompare_any a.ver.1 a.ver.2.1 a.ver.2.2 b.ver.1 b.ver.2.1 b.ver.2.2 W)
  rw [cmpR_or]
  obtain ⟨R, hR⟩ : ∃ R, (if cmpS a.path b.path ≠ 0 then cmpS a.path b.path else cmpV a.ver.1 a.ver.2.1 a.ver.2.2 b.ver.1 b.ver.2.1 b.ver.2.2) = R := ⟨_, rfl⟩
  rw [hR]
  unfold cmpS at hR
  simp only [relC]
  cases h1 : ltB a.path b.path with
  | true =>
    have HR := Lib.hid (show R = -1 by rw [← hR, h1]; simp)
    unfold ltB at h1
    clear hR HC
    go_enter Tryz.func122, Tryz.ntmps122
    go_wp2_with fail
    go_ret
    exact ⟨by rw [HR.out]; rfl, (by repeat (first | exact Below.refl _ _ | refine Below.drew ?_ | refine Below.alloc ?_ (by simp <;> omega) _ | refine Below.setCell ?_ (by simp <;> omega) _))⟩
  | false =>
    cases h2 : ltB b.path a.path with
    | true =>
      have HR := Lib.hid (show R = 1 by rw [← hR, h1, h2]; simp)
      have h3 : (a.path.toList == b.path.toList) = false := by
        by_cases e : a.path.toList = b.path.toList
        · unfold ltB at h1 h2; rw [e] at h1 h2; rw [h1] at h2; cases h2
        · simpa using e
      unfold ltB at h1 h2
      clear hR HC
      go_enter Tryz.func122, Tryz.ntmps122
      go_wp2_with fail
      go_ret
      exact ⟨by rw [HR.out]; rfl, (by repeat (first | exact Below.refl _ _ | refine Below.drew ?_ | refine Below.alloc ?_ (by simp <;> omega) _ | refine Below.setCell ?_ (by simp <;> omega) _))⟩
    | false =>
      have hR2 : cmpV a.ver.1 a.ver.2.1 a.ver.2.2 b.ver.1 b.ver.2.1 b.ver.2.2 = R := by rw [← hR, h1, h2]; simp
      rw [hR2] at HC
      have h3 : (a.path.toList == b.path.toList) = true := by
        unfold ltB at h1 h2
        rw [less_tri _ _ h1 h2]
        simp
      unfold ltB at h1 h2
      clear hR hR2
      go_enter Tryz.func122, Tryz.ntmps122
      go_wp2_with fail
      refine (HC.out _).mono ?_
      rintro e w1 ⟨rfl, hb⟩
      have HB := Lib.hid ((show Below w.heap.size w _ from (by repeat (first | exact Below.refl _ _ | refine Below.drew ?_ | refine Below.alloc ?_ (by simp <;> omega) _ | refine Below.setCell ?_ (by simp <;> omega) _))).trans (hb.mono (by simp only [World.size_alloc]; omega)))
      clear hb
      go_wp2_with fail
      go_ret
      exact ⟨rfl, HB.out⟩
end Go.Proofs.YtenfkejbndifdaaGreatDoor

namespace Go.Proofs.YtenfkejbndifdaaGreatDoor
set_option linter.unusedVariables false
set_option linter.unusedSimpArgs false
open Go Go.RowKit

theorem maj_pos (s : ByteArray) : 0 ≤ majN s := by
  unfold majN
  split
  · unfold verN
    split
    · rename_i h
      unfold verOk okR at h
      simp only [Bool.and_eq_true] at h
      have h2 := h.2.2.2.2
      refine (valL_lt _ (fun b hb => ?_)).1
      unfold allZ at h2
      have h3 := List.all_eq_true.1 h2 b (by unfold tailS; simpa using hb)
      exact h3
    · decide
  · decide
theorem line_pos {s : ByteArray} (h : (lineV s).2.2 = 0) : 0 ≤ majV s := by
  unfold majV
  rw [if_neg (fun e => e h)]
  unfold lineV at h ⊢
  split at h
  · rename_i hp
    rw [if_pos hp]
    exact maj_pos s
  · exact absurd h (by decide)
theorem maj_neg {s : ByteArray} (h : (lineV s).2.2 ≠ 0) : majV s = -1 := by unfold majV; rw [if_pos h]
set_option maxRecDepth 100000 in
set_option maxHeartbeats 8000000 in
theorem rCheckReqs_any (v : Value) (l : List ReqL) (w : World) (hl : l.length ≤ 1000000) (hq : ∀ q ∈ l, q.1.size ≤ 1000000 ∧ q.2.length ≤ 1000000) (hR : ReqsOf w.heap.size v l w) :
    Calls Tryz.prog 77 #[v] w fun e w' => e = .returned (.int .i64 (checkReqs l)) ∧ Below w.heap.size w w' := by
  obtain ⟨ao, cap, rfl, hR⟩ := hR
  have HR := Lib.hid hR
  have HQ := Lib.hid hq
  clear hR hq
  obtain ⟨E, hE⟩ : ∃ E, checkReqs l = E := ⟨_, rfl⟩
  have HE := Lib.hid hE
  rw [hE]
  clear hE
  by_cases h16 : 16 < l.length
  · have h16a : (16 : Int) < (l.length : Int) := by omega
    have h16b : decide ((16 : Int) < (l.length : Int)) = true := decide_eq_true h16a
    have HX := Lib.hid (show E = 7 by rw [← HE.out]; unfold checkReqs; rw [if_pos h16])
    go_enter Tryz.func77, Tryz.ntmps77
    go_wp2_with fail
    go_ret
    exact ⟨by rw [HX.out]; rfl, Below.refl _ _⟩
  have h16a : ¬ ((16 : Int) < (l.length : Int)) := by omega
  have h16b : decide ((16 : Int) < (l.length : Int)) = false := decide_eq_false h16a
  have HF := Lib.hid (show E = firstE l.length fun k => reqE (l.getD k default) (beforeQ l k) by rw [← HE.out]; unfold checkReqs; rw [if_neg h16])
  go_enter Tryz.func77, Tryz.ntmps77
  go_wp2_with fail
  go_loopw [3] (fun p wr => ∃ k : Nat, k ≤ l.length ∧ p = .int .i64 k ∧ Hid (∀ j, j < k → reqE (l.getD j default) (beforeQ l j) = 0) ∧ Hid (Below w.heap.size w wr)) (fun p _ => l.length - (intOf p).toNat)
  case atStart => exact ⟨0, Nat.zero_le _, rfl, Lib.hid (fun j hj => absurd hj (Nat.not_lt_zero _)), Lib.hid (Below.refl _ _)⟩
  case round =>
    obtain ⟨k, hk, rfl, HZ, HB⟩ := hrel
    by_cases hlt : k < l.length
    case neg =>
      have hk2 : k = l.length := by omega
      subst hk2
      have HX := Lib.hid (show E = 0 by rw [HF.out]; exact firstE_none fun j hj => HZ.out j hj)
      go_wp2_with fail
      go_ret
      exact ⟨by rw [HX.out]; rfl, HB.out⟩
    case pos =>
      have hlt2 : (k : Int) < (l.length : Int) := by omega
      have hk0 : (0 : Int) ≤ (k : Int) := by omega
      obtain ⟨b, off, r, rfl, hbl, hc0, hc1, hsp⟩ := HR.out k l[k] (by simp [hlt])
      have hgd : l.getD k default = l[k] := by rw [List.getD_eq_getElem?_getD, List.getElem?_eq_getElem hlt]; rfl
      have hd0 := (HB.out.cell (p := ⟨b, off + k * 2, none⟩) hbl).trans hc0
      obtain ⟨q1, q2⟩ := HQ.out l[k] (List.getElem_mem hlt)
      obtain ⟨⟨p, s⟩, hps⟩ : ∃ z, l[k] = z := ⟨_, rfl⟩
      rw [hps] at hgd hc0 hd0 q1 q2 hsp
      have HGD := Lib.hid hgd
      have HC0 := Lib.hid hc0
      have HC1 := Lib.hid hc1
      have HSP := Lib.hid hsp
      simp only at hd0 q1 q2
      clear hgd hc0 hc1 hps
      obtain ⟨sa, sc, hr, _⟩ := hsp
      simp only at hr
      subst hr
      have hbw : b < wr.heap.size := Nat.lt_of_lt_of_le hbl HB.out.size
      have HM := Lib.hid (rmajor32_any p wr q1)
      have HFK := Lib.hid (show reqE (p, s) (beforeQ l k) ≠ 0 → E = reqE (p, s) (beforeQ l k) from fun h => by
        have e1 : reqE (l.getD k default) (beforeQ l k) = reqE (p, s) (beforeQ l k) := by rw [HGD.out]
        rw [HF.out, firstE_at hlt (fun j hj => HZ.out j hj) (by rw [e1]; exact h), e1])
      have HZK := Lib.hid (show reqE (p, s) (beforeQ l k) = 0 → ∀ j, j < k + 1 → reqE (l.getD j default) (beforeQ l j) = 0 from fun h j hj => by
        by_cases e : j = k
        · rw [e, HGD.out]; exact h
        · exact HZ.out j (by omega))
      by_cases hle : (lineV p).2.2 = 0
      case neg =>
        rw [maj_neg hle] at HM
        have HE4 := Lib.hid (show reqE (p, s) (beforeQ l k) = 4 by unfold reqE; rw [if_pos hle])
        have HX := Lib.hid (show E = 4 by rw [HFK.out (by rw [HE4.out]; decide), HE4.out])
        go_wp2_with fail
        refine HM.out.mono ?_
        rintro e w1 ⟨rfl, hb1⟩
        have HB1 := Lib.hid (HB.out.trans (hb1.mono HB.out.size))
        clear hb1
        go_wp2_with fail
        go_ret
        exact ⟨by rw [HX.out]; rfl, HB1.out⟩
      have HLE := Lib.hid hle
      have hmj := line_pos hle
      generalize majV p = mj at *
      have hmj2 : decide (mj < 0) = false := decide_eq_false (by omega)
      have hmj3 : ¬ mj < 0 := by omega
      clear hle
      go_wp2_with fail
      refine HM.out.mono ?_
      rintro e w1 ⟨rfl, hb1⟩
      have HB1 := Lib.hid (HB.out.trans (hb1.mono HB.out.size))
      have hs1 := hb1.size
      clear hb1 hd0 HM
      have hd0 := (HB1.out.cell (p := ⟨b, off + k * 2, none⟩) hbl).trans HC0.out
      have hd1 := (HB1.out.cell (p := ⟨b, off + k * 2 + 1, none⟩) hbl).trans HC1.out
      try simp only at hd0 hd1
      have hbw1 : b < w1.heap.size := by omega
      have HRC := Lib.hid (fun (wx : World) (h : Below w1.heap.size w1 wx) => rCanonical_any (.slice sa s.length sc) s wx q2 (((HSP.out.below HB1.out (Nat.le_refl _)).mono HB1.out.size).below h (Nat.le_refl _) |>.mono h.size))
      have HSM := Lib.hid (fun (wx : World) (v' : Value) (h : Below w1.heap.size w1 wx) (h2 : SpansOf wx.heap.size v' (canon s) wx) => SameS_any (.slice sa s.length sc) v' s (canon s) wx (by omega) (Nat.le_trans (canon_len _) (by omega)) ((((HSP.out.below HB1.out (Nat.le_refl _)).mono HB1.out.size).below h (Nat.le_refl _)).mono h.size) h2)
      have HBC : Hid (Below w1.heap.size w1 w1) := Lib.hid (Below.refl _ _)
      have HSQ : Hid (∀ W', Below w1.heap.size w1 W' → HeldC ⟨b, off + k * 2, none⟩ ⟨b, off + k * 2 + 1, none⟩ (.string p) (.slice sa s.length sc) W') := Lib.hid (fun W' hb => ⟨(hb.cell (p := ⟨b, off + k * 2, none⟩) hbw1).trans hd0, (hb.cell (p := ⟨b, off + k * 2 + 1, none⟩) hbw1).trans hd1⟩)
      go_upto_region 8 with fail
      by_cases h2 : s = []
      · subst h2
        have HE1 := Lib.hid (show reqE (p, []) (beforeQ l k) = 1 by unfold reqE; rw [if_neg (by rw [HLE.out]; simp), if_pos (.inl rfl)])
        have HX := Lib.hid (show E = 1 by rw [HFK.out (by rw [HE1.out]; decide), HE1.out])
        simp only [List.length_nil] at *
        refine wp_region_noPanic ?_
        refine wp_region_held_drew (S := HeldC ⟨b, off + k * 2, none⟩ ⟨b, off + k * 2 + 1, none⟩ (.string p) (.slice sa 0 sc)) (by kernel_rfl) ⟨hd0, hd1⟩ (fun hS0 => ?_)
        (refine wpAnyH_take (i := 0) (v := ?_) rfl (by kernel_rfl) (by kernel_rfl) (by kernel_rfl) (fun _ _ _ h => h) (Or.inl ⟨by rfl, ?_⟩) (by assumption) ?_; rotate_left; (· (intro w hSw; obtain ⟨c0, c1⟩ := hSw; go_simp; try with_reducible rfl)); (try simp only [zl1, zl2, zl3, Act.put, zl4, zl5, zl6]))
        (refine wpAnyH_take (i := 1) (v := ?_) rfl (by kernel_rfl) (by kernel_rfl) (by kernel_rfl) (fun _ _ _ h => h) (Or.inl ⟨by rfl, ?_⟩) (by assumption) ?_; rotate_left; (· (intro w hSw; obtain ⟨c0, c1⟩ := hSw; go_simp; try with_reducible rfl)); (try simp only [zl1, zl2, zl3, Act.put, zl4, zl5, zl6]))
        (refine wpAnyH_take (i := 2) (v := ?_) rfl (by kernel_rfl) (by kernel_rfl) (by kernel_rfl) (fun _ _ _ h => h) (Or.inl ⟨by rfl, ?_⟩) (by assumption) ?_; rotate_left; (· (intro w hSw; obtain ⟨c0, c1⟩ := hSw; go_simp; try with_reducible rfl)); (try simp only [zl1, zl2, zl3, Act.put, zl4, zl5, zl6]))
        (refine wpAnyH_take (i := 3) (v := ?_) rfl (by kernel_rfl) (by kernel_rfl) (by kernel_rfl) (fun _ _ _ h => h) (Or.inl ⟨by rfl, ?_⟩) (by assumption) ?_; rotate_left; (· (intro w hSw; obtain ⟨c0, c1⟩ := hSw; go_simp; try with_reducible rfl)); (try simp only [zl1, zl2, zl3, Act.put, zl4, zl5, zl6]))
        (refine wpAnyH_take (i := 4) (v := ?_) rfl (by kernel_rfl) (by kernel_rfl) (by kernel_rfl) (fun _ _ _ h => h) (Or.inl ⟨by rfl, ?_⟩) (by assumption) ?_; rotate_left; (· (intro w hSw; obtain ⟨c0, c1⟩ := hSw; go_simp; try with_reducible rfl)); (try simp only [zl1, zl2, zl3, Act.put, zl4, zl5, zl6]))
        (refine wpAnyH_take (i := 5) (v := ?_) rfl (by kernel_rfl) (by kernel_rfl) (by kernel_rfl) (fun _ _ _ h => h) (Or.inl ⟨by rfl, ?_⟩) (by assumption) ?_; rotate_left; (· (intro w hSw; obtain ⟨c0, c1⟩ := hSw; go_simp; try with_reducible rfl)); (try simp only [zl1, zl2, zl3, Act.put, zl4, zl5, zl6]))
        (refine wpAnyH_take (i := 6) (v := ?_) rfl (by kernel_rfl) (by kernel_rfl) (by kernel_rfl) (fun _ _ _ h => h) (Or.inl ⟨by rfl, ?_⟩) (by assumption) ?_; rotate_left; (· (intro w hSw; obtain ⟨c0, c1⟩ := hSw; go_simp; try with_reducible rfl)); (try simp only [zl1, zl2, zl3, Act.put, zl4, zl5, zl6]))
        (refine wpAnyH_take (i := 7) (v := ?_) rfl (by kernel_rfl) (by kernel_rfl) (by kernel_rfl) (fun _ _ _ h => h) (Or.inl ⟨by rfl, ?_⟩) (by assumption) ?_; rotate_left; (· (intro w hSw; obtain ⟨c0, c1⟩ := hSw; go_simp; try with_reducible rfl)); (try simp only [zl1, zl2, zl3, Act.put, zl4, zl5, zl6]))
        (refine wpAnyH_take (i := 8) (v := undef) rfl (by kernel_rfl) (by kernel_rfl) (by kernel_rfl) (fun _ _ _ h => h) (Or.inr ⟨by rfl, rfl⟩) (by assumption) ?_; (try simp only [zl1, zl2, zl3, Act.put, zl4, zl5, zl6]))
        (refine wpAnyH_take (i := 9) (v := undef) rfl (by kernel_rfl) (by kernel_rfl) (by kernel_rfl) (fun _ _ _ h => h) (Or.inr ⟨by rfl, rfl⟩) (by assumption) ?_; (try simp only [zl1, zl2, zl3, Act.put, zl4, zl5, zl6]))
        (refine wpAnyH_take (i := 10) (v := undef) rfl (by kernel_rfl) (by kernel_rfl) (by kernel_rfl) (fun _ _ _ h => h) (Or.inr ⟨by rfl, rfl⟩) (by assumption) ?_; (try simp only [zl1, zl2, zl3, Act.put, zl4, zl5, zl6]))
        (refine wpAnyH_take (i := 11) (v := undef) rfl (by kernel_rfl) (by kernel_rfl) (by kernel_rfl) (fun _ _ _ h => h) (Or.inr ⟨by rfl, rfl⟩) (by assumption) ?_; (try simp only [zl1, zl2, zl3, Act.put, zl4, zl5, zl6]))
        (refine wpAnyH_take (i := 12) (v := undef) rfl (by kernel_rfl) (by kernel_rfl) (by kernel_rfl) (fun _ _ _ h => h) (Or.inr ⟨by rfl, rfl⟩) (by assumption) ?_; (try simp only [zl1, zl2, zl3, Act.put, zl4, zl5, zl6]))
        (refine wpAnyH_take (i := 13) (v := undef) rfl (by kernel_rfl) (by kernel_rfl) (by kernel_rfl) (fun _ _ _ h => h) (Or.inr ⟨by rfl, rfl⟩) (by assumption) ?_; (try simp only [zl1, zl2, zl3, Act.put, zl4, zl5, zl6]))
        (refine wpAnyH_take (i := 14) (v := undef) rfl (by kernel_rfl) (by kernel_rfl) (by kernel_rfl) (fun _ _ _ h => h) (Or.inr ⟨by rfl, rfl⟩) (by assumption) ?_; (try simp only [zl1, zl2, zl3, Act.put, zl4, zl5, zl6]))
        (refine wpAnyH_take (i := 15) (v := undef) rfl (by kernel_rfl) (by kernel_rfl) (by kernel_rfl) (fun _ _ _ h => h) (Or.inr ⟨by rfl, rfl⟩) (by assumption) ?_; (try simp only [zl1, zl2, zl3, Act.put, zl4, zl5, zl6]))
        (refine wpAnyH_take (i := 16) (v := undef) rfl (by kernel_rfl) (by kernel_rfl) (by kernel_rfl) (fun _ _ _ h => h) (Or.inr ⟨by rfl, rfl⟩) (by assumption) ?_; (try simp only [zl1, zl2, zl3, Act.put, zl4, zl5, zl6]))
        (refine wpAnyH_take (i := 17) (v := undef) rfl (by kernel_rfl) (by kernel_rfl) (by kernel_rfl) (fun _ _ _ h => h) (Or.inr ⟨by rfl, rfl⟩) (by assumption) ?_; (try simp only [zl1, zl2, zl3, Act.put, zl4, zl5, zl6]))
        (refine wpAnyH_take (i := 18) (v := undef) rfl (by kernel_rfl) (by kernel_rfl) (by kernel_rfl) (fun _ _ _ h => h) (Or.inr ⟨by rfl, rfl⟩) (by assumption) ?_; (try simp only [zl1, zl2, zl3, Act.put, zl4, zl5, zl6]))
        (refine wpAnyH_take (i := 19) (v := undef) rfl (by kernel_rfl) (by kernel_rfl) (by kernel_rfl) (fun _ _ _ h => h) (Or.inr ⟨by rfl, rfl⟩) (by assumption) ?_; (try simp only [zl1, zl2, zl3, Act.put, zl4, zl5, zl6]))
        (refine wpAnyH_take (i := 20) (v := undef) rfl (by kernel_rfl) (by kernel_rfl) (by kernel_rfl) (fun _ _ _ h => h) (Or.inr ⟨by rfl, rfl⟩) (by assumption) ?_; (try simp only [zl1, zl2, zl3, Act.put, zl4, zl5, zl6]))
        (refine wpAnyH_take (i := 21) (v := ?_) rfl (by kernel_rfl) (by kernel_rfl) (by kernel_rfl) (fun _ _ _ h => h) (Or.inl ⟨by rfl, ?_⟩) (by assumption) ?_; rotate_left; (· (intro w hSw; obtain ⟨c0, c1⟩ := hSw; go_simp; try with_reducible rfl)); (try simp only [zl1, zl2, zl3, Act.put, zl4, zl5, zl6]))
        refine wpAnyH_done (by kernel_rfl) ?_ _
        refine NoPanic.normal ?_
        go_wp2_with fail
        go_ret
        exact ⟨by rw [HX.out]; rfl, HB1.out.drew⟩
      · have hl0 : ¬ s.length = 0 := fun e => h2 (List.length_eq_zero_iff.1 e)
        have hl1 : ¬ ((s.length : Int) = 0) := by omega
        have hl4 : ((s.length : Int) == 0) = false := beq_eq_false_iff_ne.2 (by omega)
        refine wp_region_noPanic ?_
        refine wp_region_held_drew (S := HeldC ⟨b, off + k * 2, none⟩ ⟨b, off + k * 2 + 1, none⟩ (.string p) (.slice sa s.length sc)) (by kernel_rfl) ⟨hd0, hd1⟩ (fun hS0 => ?_)
        (refine wpAnyH_take (i := 0) (v := ?_) rfl (by kernel_rfl) (by kernel_rfl) (by kernel_rfl) (fun _ _ _ h => h) (Or.inl ⟨by rfl, ?_⟩) (by assumption) ?_; rotate_left; (· (intro w hSw; obtain ⟨c0, c1⟩ := hSw; go_simp; try with_reducible rfl)); (try simp only [zl1, zl2, zl3, Act.put, zl4, zl5, zl6]))
        (refine wpAnyH_take (i := 1) (v := ?_) rfl (by kernel_rfl) (by kernel_rfl) (by kernel_rfl) (fun _ _ _ h => h) (Or.inl ⟨by rfl, ?_⟩) (by assumption) ?_; rotate_left; (· (intro w hSw; obtain ⟨c0, c1⟩ := hSw; go_simp; try with_reducible rfl)); (try simp only [zl1, zl2, zl3, Act.put, zl4, zl5, zl6]))
        (refine wpAnyH_take (i := 2) (v := ?_) rfl (by kernel_rfl) (by kernel_rfl) (by kernel_rfl) (fun _ _ _ h => h) (Or.inl ⟨by rfl, ?_⟩) (by assumption) ?_; rotate_left; (· (intro w hSw; obtain ⟨c0, c1⟩ := hSw; go_simp; try with_reducible rfl)); (try simp only [zl1, zl2, zl3, Act.put, zl4, zl5, zl6]))
        (refine wpAnyH_take (i := 3) (v := ?_) rfl (by kernel_rfl) (by kernel_rfl) (by kernel_rfl) (fun _ _ _ h => h) (Or.inl ⟨by rfl, ?_⟩) (by assumption) ?_; rotate_left; (· (intro w hSw; obtain ⟨c0, c1⟩ := hSw; go_simp; try with_reducible rfl)); (try simp only [zl1, zl2, zl3, Act.put, zl4, zl5, zl6]))
        (refine wpAnyH_take (i := 4) (v := ?_) rfl (by kernel_rfl) (by kernel_rfl) (by kernel_rfl) (fun _ _ _ h => h) (Or.inl ⟨by rfl, ?_⟩) (by assumption) ?_; rotate_left; (· (intro w hSw; obtain ⟨c0, c1⟩ := hSw; go_simp; try with_reducible rfl)); (try simp only [zl1, zl2, zl3, Act.put, zl4, zl5, zl6]))
        (refine wpAnyH_take (i := 5) (v := ?_) rfl (by kernel_rfl) (by kernel_rfl) (by kernel_rfl) (fun _ _ _ h => h) (Or.inl ⟨by rfl, ?_⟩) (by assumption) ?_; rotate_left; (· (intro w hSw; obtain ⟨c0, c1⟩ := hSw; go_simp; try with_reducible rfl)); (try simp only [zl1, zl2, zl3, Act.put, zl4, zl5, zl6]))
        (refine wpAnyH_take (i := 6) (v := ?_) rfl (by kernel_rfl) (by kernel_rfl) (by kernel_rfl) (fun _ _ _ h => h) (Or.inl ⟨by rfl, ?_⟩) (by assumption) ?_; rotate_left; (· (intro w hSw; obtain ⟨c0, c1⟩ := hSw; go_simp; try with_reducible rfl)); (try simp only [zl1, zl2, zl3, Act.put, zl4, zl5, zl6]))
        (refine wpAnyH_take (i := 7) (v := ?_) rfl (by kernel_rfl) (by kernel_rfl) (by kernel_rfl) (fun _ _ _ h => h) (Or.inl ⟨by rfl, ?_⟩) (by assumption) ?_; rotate_left; (· (intro w hSw; obtain ⟨c0, c1⟩ := hSw; go_simp; try with_reducible rfl)); (try simp only [zl1, zl2, zl3, Act.put, zl4, zl5, zl6]))
        (refine wpAnyH_take (i := 8) (v := ?_) rfl (by kernel_rfl) (by kernel_rfl) (by kernel_rfl) (fun _ _ _ h => h) (Or.inl ⟨by rfl, ?_⟩) (by assumption) ?_; rotate_left; (· (intro w hSw; obtain ⟨c0, c1⟩ := hSw; go_simp; try with_reducible rfl)); (try simp only [zl1, zl2, zl3, Act.put, zl4, zl5, zl6]))
        (refine wpAnyH_take (i := 9) (v := ?_) rfl (by kernel_rfl) (by kernel_rfl) (by kernel_rfl) (fun _ _ _ h => h) (Or.inl ⟨by rfl, ?_⟩) (by assumption) ?_; rotate_left; (· (intro w hSw; obtain ⟨c0, c1⟩ := hSw; go_simp; try with_reducible rfl)); (try simp only [zl1, zl2, zl3, Act.put, zl4, zl5, zl6]))
        (refine wpAnyH_take (i := 10) (v := ?_) rfl (by kernel_rfl) (by kernel_rfl) (by kernel_rfl) (fun _ _ _ h => h) (Or.inl ⟨by rfl, ?_⟩) (by assumption) ?_; rotate_left; (· (intro w hSw; obtain ⟨c0, c1⟩ := hSw; go_simp; try with_reducible rfl)); (try simp only [zl1, zl2, zl3, Act.put, zl4, zl5, zl6]))
        (refine wpAnyH_take (i := 11) (v := ?_) rfl (by kernel_rfl) (by kernel_rfl) (by kernel_rfl) (fun _ _ _ h => h) (Or.inl ⟨by rfl, ?_⟩) (by assumption) ?_; rotate_left; (· (intro w hSw; obtain ⟨c0, c1⟩ := hSw; go_simp; try with_reducible rfl)); (try simp only [zl1, zl2, zl3, Act.put, zl4, zl5, zl6]))
        (refine wpAnyH_take (i := 12) (v := ?_) rfl (by kernel_rfl) (by kernel_rfl) (by kernel_rfl) (fun _ _ _ h => h) (Or.inl ⟨by rfl, ?_⟩) (by assumption) ?_; rotate_left; (· (intro w hSw; obtain ⟨c0, c1⟩ := hSw; go_simp; try with_reducible rfl)); (try simp only [zl1, zl2, zl3, Act.put, zl4, zl5, zl6]))
        (refine wpAnyH_take (i := 13) (v := ?_) rfl (by kernel_rfl) (by kernel_rfl) (by kernel_rfl) (fun _ _ _ h => h) (Or.inl ⟨by rfl, ?_⟩) (by assumption) ?_; rotate_left; (· (intro w hSw; obtain ⟨c0, c1⟩ := hSw; go_simp; try with_reducible rfl)); (try simp only [zl1, zl2, zl3, Act.put, zl4, zl5, zl6]))
        (refine wpAnyH_take (i := 14) (v := ?_) rfl (by kernel_rfl) (by kernel_rfl) (by kernel_rfl) (fun _ _ _ h => h) (Or.inl ⟨by rfl, ?_⟩) (by assumption) ?_; rotate_left; (· (intro w hSw; obtain ⟨c0, c1⟩ := hSw; go_simp; try with_reducible rfl)); (try simp only [zl1, zl2, zl3, Act.put, zl4, zl5, zl6]))
        (refine wpAnyH_take (i := 15) (v := ?_) rfl (by kernel_rfl) (by kernel_rfl) (by kernel_rfl) (fun _ _ _ h => h) (Or.inl ⟨by rfl, ?_⟩) (by assumption) ?_; rotate_left; (· (intro w hSw; obtain ⟨c0, c1⟩ := hSw; go_simp; try with_reducible rfl)); (try simp only [zl1, zl2, zl3, Act.put, zl4, zl5, zl6]))
        (refine wpAnyH_take (i := 16) (v := ?_) rfl (by kernel_rfl) (by kernel_rfl) (by kernel_rfl) (fun _ _ _ h => h) (Or.inl ⟨by rfl, ?_⟩) (by assumption) ?_; rotate_left; (· (intro w hSw; obtain ⟨c0, c1⟩ := hSw; go_simp; try with_reducible rfl)); (try simp only [zl1, zl2, zl3, Act.put, zl4, zl5, zl6]))
        (refine wpAnyH_take (i := 17) (v := ?_) rfl (by kernel_rfl) (by kernel_rfl) (by kernel_rfl) (fun _ _ _ h => h) (Or.inl ⟨by rfl, ?_⟩) (by assumption) ?_; rotate_left; (· (intro w hSw; obtain ⟨c0, c1⟩ := hSw; go_simp; try with_reducible rfl)); (try simp only [zl1, zl2, zl3, Act.put, zl4, zl5, zl6]))
        refine wpAnyH_ready (rs := [18]) (by kernel_rfl) (by simp) (AllReadyH.cons rfl (fun K hK => ?_) AllReadyH.nil)
        go_simp
        refine (HRC.out _ HBC.out.drew).mono ?_
        rintro e wq ⟨v', rfl, hv', hbc⟩
        have HV := Lib.hid hv'
        replace HBC := Lib.hid (HBC.out.drew.trans (hbc.mono HBC.out.size))
        refine hK.out _ _ (HSQ.out _ HBC.out) (fun _ => ?_)
        clear hK K hS0 hbc hv'
        (try simp only [zl1, zl2, zl3, Act.put, zl4, zl5, zl6])
        refine wpAnyH_ready (rs := [19]) (by kernel_rfl) (by simp) (AllReadyH.cons rfl (fun K hK => ?_) AllReadyH.nil)
        go_simp
        refine (HSM.out _ _ HBC.out HV.out).mono ?_
        rintro e w2 ⟨rfl, hbc⟩
        replace HBC := Lib.hid (HBC.out.trans (hbc.mono HBC.out.size))
        refine hK.out _ _ (HSQ.out _ HBC.out) (fun hS2 => ?_)
        clear hK K hbc
        (try simp only [zl1, zl2, zl3, Act.put, zl4, zl5, zl6])
        (refine wpAnyH_take (i := 20) (v := ?_) rfl (by kernel_rfl) (by kernel_rfl) (by kernel_rfl) (fun _ _ _ h => h) (Or.inl ⟨by rfl, ?_⟩) (by assumption) ?_; rotate_left; (· (intro w hSw; obtain ⟨c0, c1⟩ := hSw; go_simp; try with_reducible rfl)); (try simp only [zl1, zl2, zl3, Act.put, zl4, zl5, zl6]))
        (refine wpAnyH_take (i := 21) (v := ?_) rfl (by kernel_rfl) (by kernel_rfl) (by kernel_rfl) (fun _ _ _ h => h) (Or.inl ⟨by rfl, ?_⟩) (by assumption) ?_; rotate_left; (· (intro w hSw; obtain ⟨c0, c1⟩ := hSw; go_simp; try with_reducible rfl)); (try simp only [zl1, zl2, zl3, Act.put, zl4, zl5, zl6]))
        refine wpAnyH_done (by kernel_rfl) ?_ _
        refine NoPanic.normal ?_
        have HB2 := Lib.hid (HB1.out.trans (HBC.out.mono HB1.out.size))
        obtain ⟨bq, hbq⟩ : ∃ bq, decide (s = canon s) = bq := ⟨_, rfl⟩
        have HBQ := Lib.hid hbq
        rw [hbq]
        clear hbq
        clear hd0 hd1 hl0 hl1 hl4 hbw hbw1 hS2
        cases bq with
        | false =>
          have HE1 := Lib.hid (show reqE (p, s) (beforeQ l k) = 1 by unfold reqE; rw [if_neg (by rw [HLE.out]; simp), if_pos (.inr (of_decide_eq_false HBQ.out))])
          have HX := Lib.hid (show E = 1 by rw [HFK.out (by rw [HE1.out]; decide), HE1.out])
          go_wp2_with fail
          go_ret
          exact ⟨by rw [HX.out]; rfl, HB2.out⟩
        | true =>
          have HE0 := Lib.hid (show reqE (p, s) (beforeQ l k) = (match beforeQ l k with | none => 0 | some b => if ltB b p = true then 0 else 1) by unfold reqE; rw [if_neg (by rw [HLE.out]; simp), if_neg (fun h => h.elim h2 (fun h => h (of_decide_eq_true HBQ.out)))]; cases beforeQ l k <;> rfl)
          cases k with
          | zero =>
            have HZ2 := Lib.hid (HZK.out (by rw [HE0.out]; rfl))
            go_wp2_with fail
            go_quiet (fail)
            have HBQ2 := Lib.hid (below_drewNV HB2.out nq)
            go_wp2_with fail
            all_goals
              refine ⟨⟨0 + 1, by omega, by go_num, HZ2, HBQ2⟩, ?_⟩
              simp [intOf]; omega
          | succ k =>
            have hgk : k < l.length := by omega
            obtain ⟨b2, off2, r2, e2, _, gc0, _⟩ := HR.out k l[k] (by simp [hgk])
            cases e2
            have hgd2 : l.getD k default = l[k] := by rw [List.getD_eq_getElem?_getD, List.getElem?_eq_getElem hgk]; rfl
            obtain ⟨pp, hpp⟩ : ∃ z, l[k].1 = z := ⟨_, rfl⟩
            rw [hpp] at gc0
            have HBE := Lib.hid (show beforeQ l (k + 1) = some pp by rw [beforeQ_succ, hgd2, hpp])
            clear hgd2 hpp
            have f0 := (HB2.out.cell (p := ⟨b, off + k * 2, none⟩) hbl).trans gc0
            have f1 := (HB2.out.cell (p := ⟨b, off + (k + 1) * 2, none⟩) hbl).trans HC0.out
            have hk1 : (0 : Int) < ((k + 1 : Nat) : Int) := by omega
            have hk2 : decide ((0 : Int) < ((k + 1 : Nat) : Int)) = true := decide_eq_true hk1
            have hsub : wrap64 (((k + 1 : Nat) : Int) - 1) = (k : Int) := by rw [show ((k + 1 : Nat) : Int) - 1 = (k : Int) by omega]; unfold wrap64; omega
            have hkl : (k : Int) < (l.length : Int) := by omega
            have hkz : (0 : Int) ≤ (k : Int) := by omega
            clear gc0
            go_wp2_with fail
            go_quiet (fail)
            have HBQ2 := Lib.hid (below_drewNV HB2.out nq)
            generalize w2.drewN nq = wx at *
            clear f0 f1 hk1 hk2 hsub hkl hkz
            cases hc : ltB pp p with
            | false =>
              have HE1 := Lib.hid (show reqE (p, s) (beforeQ l (k + 1)) = 1 by rw [HE0.out, HBE.out]; simp only; rw [hc, if_neg (by decide)])
              have HX := Lib.hid (show E = 1 by rw [HFK.out (by rw [HE1.out]; decide), HE1.out])
              have hc3 := leq_lt p pp
              rw [hc] at hc3
              have hc2 : Op.bytesLess pp.toList p.toList = false := hc
              first | rw [hc3] | rw [hc2]
              try simp only [Bool.not_false, Bool.not_true]
              clear hc hc2 hc3
              go_wp2_with fail
              go_ret
              exact ⟨by rw [HX.out]; rfl, HBQ2.out⟩
            | true =>
              have HZ2 := Lib.hid (HZK.out (by rw [HE0.out, HBE.out]; simp only; rw [hc, if_pos rfl]))
              have hc3 := leq_lt p pp
              rw [hc] at hc3
              have hc2 : Op.bytesLess pp.toList p.toList = true := hc
              first | rw [hc3] | rw [hc2]
              try simp only [Bool.not_false, Bool.not_true]
              clear hc hc2 hc3
              go_wp2_with fail
              all_goals
                refine ⟨⟨k + 1 + 1, by omega, by go_num, HZ2, HBQ2⟩, ?_⟩
                simp [intOf]; omega
end Go.Proofs.YtenfkejbndifdaaGreatDoor
