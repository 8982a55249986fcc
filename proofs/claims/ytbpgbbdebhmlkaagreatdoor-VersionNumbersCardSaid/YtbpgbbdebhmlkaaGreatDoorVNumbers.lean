/- The statement on numbers: its walk. -/
import Derived.Test.YtbpgbbdebhmlkaaGreatDoorVSteps
import Derived.Test.YtbpgbbdebhmlkaaGreatDoorVRef3
import Derived.Test.YtbpgbbdebhmlkaaGreatDoorVRef4
import Derived.Test.YtbpgbbdebhmlkaaGreatDoorVRef6
namespace Go.Proofs.YtbpgbbdebhmlkaaGreatDoor
open Go Go.RowKit
attribute [local go_sem ↓] Go.wp_at_zero Go.wp_at_succ

theorem keep18 {w0 W w' : World} {B1 B2 B3 B4 B5 B6 : Nat} {a b c d e f : V3} (h : AwS w0 W [(B6, f), (B5, e), (B4, d), (B3, c), (B2, b), (B1, a)]) (hb : Below W.heap.size W w') :
    ((w'.cell? ⟨B1, 0, none⟩ = some (.int .i64 a.1) ∧ w'.cell? ⟨B1, 1, none⟩ = some (.int .i64 a.2.1) ∧ w'.cell? ⟨B1, 2, none⟩ = some (.int .i64 a.2.2)) ∧
    (w'.cell? ⟨B2, 0, none⟩ = some (.int .i64 b.1) ∧ w'.cell? ⟨B2, 1, none⟩ = some (.int .i64 b.2.1) ∧ w'.cell? ⟨B2, 2, none⟩ = some (.int .i64 b.2.2)) ∧
    (w'.cell? ⟨B3, 0, none⟩ = some (.int .i64 c.1) ∧ w'.cell? ⟨B3, 1, none⟩ = some (.int .i64 c.2.1) ∧ w'.cell? ⟨B3, 2, none⟩ = some (.int .i64 c.2.2)) ∧
    (w'.cell? ⟨B4, 0, none⟩ = some (.int .i64 d.1) ∧ w'.cell? ⟨B4, 1, none⟩ = some (.int .i64 d.2.1) ∧ w'.cell? ⟨B4, 2, none⟩ = some (.int .i64 d.2.2)) ∧
    (w'.cell? ⟨B5, 0, none⟩ = some (.int .i64 e.1) ∧ w'.cell? ⟨B5, 1, none⟩ = some (.int .i64 e.2.1) ∧ w'.cell? ⟨B5, 2, none⟩ = some (.int .i64 e.2.2)) ∧
    (w'.cell? ⟨B6, 0, none⟩ = some (.int .i64 f.1) ∧ w'.cell? ⟨B6, 1, none⟩ = some (.int .i64 f.2.1) ∧ w'.cell? ⟨B6, 2, none⟩ = some (.int .i64 f.2.2))) := by
  have h2 := h.below hb
  exact ⟨h2.get 5 B1 a.1 a.2.1 a.2.2 rfl, h2.get 4 B2 b.1 b.2.1 b.2.2 rfl, h2.get 3 B3 c.1 c.2.1 c.2.2 rfl, h2.get 2 B4 d.1 d.2.1 d.2.2 rfl, h2.get 1 B5 e.1 e.2.1 e.2.2 rfl, h2.get 0 B6 f.1 f.2.1 f.2.2 rfl⟩

set_option maxRecDepth 100000 in
set_option maxHeartbeats 40000000 in
theorem VersionNumbers_any (a0 a1 a2 b0 b1 b2 lv : Int) (v : Value) (l : List V3) (w : World) (hm : EnvOk w) (hv : RowV v l w) :
    Calls Tryz.prog 3 #[.agg #[.int .i64 a0, .int .i64 a1, .int .i64 a2], .agg #[.int .i64 b0, .int .i64 b1, .int .i64 b2], .int .i64 lv, v] w fun e w' => e = .returned (.bool true) ∧ Below w.heap.size w w' := by
  have HS0 : Hid (AwS w ((w.alloc (.cells #[.int .i64 a0, .int .i64 a1, .int .i64 a2] 23)).alloc (.cells #[.int .i64 b0, .int .i64 b1, .int .i64 b2] 23)) [(w.heap.size + 1, (b0, b1, b2)), (w.heap.size, (a0, a1, a2))]) := Lib.hid (by
    have := ((AwS.start w).box a0 a1 a2).box b0 b1 b2
    simp only [World.size_alloc] at this; exact this)
  have HA := Lib.hid (awake_any _ (hm.below HS0.out.1))
  clear hm
  obtain ⟨ad, cap, rfl⟩ : ∃ a c, v = .slice a l.length c := by
    rcases hv with ⟨h, a, c, h2⟩ | ⟨b, off, cap, h, _⟩
    · exact ⟨a, c, by rw [h2, h]; rfl⟩
    · exact ⟨_, _, h⟩
  have HV := Lib.hid hv
  clear hv
  by_cases hl : l.length ≤ 40
  case neg =>
    have hl2 : (40 : Int) < (l.length : Int) := by omega
    go_enter Tryz.func3, Tryz.ntmps3
    go_wp2_with fail
    (with_reducible refine HA.out.mono ?_)
    rintro e w1 ⟨rfl, hb1⟩
    have HS1 := Lib.hid (HS0.out.below hb1)
    clear hb1
    go_wp2_with fail
    go_ret
    exact ⟨rfl, HS1.out.1⟩
  have hl2 : ¬ (40 : Int) < (l.length : Int) := by omega
  have HL := Lib.hid (show l.length ≤ 1000000 by omega)
  have HN := Lib.hid (fun W => Next_any a0 a1 a2 lv W)
  have HRN := Lib.hid (fun W => rNext_any a0 a1 a2 lv W)
  obtain ⟨⟨⟨p, q, r⟩, ne⟩, hne⟩ : ∃ x, nextV a0 a1 a2 lv = x := ⟨_, rfl⟩
  rw [hne] at HN HRN
  have HC := Lib.hid (fun W => Claims_any a0 a1 a2 b0 b1 b2 W)
  have HRC := Lib.hid (fun W => rClaims_any a0 a1 a2 b0 b1 b2 W)
  obtain ⟨⟨cn, ce⟩, hce⟩ : ∃ x, claimsV a0 a1 a2 b0 b1 b2 = x := ⟨_, rfl⟩
  rw [hce] at HC HRC
  obtain ⟨⟨m0, m1, m2⟩, hme⟩ : ∃ x, maxV l = x := ⟨_, rfl⟩
  have HME := Lib.hid hme
  obtain ⟨lb, hlb⟩ : ∃ x, decide (l ≠ []) = x := ⟨_, rfl⟩
  have HLB := Lib.hid hlb
  simp only at HN HRN HC HRC
  clear hne hce hme hlb
  go_enter Tryz.func3, Tryz.ntmps3
  go_wp2_with fail
  (with_reducible refine HA.out.mono ?_)
  rintro e w1 ⟨rfl, hb1⟩
  have HS1 := Lib.hid (HS0.out.below hb1)
  obtain ⟨d0, d1, d2⟩ := HS1.out.get 1 w.heap.size a0 a1 a2 rfl
  clear hb1 HS0 HA
  go_wp2_with fail
  (with_reducible refine (HN.out _).mono ?_)
  rintro e w2 ⟨rfl, hb2⟩
  have HS2 := Lib.hid ((HS1.out.below hb2).box p q r)
  clear hb2 d0 d1 d2
  obtain ⟨d0, d1, d2⟩ := HS2.out.get 2 w.heap.size a0 a1 a2 rfl
  go_wp2_with fail
  (with_reducible refine (HRN.out _).mono ?_)
  rintro e w3 ⟨rfl, hb3⟩
  have HS3 := Lib.hid ((HS2.out.below hb3).box p q r)
  clear hb3 d0 d1 d2 HS1
  obtain ⟨d0, d1, d2⟩ := HS3.out.get 3 w.heap.size a0 a1 a2 rfl
  obtain ⟨e0, e1, e2⟩ := HS3.out.get 2 (w.heap.size + 1) b0 b1 b2 rfl
  go_wp2_with fail
  (with_reducible refine (HC.out _).mono ?_)
  rintro e w4 ⟨rfl, hb4⟩
  have HS4 := Lib.hid (HS3.out.below hb4)
  clear hb4 d0 d1 d2 e0 e1 e2 HS2
  obtain ⟨d0, d1, d2⟩ := HS4.out.get 3 w.heap.size a0 a1 a2 rfl
  obtain ⟨e0, e1, e2⟩ := HS4.out.get 2 (w.heap.size + 1) b0 b1 b2 rfl
  go_wp2_with fail
  (with_reducible refine (HRC.out _).mono ?_)
  rintro e w5 ⟨rfl, hb5⟩
  have HS5 := Lib.hid (HS4.out.below hb5)
  clear hb5 d0 d1 d2 e0 e1 e2 HS3
  have HLA := Lib.hid (Latest_any _ l w5 HL.out (HV.out.below HS5.out.1))
  rw [HME.out, HLB.out] at HLA
  go_wp2_with fail
  (with_reducible refine HLA.out.mono ?_)
  rintro e w6 ⟨rfl, hb6⟩
  have HS6 := Lib.hid ((HS5.out.below hb6).box m0 m1 m2)
  clear hb6 HS4 HLA
  have HLR := Lib.hid (rLatest_any _ l _ HL.out (HV.out.below HS6.out.1))
  rw [HME.out, HLB.out] at HLR
  go_wp2_with fail
  (with_reducible refine HLR.out.mono ?_)
  rintro e w7 ⟨rfl, hb7⟩
  have HS7 := Lib.hid ((HS6.out.below hb7).box m0 m1 m2)
  clear hb7 HS5 HLR HS6
  go_wp2_with fail
  obtain ⟨W, hW⟩ : ∃ W, w7.alloc (.cells #[.int .i64 m0, .int .i64 m1, .int .i64 m2] 23) = W := ⟨_, rfl⟩
  rw [hW] at HS7 ⊢
  clear hW
  obtain ⟨⟨d0, d1, d2⟩, ⟨e0, e1, e2⟩, ⟨f0, f1, f2⟩, ⟨g0, g1, g2⟩, ⟨h0, h1, h2⟩, i0, i1, i2⟩ := keep18 HS7.out (Below.refl _ _)
  have HBC : Hid (Below W.heap.size W W) := Lib.hid (Below.refl _ _)
  have HPP := Lib.hid (fun W => Permits_any a0 a1 a2 b0 b1 b2 lv W)
  have HPR := Lib.hid (fun W => rPermits_any a0 a1 a2 b0 b1 b2 lv W)
  obtain ⟨pv, hpv⟩ : ∃ x, permitsV a0 a1 a2 b0 b1 b2 lv = x := ⟨_, rfl⟩
  rw [hpv] at HPP HPR
  have HCC := Lib.hid (fun W => Compare_any a0 a1 a2 b0 b1 b2 W)
  have HCR := Lib.hid (fun W => rCompare_any a0 a1 a2 b0 b1 b2 W)
  obtain ⟨cv, hcv⟩ : ∃ x, cmpV a0 a1 a2 b0 b1 b2 = x := ⟨_, rfl⟩
  rw [hcv] at HCC HCR
  clear hpv hcv
  go_region_held3 (fun w' => ((w'.cell? ⟨w.heap.size, 0, none⟩ = some (.int .i64 a0) ∧ w'.cell? ⟨w.heap.size, 1, none⟩ = some (.int .i64 a1) ∧ w'.cell? ⟨w.heap.size, 2, none⟩ = some (.int .i64 a2)) ∧
    (w'.cell? ⟨w.heap.size + 1, 0, none⟩ = some (.int .i64 b0) ∧ w'.cell? ⟨w.heap.size + 1, 1, none⟩ = some (.int .i64 b1) ∧ w'.cell? ⟨w.heap.size + 1, 2, none⟩ = some (.int .i64 b2)) ∧
    (w'.cell? ⟨w2.heap.size, 0, none⟩ = some (.int .i64 p) ∧ w'.cell? ⟨w2.heap.size, 1, none⟩ = some (.int .i64 q) ∧ w'.cell? ⟨w2.heap.size, 2, none⟩ = some (.int .i64 r)) ∧
    (w'.cell? ⟨w3.heap.size, 0, none⟩ = some (.int .i64 p) ∧ w'.cell? ⟨w3.heap.size, 1, none⟩ = some (.int .i64 q) ∧ w'.cell? ⟨w3.heap.size, 2, none⟩ = some (.int .i64 r)) ∧
    (w'.cell? ⟨w6.heap.size, 0, none⟩ = some (.int .i64 m0) ∧ w'.cell? ⟨w6.heap.size, 1, none⟩ = some (.int .i64 m1) ∧ w'.cell? ⟨w6.heap.size, 2, none⟩ = some (.int .i64 m2)) ∧
    (w'.cell? ⟨w7.heap.size, 0, none⟩ = some (.int .i64 m0) ∧ w'.cell? ⟨w7.heap.size, 1, none⟩ = some (.int .i64 m1) ∧ w'.cell? ⟨w7.heap.size, 2, none⟩ = some (.int .i64 m2))))
    ((first | (exact keep18 HS7.out HBC.out) | (exact keep18 HS7.out HBC.out.drew)))
    (first | (go_at_call 12; refine (HCC.out _).mono ?_; rintro e wq ⟨rfl, hbc⟩; (first | (replace HBC := Lib.hid (HBC.out.trans (hbc.mono HBC.out.size))) | (replace HBC := Lib.hid (HBC.out.drew.trans (hbc.mono HBC.out.size)))); clear hbc)
             | (go_at_call 13; refine (HCR.out _).mono ?_; rintro e wq ⟨rfl, hbc⟩; (first | (replace HBC := Lib.hid (HBC.out.trans (hbc.mono HBC.out.size))) | (replace HBC := Lib.hid (HBC.out.drew.trans (hbc.mono HBC.out.size)))); clear hbc)
             | (go_at_call 14; refine (HPP.out _).mono ?_; rintro e wq ⟨rfl, hbc⟩; (first | (replace HBC := Lib.hid (HBC.out.trans (hbc.mono HBC.out.size))) | (replace HBC := Lib.hid (HBC.out.drew.trans (hbc.mono HBC.out.size)))); clear hbc)
             | (go_at_call 15; refine (HPR.out _).mono ?_; rintro e wq ⟨rfl, hbc⟩; (first | (replace HBC := Lib.hid (HBC.out.trans (hbc.mono HBC.out.size))) | (replace HBC := Lib.hid (HBC.out.drew.trans (hbc.mono HBC.out.size)))); clear hbc))
  all_goals
    go_wp2_with fail
    go_ret
    exact ⟨rfl, (HS7.out.below HBC.out).1⟩
end Go.Proofs.YtbpgbbdebhmlkaaGreatDoor
