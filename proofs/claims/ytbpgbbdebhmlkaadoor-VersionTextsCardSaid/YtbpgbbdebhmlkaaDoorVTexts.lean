/- The statement on texts: its walk. -/
import Derived.Test.YtbpgbbdebhmlkaaDoorVSteps
import Derived.Test.YtbpgbbdebhmlkaaDoorVRef8
import Derived.Test.YtbpgbbdebhmlkaaDoorVRef10
namespace Go.Proofs.YtbpgbbdebhmlkaaDoor
open Go Go.RowKit
attribute [local go_sem ↓] Go.wp_at_zero Go.wp_at_succ

theorem keep9t {w0 W w' : World} {B1 B2 B3 : Nat} {a b c : V3} (h : AwS w0 W [(B1, a), (B2, b), (B3, c)]) (hb : Below W.heap.size W w') :
    (w'.cell? ⟨B3, 0, none⟩ = some (.int .i64 c.1) ∧ w'.cell? ⟨B3, 1, none⟩ = some (.int .i64 c.2.1) ∧ w'.cell? ⟨B3, 2, none⟩ = some (.int .i64 c.2.2)) ∧
    (w'.cell? ⟨B2, 0, none⟩ = some (.int .i64 b.1) ∧ w'.cell? ⟨B2, 1, none⟩ = some (.int .i64 b.2.1) ∧ w'.cell? ⟨B2, 2, none⟩ = some (.int .i64 b.2.2)) ∧
    (w'.cell? ⟨B1, 0, none⟩ = some (.int .i64 a.1) ∧ w'.cell? ⟨B1, 1, none⟩ = some (.int .i64 a.2.1) ∧ w'.cell? ⟨B1, 2, none⟩ = some (.int .i64 a.2.2)) := by
  have h2 := h.below hb
  exact ⟨h2.get 2 B3 c.1 c.2.1 c.2.2 rfl, h2.get 1 B2 b.1 b.2.1 b.2.2 rfl, h2.get 0 B1 a.1 a.2.1 a.2.2 rfl⟩
theorem valid_below (a b c : Int) (W : World) : Calls Tryd.prog 13 #[.agg #[.int .i64 a, .int .i64 b, .int .i64 c]] W fun e w' => e = .returned (.bool (validB a b c)) ∧ Below W.heap.size W w' :=
  (Valid_any a b c W).mono fun e w' ⟨h1, h2⟩ => ⟨h1, by subst h2; exact (by repeat (first | exact Below.refl _ _ | refine Below.drew ?_ | refine Below.alloc ?_ (by simp <;> omega) _ | refine Below.setCell ?_ (by simp <;> omega) _))⟩
theorem rvalid_below (a b c : Int) (W : World) : Calls Tryd.prog 14 #[.agg #[.int .i64 a, .int .i64 b, .int .i64 c]] W fun e w' => e = .returned (.bool (validB a b c)) ∧ Below W.heap.size W w' :=
  (rValid_any a b c W).mono fun e w' ⟨h1, h2⟩ => ⟨h1, by subst h2; exact (by repeat (first | exact Below.refl _ _ | refine Below.drew ?_ | refine Below.alloc ?_ (by simp <;> omega) _ | refine Below.setCell ?_ (by simp <;> omega) _))⟩

set_option maxRecDepth 100000 in
set_option maxHeartbeats 40000000 in
theorem VersionTexts_any (s : ByteArray) (a0 a1 a2 : Int) (w : World) (hm : EnvOk w) :
    Calls Tryd.prog 3 #[.string s, .agg #[.int .i64 a0, .int .i64 a1, .int .i64 a2]] w fun e w' => e = .returned (.bool true) ∧ Below w.heap.size w w' := by
  have HS0 : Hid (AwS w (w.alloc (.cells #[.int .i64 a0, .int .i64 a1, .int .i64 a2] 23)) [(w.heap.size, (a0, a1, a2))]) := Lib.hid ((AwS.start w).box a0 a1 a2)
  have HA := Lib.hid (awake_any _ (hm.below HS0.out.1))
  have HM := Lib.hid hm
  clear hm
  by_cases h1 : 300 < s.size
  · have h2 : (300 : Int) < s.size := by omega
    clear h1
    go_enter Tryd.func3, Tryd.ntmps3
    go_wp2_with fail
    (with_reducible refine HA.out.mono ?_)
    rintro e w1 ⟨rfl, hb1⟩
    have HS1 := Lib.hid (HS0.out.below hb1)
    clear hb1
    go_wp2_with fail
    go_ret
    exact ⟨rfl, HS1.out.1⟩
  · have h2 : ¬ (300 : Int) < s.size := by omega
    have z1 : s.size ≤ 1000000 := by omega
    have HP := Lib.hid (fun W (h : MaxOk W) => Parse_any s W z1 h)
    have HRP := Lib.hid (fun W => rParse_any s W z1)
    have HF := Lib.hid (fun W (h : TabOk W) => Format_any a0 a1 a2 W h)
    have HRF := Lib.hid (fun W => rFormat_any a0 a1 a2 W)
    obtain ⟨⟨⟨p, q, r⟩, pe⟩, hp⟩ : ∃ x, parseV s.data.toList = x := ⟨_, rfl⟩
    obtain ⟨⟨fl, fe⟩, hf⟩ : ∃ x, formatV a0 a1 a2 = x := ⟨_, rfl⟩
    rw [hp] at HP HRP
    rw [hf] at HF HRF
    simp only at HP HRP HF HRF
    obtain ⟨fb, hfb⟩ : ∃ x : ByteArray, (⟨fl.toArray⟩ : ByteArray) = x := ⟨_, rfl⟩
    rw [hfb] at HF HRF
    clear hp hf hfb h1 z1
    go_enter Tryd.func3, Tryd.ntmps3
    go_wp2_with fail
    (with_reducible refine HA.out.mono ?_)
    rintro e w1 ⟨rfl, hb1⟩
    have HS1 := Lib.hid (HS0.out.below hb1)
    have HC1 := Lib.hid (HP.out w1 (HM.out.below HS1.out.1).1)
    clear hb1
    go_wp2_with fail
    (with_reducible refine HC1.out.mono ?_)
    rintro e w2 ⟨rfl, hb2⟩
    have HS2 := Lib.hid ((HS1.out.below hb2).box p q r)
    clear hb2 HC1
    go_wp2_with fail
    (with_reducible refine (HRP.out _).mono ?_)
    rintro e w3 ⟨rfl, hb3⟩
    have HS3 := Lib.hid ((HS2.out.below hb3).box p q r)
    obtain ⟨d0, d1, d2⟩ := HS3.out.get 2 w.heap.size a0 a1 a2 rfl
    have HC3 := Lib.hid (HF.out _ (HM.out.below HS3.out.1).2)
    clear hb3
    go_wp2_with fail
    (with_reducible refine HC3.out.mono ?_)
    rintro e w4 ⟨rfl, hb4⟩
    have HS4 := Lib.hid (HS3.out.below hb4)
    clear hb4 HC3 d0 d1 d2
    obtain ⟨d0, d1, d2⟩ := HS4.out.get 2 w.heap.size a0 a1 a2 rfl
    go_wp2_with fail
    (with_reducible refine (HRF.out _).mono ?_)
    rintro e W ⟨rfl, hb5⟩
    have HS5 := Lib.hid (HS4.out.below hb5)
    clear hb5 d0 d1 d2
    go_wp2_with fail
    obtain ⟨⟨d0, d1, d2⟩, ⟨e0, e1, e2⟩, f0, f1, f2⟩ := keep9t HS5.out (Below.refl _ _)
    have HBC : Hid (Below W.heap.size W W) := Lib.hid (Below.refl _ _)
    have HVV := Lib.hid (fun W => valid_below a0 a1 a2 W)
    have HVR := Lib.hid (fun W => rvalid_below a0 a1 a2 W)
    obtain ⟨vv, hvv⟩ : ∃ x, validB a0 a1 a2 = x := ⟨_, rfl⟩
    rw [hvv] at HVV HVR
    clear hvv
    go_region_held3 (fun w' => ((w'.cell? ⟨w.heap.size, 0, none⟩ = some (.int .i64 a0) ∧ w'.cell? ⟨w.heap.size, 1, none⟩ = some (.int .i64 a1) ∧ w'.cell? ⟨w.heap.size, 2, none⟩ = some (.int .i64 a2)) ∧
      (w'.cell? ⟨w2.heap.size, 0, none⟩ = some (.int .i64 p) ∧ w'.cell? ⟨w2.heap.size, 1, none⟩ = some (.int .i64 q) ∧ w'.cell? ⟨w2.heap.size, 2, none⟩ = some (.int .i64 r)) ∧
      (w'.cell? ⟨w3.heap.size, 0, none⟩ = some (.int .i64 p) ∧ w'.cell? ⟨w3.heap.size, 1, none⟩ = some (.int .i64 q) ∧ w'.cell? ⟨w3.heap.size, 2, none⟩ = some (.int .i64 r))))
      ((first | (exact keep9t HS5.out HBC.out) | (exact keep9t HS5.out HBC.out.drew)))
      (first | (go_at_call 13; refine (HVV.out _).mono ?_; rintro e wq ⟨rfl, hbc⟩; (first | (replace HBC := Lib.hid (HBC.out.trans (hbc.mono HBC.out.size))) | (replace HBC := Lib.hid (HBC.out.drew.trans (hbc.mono HBC.out.size)))); clear hbc)
             | (go_at_call 14; refine (HVR.out _).mono ?_; rintro e wq ⟨rfl, hbc⟩; (first | (replace HBC := Lib.hid (HBC.out.trans (hbc.mono HBC.out.size))) | (replace HBC := Lib.hid (HBC.out.drew.trans (hbc.mono HBC.out.size)))); clear hbc))
    all_goals
      go_wp2_with fail
      go_ret
      exact ⟨rfl, (HS5.out.below HBC.out).1⟩
end Go.Proofs.YtbpgbbdebhmlkaaDoor
