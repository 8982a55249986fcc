/- The statement on lines: its walk. -/
import Derived.Test.YtbpgbbdebhmlkaaGreatDoorVAwake
import Derived.Test.YtbpgbbdebhmlkaaGreatDoorVRef7
namespace Go.Proofs.YtbpgbbdebhmlkaaGreatDoor
open Go Go.RowKit

set_option maxRecDepth 100000 in
set_option maxHeartbeats 8000000 in
theorem VersionLines_any (s t : ByteArray) (m : Int) (w : World) (hm : EnvOk w) :
    Calls Tryz.prog 4 #[.string s, .string t, .int .i64 m] w fun e w' => e = .returned (.bool true) ∧ Below w.heap.size w w' := by
  have HA := Lib.hid (awake_any w hm)
  have HE := Lib.hid hm
  clear hm
  by_cases h1 : 300 < s.size ∨ 300 < t.size
  · rcases (show (300 : Int) < s.size ∨ (¬ (300 : Int) < s.size ∧ (300 : Int) < t.size) by omega) with h2 | ⟨h2, h3⟩
    all_goals
      clear h1
      go_enter Tryz.func4, Tryz.ntmps4
      go_wp2_with fail
      (with_reducible refine HA.out.mono ?_)
      rintro e w1 ⟨rfl, hb1⟩
      go_wp2_with fail
      go_ret
      exact ⟨rfl, hb1⟩
  · have h2 : ¬ (300 : Int) < s.size := by omega
    have h3 : ¬ (300 : Int) < t.size := by omega
    have z1 : s.size ≤ 1000000 := by omega
    have z2 : t.size ≤ 900000 := by omega
    have HL := Lib.hid (fun W (h : MaxOk W) => Line_any s W z1 h)
    have HRL := Lib.hid (fun W => rLine_any s W z1)
    have HP := Lib.hid (fun W (h : MaxOk W) (h2 : TabOk W) => Path_any t m W z2 h h2)
    have HRP := Lib.hid (fun W => rPath_any t m W z2)
    obtain ⟨⟨la, lb, lc⟩, hl⟩ : ∃ x, lineV s = x := ⟨_, rfl⟩
    obtain ⟨⟨pa, pb⟩, hp⟩ : ∃ x, pathV t m = x := ⟨_, rfl⟩
    rw [hl] at HL HRL
    rw [hp] at HP HRP
    simp only at HL HRL HP HRP
    clear hl hp h1 z1 z2
    go_enter Tryz.func4, Tryz.ntmps4
    go_wp2_with fail
    (with_reducible refine HA.out.mono ?_)
    rintro e w1 ⟨rfl, hb1⟩
    have HB1 := Lib.hid hb1
    have HC1 := Lib.hid (HL.out w1 (HE.out.below hb1).1)
    clear hb1
    go_wp2_with fail
    (with_reducible refine HC1.out.mono ?_)
    rintro e w2 ⟨rfl, hb2⟩
    have HB2 : Hid (Below w.heap.size w w2) := Lib.hid (HB1.out.trans (hb2.mono HB1.out.size))
    clear hb2 HC1
    go_wp2_with fail
    (with_reducible refine (HRL.out _).mono ?_)
    rintro e w3 ⟨rfl, hb3⟩
    have HB3 : Hid (Below w.heap.size w w3) := Lib.hid (HB2.out.trans (hb3.mono HB2.out.size))
    have HC3 := Lib.hid (HP.out w3 (HE.out.below HB3.out).1 (HE.out.below HB3.out).2)
    clear hb3
    go_wp2_with fail
    (with_reducible refine HC3.out.mono ?_)
    rintro e w4 ⟨rfl, hb4⟩
    have HB4 : Hid (Below w.heap.size w w4) := Lib.hid (HB3.out.trans (hb4.mono HB3.out.size))
    clear hb4 HC3
    go_wp2_with fail
    (with_reducible refine (HRP.out _).mono ?_)
    rintro e w5 ⟨rfl, hb5⟩
    have HB5 : Hid (Below w.heap.size w w5) := Lib.hid (HB4.out.trans (hb5.mono HB4.out.size))
    clear hb5
    go_wp2_with fail
    go_ret
    exact ⟨rfl, HB5.out⟩
end Go.Proofs.YtbpgbbdebhmlkaaGreatDoor
