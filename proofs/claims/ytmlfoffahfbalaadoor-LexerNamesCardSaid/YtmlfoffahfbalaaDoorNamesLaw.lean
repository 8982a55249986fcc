/- The statement on names: its walk. -/
import Derived.Test.YtmlfoffahfbalaaDoorAwake
import Derived.Test.YtmlfoffahfbalaaDoorSegs
namespace Go.Proofs.YtmlfoffahfbalaaDoor
open Go Go.RowKit

set_option maxRecDepth 100000 in
set_option maxHeartbeats 1000000 in
theorem LexerNames_any (s : ByteArray) (w : World) (hm : MaxOk w) : Calls Tryd.prog 4 #[.string s] w fun e w' => e = .returned (.bool true) ∧ Below w.heap.size w w' := by
  have HA := Lib.hid (awake_any w hm)
  by_cases h : 300 < s.size
  · have h2 : 300 < (s.size : Int) := by omega
    go_enter Tryd.func4, Tryd.ntmps4
    go_wp2_with fail
    refine HA.out.mono ?_
    rintro e w1 ⟨rfl, hb⟩
    go_wp2_with fail
    go_ret
    exact ⟨rfl, hb⟩
  · have h2 : ¬ 300 < (s.size : Int) := by omega
    have hmx : s.size ≤ maxLen := by unfold maxLen; omega
    go_enter Tryd.func4, Tryd.ntmps4
    go_wp2_with fail
    refine HA.out.mono ?_
    rintro e w1 ⟨rfl, hb⟩
    have hm1 := hm.below hb hm.pos
    have HB := Lib.hid hb
    clear hb
    go_wp2_with fail
    refine (Major_any s w1 (by omega) hm1).mono ?_
    rintro e w2 ⟨rfl, hb2⟩
    have hm2 := hm1.below hb2 hm1.pos
    have HB2 := Lib.hid (HB.out.trans (hb2.mono HB.out.size))
    clear hb2
    go_wp2_with fail
    refine (rMajor_any s w2).mono ?_
    rintro e w3 ⟨rfl, hb3⟩
    have hm3 := hm2.below hb3 hm2.pos
    have HB3 := Lib.hid (HB2.out.trans (hb3.mono HB2.out.size))
    clear hb3
    go_wp2_with fail
    refine (IsName_any s w3 hmx hm3).mono ?_
    rintro e w4 ⟨rfl, rfl⟩
    go_wp2_with fail
    refine (rIsName_any s w3 hmx).mono ?_
    rintro e w4 ⟨rfl, hb4⟩
    have hm4 := hm3.below hb4 hm3.pos
    have HB4 := Lib.hid (HB3.out.trans (hb4.mono HB3.out.size))
    clear hb4
    go_wp2_with fail
    refine (IsType_any s w4 hmx).mono ?_
    rintro e w5 ⟨rfl, rfl⟩
    go_wp2_with fail
    refine (rIsType_any s w4 hmx).mono ?_
    rintro e w5 ⟨rfl, rfl⟩
    go_wp2_with fail
    refine (IsPath_any s w4 (by omega) hm4).mono ?_
    rintro e w5 ⟨rfl, hb5⟩
    have HB5 := Lib.hid (HB4.out.trans (hb5.mono HB4.out.size))
    clear hb5
    go_wp2_with fail
    refine (rIsPath_any s w5).mono ?_
    rintro e w6 ⟨rfl, hb6⟩
    have HB6 := Lib.hid (HB5.out.trans (hb6.mono HB5.out.size))
    clear hb6
    go_wp2_with fail
    go_ret
    exact ⟨rfl, HB6.out⟩
end Go.Proofs.YtmlfoffahfbalaaDoor
