/- The statement on places: its walk. -/
import Derived.Test.YtmlfoffahfbalaaDoorAwake
import Derived.Test.YtmlfoffahfbalaaDoorRQuote
namespace Go.Proofs.YtmlfoffahfbalaaDoor
open Go Go.RowKit

set_option maxHeartbeats 1000000 in
theorem LexerPlaces_any (s : ByteArray) (o : Int) (w : World) (hm : MaxOk w) : Calls Tryd.prog 5 #[.string s, .int .i64 o] w fun e w' => e = .returned (.bool true) ∧ Below w.heap.size w w' := by
  have HA := Lib.hid (awake_any w hm)
  by_cases h : 1000 < s.size
  · have h2 : 1000 < (s.size : Int) := by omega
    go_enter Tryd.func5, Tryd.ntmps5
    go_wp2_with fail
    refine HA.out.mono ?_
    rintro e w1 ⟨rfl, hb⟩
    go_wp2_with fail
    go_ret
    exact ⟨rfl, hb⟩
  · have h2 : ¬ 1000 < (s.size : Int) := by omega
    go_enter Tryd.func5, Tryd.ntmps5
    go_wp2_with fail
    refine HA.out.mono ?_
    rintro e w1 ⟨rfl, hb⟩
    have HB := Lib.hid hb
    clear hb
    go_wp2_with fail
    refine (Position_any s o w1 (by omega)).mono ?_
    rintro e w2 ⟨rfl, rfl⟩
    go_wp2_with fail
    refine (rPosition_any s o w1 (by omega)).mono ?_
    rintro e w2 ⟨rfl, rfl⟩
    go_wp2_with fail
    refine (Quote_any s w1 (by omega)).mono ?_
    rintro e w2 ⟨rfl, hb2⟩
    have HB2 := Lib.hid hb2
    clear hb2
    go_wp2_with fail
    refine (rQuote_any s w2 (by omega)).mono ?_
    rintro e w3 ⟨rfl, hb3⟩
    have HB3 := Lib.hid hb3
    clear hb3
    go_wp2_with fail
    go_ret
    exact ⟨rfl, HB.out.trans ((HB2.out.trans (HB3.out.mono HB2.out.size)).mono HB.out.size)⟩
end Go.Proofs.YtmlfoffahfbalaaDoor
