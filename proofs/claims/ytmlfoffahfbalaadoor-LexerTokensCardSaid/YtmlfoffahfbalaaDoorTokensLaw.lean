/- The statement on tokens: its walk. -/
import Derived.Test.YtmlfoffahfbalaaDoorSame
import Derived.Test.YtmlfoffahfbalaaDoorRLex
import Derived.Test.YtmlfoffahfbalaaDoorPlainTake
namespace Go.Proofs.YtmlfoffahfbalaaDoor
open Go Go.RowKit

theorem lex_len (s : ByteArray) (h : s.size ≤ 1000) : (lexS s).toks.length ≤ 1000000 := by
  rcases lex_cases s (by omega) with ⟨ys, h1, h2⟩ | ⟨ys, b, h1, h3, h4, h2⟩
  · rw [h2]; have := Runs.len h1; simp; omega
  · rw [h2]; simp

set_option maxRecDepth 100000 in
set_option maxHeartbeats 1000000 in
theorem LexerTokens_any (s : ByteArray) (w : World) (hm : MaxOk w) : Calls Tryd.prog 3 #[.string s] w fun e w' => e = .returned (.bool true) ∧ Below w.heap.size w w' := by
  have HA := Lib.hid (awake_any w hm)
  by_cases h : 1000 < s.size ∧ s.size ≤ 65536
  · obtain ⟨h1, h2⟩ := h
    have h3 : 1000 < (s.size : Int) := by omega
    have h4 : (s.size : Int) ≤ 65536 := by omega
    go_enter Tryd.func3, Tryd.ntmps3
    go_wp2_with fail
    refine HA.out.mono ?_
    rintro e w1 ⟨rfl, hb⟩
    go_wp2_with fail
    go_ret
    exact ⟨rfl, hb⟩
  · have h2 : ¬ 1000 < (s.size : Int) ∨ (1000 < (s.size : Int) ∧ ¬ (s.size : Int) ≤ 65536) := by omega
    have HLN : Hid ((lexS s).toks.length ≤ 1000000) := Lib.hid (by
      by_cases hx : s.size ≤ 1000
      · exact lex_len s hx
      · rw [lexS_big s (by omega)]; simp)
    rcases h2 with h2 | ⟨h2, h3⟩
    all_goals
      go_enter Tryd.func3, Tryd.ntmps3
      go_wp2_with fail
      refine HA.out.mono ?_
      rintro e w1 ⟨rfl, hb⟩
      have hm1 := hm.below hb hm.pos
      have HB := Lib.hid hb
      clear hb
      go_wp2_with fail
      refine (Lex_any s w1 hm1).mono ?_
      rintro e w2 ⟨v1, rfl, hv1, -, hb2⟩
      have HB2 := Lib.hid (HB.out.trans (hb2.mono HB.out.size))
      have HV1 := Lib.hid hv1
      clear hb2 hv1
      go_wp2_with fail
      refine (rLex_any s w2).mono ?_
      rintro e w3 ⟨v2, rfl, hv2, -, hb3⟩
      have HB3 := Lib.hid (HB2.out.trans (hb3.mono HB2.out.size))
      have HSM := Lib.hid (Same_eq v1 v2 _ w3 HLN.out (Lib.hid (HV1.out.reads hb3)) (Lib.hid (hv2.reads (Below.refl _ _))))
      clear hb3 hv2
      go_wp2_with fail
      refine HSM.out.mono ?_
      rintro e w4 ⟨rfl, hb4⟩
      have HB4 := Lib.hid (HB3.out.trans (hb4.mono HB3.out.size))
      clear hb4
      go_wp2_with fail
      go_ret
      exact ⟨rfl, HB4.out⟩
end Go.Proofs.YtmlfoffahfbalaaDoor
