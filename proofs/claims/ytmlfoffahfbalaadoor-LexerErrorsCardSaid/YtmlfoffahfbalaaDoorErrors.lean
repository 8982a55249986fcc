/- The statement on errors: its walk. -/
import Derived.Test.YtmlfoffahfbalaaDoorAwake
import Derived.Test.YtmlfoffahfbalaaDoorPlainErr
namespace Go.Proofs.YtmlfoffahfbalaaDoor
open Go Go.RowKit

set_option maxRecDepth 100000 in
set_option maxHeartbeats 1000000 in
theorem LexerErrors_any (s : ByteArray) (w : World) (hm : MaxOk w) : Calls Tryd.prog 9 #[.string s] w fun e w' => e = .returned (.bool true) ∧ Below w.heap.size w w' := by
  have HA := Lib.hid (awake_any w hm)
  by_cases h : 1000 < s.size
  · have h2 : 1000 < (s.size : Int) := by omega
    go_enter Tryd.func9, Tryd.ntmps9
    go_wp2_with fail
    refine HA.out.mono ?_
    rintro e w1 ⟨rfl, hb⟩
    go_wp2_with fail
    go_ret
    exact ⟨rfl, hb⟩
  · have h2 : ¬ 1000 < (s.size : Int) := by omega
    by_cases h3 : (lexS s).err = 0
    · have HE := Lib.hid h3
      clear h3
      go_enter Tryd.func9, Tryd.ntmps9
      go_wp2_with fail
      refine HA.out.mono ?_
      rintro e w1 ⟨rfl, hb⟩
      have hm1 := hm.below hb hm.pos
      go_wp2_with fail
      refine (Lex_any s w1 hm1).mono ?_
      rintro e w2 ⟨v, rfl, -, -, hb2⟩
      rw [HE.out]
      go_wp2_with fail
      go_ret
      exact ⟨rfl, hb.trans (hb2.mono hb.size)⟩
    · obtain ⟨g1, g2⟩ := err_all s (by omega) h3
      obtain ⟨at0, hat⟩ : ∃ at0, (lexS s).off = at0 := ⟨_, rfl⟩
      obtain ⟨er, her⟩ : ∃ er, (lexS s).err = er := ⟨_, rfl⟩
      rw [hat] at g1 g2
      rw [her] at g2 h3
      have h4 : (er == 0) = false := by rw [beq_eq_false_iff_ne]; exact h3
      obtain ⟨p, hp⟩ : ∃ p, s.extract 0 at0 = p := ⟨_, rfl⟩
      obtain ⟨q, hq⟩ : ∃ q, s.extract at0 s.size = q := ⟨_, rfl⟩
      have HG := Lib.hid (g2 p q (by rw [← hp, Lib.extract_data]; simp) (by rw [← hq]; exact Lib.extract_to_end s at0))
      have HAT := Lib.hid hat
      have HER := Lib.hid her
      clear g2 h3 hat her
      go_enter Tryd.func9, Tryd.ntmps9
      go_wp2_with fail
      refine HA.out.mono ?_
      rintro e w1 ⟨rfl, hb⟩
      have hm1 := hm.below hb hm.pos
      have HB := Lib.hid hb
      clear hb
      go_wp2_with fail
      refine (Lex_any s w1 hm1).mono ?_
      rintro e w2 ⟨v, rfl, -, -, hb2⟩
      have hm2 := hm1.below hb2 hm1.pos
      have HB2 := Lib.hid (HB.out.trans (hb2.mono HB.out.size))
      clear hb2
      rw [HAT.out, HER.out]
      go_wp2_with fail
      refine (Lex_any p w2 hm2).mono ?_
      rintro e w3 ⟨v2, rfl, -, -, hb3⟩
      have hm3 := hm2.below hb3 hm2.pos
      have HB3 := Lib.hid (HB2.out.trans (hb3.mono HB2.out.size))
      clear hb3
      rw [HG.out.1]
      go_wp2_with fail
      refine (Lex_any q w3 hm3).mono ?_
      rintro e w4 ⟨v3, rfl, -, -, hb4⟩
      have HB4 := Lib.hid (HB3.out.trans (hb4.mono HB3.out.size))
      clear hb4
      rw [HG.out.2.1, HG.out.2.2]
      go_wp2_with fail
      go_ret
      exact ⟨rfl, HB4.out⟩
end Go.Proofs.YtmlfoffahfbalaaDoor
