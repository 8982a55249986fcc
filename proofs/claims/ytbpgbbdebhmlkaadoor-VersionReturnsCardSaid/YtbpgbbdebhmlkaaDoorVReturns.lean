/- The statement on returns of numbers: its walk. -/
import Derived.Test.YtbpgbbdebhmlkaaDoorVSteps
import Derived.Test.YtbpgbbdebhmlkaaDoorVPlainBack2
namespace Go.Proofs.YtbpgbbdebhmlkaaDoor
open Go Go.RowKit

theorem parse_cases (l : List UInt8) : parseV l = ((0, 0, 0), 3) ∨ ∃ a b c, parseV l = ((a, b, c), 0) := by
  unfold parseV
  split
  · split
    · exact .inr ⟨_, _, _, rfl⟩
    · exact .inl rfl
  · exact .inl rfl
theorem fmtL_len (a b c : Int) (h : validB a b c = true) : (fmtL a b c).length ≤ 11 := by
  obtain ⟨⟨a0, a1⟩, ⟨b0, b1⟩, c0, c1⟩ := valid_le h
  have l1 := decL_len a a1
  have l2 := decL_len b b1
  have l3 := decL_len c c1
  unfold fmtL; simp only [List.length_append, List.length_cons]; omega
theorem vbelow (a b c : Int) (W : World) : Calls Tryd.prog 13 #[.agg #[.int .i64 a, .int .i64 b, .int .i64 c]] W fun e w' => e = .returned (.bool (validB a b c)) ∧ Below W.heap.size W w' :=
  (Valid_any a b c W).mono fun e w' ⟨h1, h2⟩ => ⟨h1, by subst h2; exact (by repeat (first | exact Below.refl _ _ | refine Below.drew ?_ | refine Below.alloc ?_ (by simp <;> omega) _ | refine Below.setCell ?_ (by simp <;> omega) _))⟩
set_option maxRecDepth 100000 in
set_option maxHeartbeats 40000000 in
theorem VersionReturns_any (a0 a1 a2 : Int) (s t : ByteArray) (w : World) (hm : EnvOk w) :
    Calls Tryd.prog 4 #[.agg #[.int .i64 a0, .int .i64 a1, .int .i64 a2], .string s, .string t] w fun e w' => e = .returned (.bool true) ∧ Below w.heap.size w w' := by
  have HS0 : Hid (AwS w (w.alloc (.cells #[.int .i64 a0, .int .i64 a1, .int .i64 a2] 23)) [(w.heap.size, (a0, a1, a2))]) := Lib.hid ((AwS.start w).box a0 a1 a2)
  have HA := Lib.hid (awake_any _ (hm.below HS0.out.1))
  have HM := Lib.hid hm
  clear hm
  by_cases h1 : 300 < s.size ∨ 300 < t.size
  · rcases (show (300 : Int) < s.size ∨ (¬ (300 : Int) < s.size ∧ (300 : Int) < t.size) by omega) with h2 | ⟨h2, h3⟩
    all_goals
      clear h1
      go_enter Tryd.func4, Tryd.ntmps4
      go_wp2_with fail
      (with_reducible refine HA.out.mono ?_)
      rintro e w1 ⟨rfl, hb1⟩
      have HS1 := Lib.hid (HS0.out.below hb1)
      clear hb1
      go_wp2_with fail
      go_ret
      exact ⟨rfl, HS1.out.1⟩
  have h2 : ¬ (300 : Int) < s.size := by omega
  have h3 : ¬ (300 : Int) < t.size := by omega
  have z1 : s.size ≤ 1000000 := by omega
  have z2 : t.size ≤ 1000000 := by omega
  have HVA := Lib.hid (vbelow a0 a1 a2)
  have HPS := Lib.hid (fun W (h : MaxOk W) => Parse_any s W z1 h)
  have HLT := Lib.hid (fun W (h : MaxOk W) => Line_any t W z2 h)
  have HFV := Lib.hid (fun W (h : TabOk W) => Format_any a0 a1 a2 W h)
  have hlsz : (lineV t).1.size ≤ 900000 := by
    unfold lineV
    split
    · show (t.extract 0 _).size ≤ _; rw [ByteArray.size_extract]; omega
    · show (⟨#[]⟩ : ByteArray).size ≤ _; decide
  have HPL := Lib.hid (fun W (h : MaxOk W) (h2 : TabOk W) => Path_any (lineV t).1 (lineV t).2.1 W hlsz h h2)
  clear h1 z1 z2 hlsz
  by_cases hv : validB a0 a1 a2 = true
  · have hpf := parse_format a0 a1 a2 hv
    have hln := fmtL_len a0 a1 a2 hv
    obtain ⟨fb, hfb⟩ : ∃ x : ByteArray, (⟨(fmtL a0 a1 a2).toArray⟩ : ByteArray) = x := ⟨_, rfl⟩
    have hfd : fb.data.toList = fmtL a0 a1 a2 := by rw [← hfb]
    have HPF := Lib.hid (fun W (h : MaxOk W) => Parse_any fb W (by rw [Lib.size_eq, hfd]; omega) h)
    rw [hfd, hpf] at HPF
    rw [show formatV a0 a1 a2 = (fmtL a0 a1 a2, 0) by unfold formatV; rw [if_pos hv]] at HFV
    simp only at HPF HFV
    rw [hfb] at HFV
    rw [hv] at HVA
    clear hv hpf hln hfb hfd
    rcases parse_cases s.data.toList with hps | ⟨p, q, r, hps⟩
    · rw [hps] at HPS
      simp only at HPS
      clear hps
      by_cases hpo : pathOk t = true
      · have hpl := path_line t hpo
        obtain ⟨⟨la, lb, lc⟩, hl⟩ : ∃ x, lineV t = x := ⟨_, rfl⟩
        have hlc : lc = 0 := by have := congrArg (fun x => x.2.2) hl; simp only at this; rw [← this]; unfold lineV; rw [hpo]; rfl
        rw [hl] at HLT HPL hpl
        simp only at HLT HPL hpl
        rw [hpl] at HPL
        simp only at HPL
        subst hlc
        clear hpl hl hpo
        go_enter Tryd.func4, Tryd.ntmps4
        go_wp2_with fail
        (with_reducible refine HA.out.mono ?_)
        rintro e w1 ⟨rfl, hb1⟩
        have HS1 := Lib.hid (HS0.out.below hb1)
        clear hb1
        obtain ⟨d0, d1, d2⟩ := HS1.out.get 0 w.heap.size a0 a1 a2 rfl
        have HC2 := Lib.hid (HFV.out _ (HM.out.below HS1.out.1).2)
        go_wp2_with fail
        (with_reducible refine HC2.out.mono ?_)
        rintro e w2 ⟨rfl, hb2⟩
        have HS2 := Lib.hid (HS1.out.below hb2)
        clear hb2 HC2 d0 d1 d2
        have HC3 := Lib.hid (HPF.out _ (HM.out.below HS2.out.1).1)
        go_wp2_with fail
        (with_reducible refine HC3.out.mono ?_)
        rintro e w3 ⟨rfl, hb3⟩
        have HS3 := Lib.hid ((HS2.out.below hb3).box a0 a1 a2)
        clear hb3 HC3
        obtain ⟨d0, d1, d2⟩ := HS3.out.get 1 w.heap.size a0 a1 a2 rfl
        go_wp2_with fail
        (with_reducible refine (HVA.out _).mono ?_)
        rintro e w4 ⟨rfl, hb4⟩
        have HS4 := Lib.hid (HS3.out.below hb4)
        clear hb4 d0 d1 d2
        have HC5 := Lib.hid (HPS.out _ (HM.out.below HS4.out.1).1)
        go_wp2_with fail
        (with_reducible refine HC5.out.mono ?_)
        rintro e w5 ⟨rfl, hb5⟩
        have HS5 := Lib.hid ((HS4.out.below hb5).box 0 0 0)
        clear hb5 HC5
        have HS6 := HS5
        have HC7 := Lib.hid (HLT.out _ (HM.out.below HS6.out.1).1)
        go_wp2_with fail
        (with_reducible refine HC7.out.mono ?_)
        rintro e w7 ⟨rfl, hb7⟩
        have HS7 := Lib.hid (HS6.out.below hb7)
        clear hb7 HC7
        have HC8 := Lib.hid (HPL.out _ (HM.out.below HS7.out.1).1 (HM.out.below HS7.out.1).2)
        go_wp2_with fail
        (with_reducible refine HC8.out.mono ?_)
        rintro e w8 ⟨rfl, hb8⟩
        have HS8 := Lib.hid (HS7.out.below hb8)
        clear hb8 HC8
        go_wp2_with fail
        go_ret
        exact ⟨rfl, HS8.out.1⟩
      · have hl : lineV t = (⟨#[]⟩, 0, 4) := by unfold lineV; rw [if_neg hpo]
        rw [hl] at HLT
        simp only at HLT
        clear hl hpo HPL
        go_enter Tryd.func4, Tryd.ntmps4
        go_wp2_with fail
        (with_reducible refine HA.out.mono ?_)
        rintro e w1 ⟨rfl, hb1⟩
        have HS1 := Lib.hid (HS0.out.below hb1)
        clear hb1
        obtain ⟨d0, d1, d2⟩ := HS1.out.get 0 w.heap.size a0 a1 a2 rfl
        have HC2 := Lib.hid (HFV.out _ (HM.out.below HS1.out.1).2)
        go_wp2_with fail
        (with_reducible refine HC2.out.mono ?_)
        rintro e w2 ⟨rfl, hb2⟩
        have HS2 := Lib.hid (HS1.out.below hb2)
        clear hb2 HC2 d0 d1 d2
        have HC3 := Lib.hid (HPF.out _ (HM.out.below HS2.out.1).1)
        go_wp2_with fail
        (with_reducible refine HC3.out.mono ?_)
        rintro e w3 ⟨rfl, hb3⟩
        have HS3 := Lib.hid ((HS2.out.below hb3).box a0 a1 a2)
        clear hb3 HC3
        obtain ⟨d0, d1, d2⟩ := HS3.out.get 1 w.heap.size a0 a1 a2 rfl
        go_wp2_with fail
        (with_reducible refine (HVA.out _).mono ?_)
        rintro e w4 ⟨rfl, hb4⟩
        have HS4 := Lib.hid (HS3.out.below hb4)
        clear hb4 d0 d1 d2
        have HC5 := Lib.hid (HPS.out _ (HM.out.below HS4.out.1).1)
        go_wp2_with fail
        (with_reducible refine HC5.out.mono ?_)
        rintro e w5 ⟨rfl, hb5⟩
        have HS5 := Lib.hid ((HS4.out.below hb5).box 0 0 0)
        clear hb5 HC5
        have HS6 := HS5
        have HC7 := Lib.hid (HLT.out _ (HM.out.below HS6.out.1).1)
        go_wp2_with fail
        (with_reducible refine HC7.out.mono ?_)
        rintro e w7 ⟨rfl, hb7⟩
        have HS7 := Lib.hid (HS6.out.below hb7)
        clear hb7 HC7
        have HS8 := HS7
        go_wp2_with fail
        go_ret
        exact ⟨rfl, HS8.out.1⟩
    · obtain ⟨hvp, hfp⟩ := format_parse _ _ _ _ hps
      have HFS := Lib.hid (fun W (h : TabOk W) => Format_any p q r W h)
      rw [show formatV p q r = (s.data.toList, 0) by unfold formatV; rw [if_pos hvp, hfp]] at HFS
      rw [hps] at HPS
      simp only at HPS HFS
      rw [show (⟨s.data.toList.toArray⟩ : ByteArray) = s by cases s; simp] at HFS
      clear hps hvp hfp
      by_cases hpo : pathOk t = true
      · have hpl := path_line t hpo
        obtain ⟨⟨la, lb, lc⟩, hl⟩ : ∃ x, lineV t = x := ⟨_, rfl⟩
        have hlc : lc = 0 := by have := congrArg (fun x => x.2.2) hl; simp only at this; rw [← this]; unfold lineV; rw [hpo]; rfl
        rw [hl] at HLT HPL hpl
        simp only at HLT HPL hpl
        rw [hpl] at HPL
        simp only at HPL
        subst hlc
        clear hpl hl hpo
        go_enter Tryd.func4, Tryd.ntmps4
        go_wp2_with fail
        (with_reducible refine HA.out.mono ?_)
        rintro e w1 ⟨rfl, hb1⟩
        have HS1 := Lib.hid (HS0.out.below hb1)
        clear hb1
        obtain ⟨d0, d1, d2⟩ := HS1.out.get 0 w.heap.size a0 a1 a2 rfl
        have HC2 := Lib.hid (HFV.out _ (HM.out.below HS1.out.1).2)
        go_wp2_with fail
        (with_reducible refine HC2.out.mono ?_)
        rintro e w2 ⟨rfl, hb2⟩
        have HS2 := Lib.hid (HS1.out.below hb2)
        clear hb2 HC2 d0 d1 d2
        have HC3 := Lib.hid (HPF.out _ (HM.out.below HS2.out.1).1)
        go_wp2_with fail
        (with_reducible refine HC3.out.mono ?_)
        rintro e w3 ⟨rfl, hb3⟩
        have HS3 := Lib.hid ((HS2.out.below hb3).box a0 a1 a2)
        clear hb3 HC3
        obtain ⟨d0, d1, d2⟩ := HS3.out.get 1 w.heap.size a0 a1 a2 rfl
        go_wp2_with fail
        (with_reducible refine (HVA.out _).mono ?_)
        rintro e w4 ⟨rfl, hb4⟩
        have HS4 := Lib.hid (HS3.out.below hb4)
        clear hb4 d0 d1 d2
        have HC5 := Lib.hid (HPS.out _ (HM.out.below HS4.out.1).1)
        go_wp2_with fail
        (with_reducible refine HC5.out.mono ?_)
        rintro e w5 ⟨rfl, hb5⟩
        have HS5 := Lib.hid ((HS4.out.below hb5).box p q r)
        clear hb5 HC5
        have HC6 := Lib.hid (HFS.out _ (HM.out.below HS5.out.1).2)
        obtain ⟨d0, d1, d2⟩ := HS5.out.get 0 w5.heap.size p q r rfl
        go_wp2_with fail
        (with_reducible refine HC6.out.mono ?_)
        rintro e w6 ⟨rfl, hb6⟩
        have HS6 := Lib.hid (HS5.out.below hb6)
        clear hb6 HC6 d0 d1 d2
        have HC7 := Lib.hid (HLT.out _ (HM.out.below HS6.out.1).1)
        go_wp2_with fail
        (with_reducible refine HC7.out.mono ?_)
        rintro e w7 ⟨rfl, hb7⟩
        have HS7 := Lib.hid (HS6.out.below hb7)
        clear hb7 HC7
        have HC8 := Lib.hid (HPL.out _ (HM.out.below HS7.out.1).1 (HM.out.below HS7.out.1).2)
        go_wp2_with fail
        (with_reducible refine HC8.out.mono ?_)
        rintro e w8 ⟨rfl, hb8⟩
        have HS8 := Lib.hid (HS7.out.below hb8)
        clear hb8 HC8
        go_wp2_with fail
        go_ret
        exact ⟨rfl, HS8.out.1⟩
      · have hl : lineV t = (⟨#[]⟩, 0, 4) := by unfold lineV; rw [if_neg hpo]
        rw [hl] at HLT
        simp only at HLT
        clear hl hpo HPL
        go_enter Tryd.func4, Tryd.ntmps4
        go_wp2_with fail
        (with_reducible refine HA.out.mono ?_)
        rintro e w1 ⟨rfl, hb1⟩
        have HS1 := Lib.hid (HS0.out.below hb1)
        clear hb1
        obtain ⟨d0, d1, d2⟩ := HS1.out.get 0 w.heap.size a0 a1 a2 rfl
        have HC2 := Lib.hid (HFV.out _ (HM.out.below HS1.out.1).2)
        go_wp2_with fail
        (with_reducible refine HC2.out.mono ?_)
        rintro e w2 ⟨rfl, hb2⟩
        have HS2 := Lib.hid (HS1.out.below hb2)
        clear hb2 HC2 d0 d1 d2
        have HC3 := Lib.hid (HPF.out _ (HM.out.below HS2.out.1).1)
        go_wp2_with fail
        (with_reducible refine HC3.out.mono ?_)
        rintro e w3 ⟨rfl, hb3⟩
        have HS3 := Lib.hid ((HS2.out.below hb3).box a0 a1 a2)
        clear hb3 HC3
        obtain ⟨d0, d1, d2⟩ := HS3.out.get 1 w.heap.size a0 a1 a2 rfl
        go_wp2_with fail
        (with_reducible refine (HVA.out _).mono ?_)
        rintro e w4 ⟨rfl, hb4⟩
        have HS4 := Lib.hid (HS3.out.below hb4)
        clear hb4 d0 d1 d2
        have HC5 := Lib.hid (HPS.out _ (HM.out.below HS4.out.1).1)
        go_wp2_with fail
        (with_reducible refine HC5.out.mono ?_)
        rintro e w5 ⟨rfl, hb5⟩
        have HS5 := Lib.hid ((HS4.out.below hb5).box p q r)
        clear hb5 HC5
        have HC6 := Lib.hid (HFS.out _ (HM.out.below HS5.out.1).2)
        obtain ⟨d0, d1, d2⟩ := HS5.out.get 0 w5.heap.size p q r rfl
        go_wp2_with fail
        (with_reducible refine HC6.out.mono ?_)
        rintro e w6 ⟨rfl, hb6⟩
        have HS6 := Lib.hid (HS5.out.below hb6)
        clear hb6 HC6 d0 d1 d2
        have HC7 := Lib.hid (HLT.out _ (HM.out.below HS6.out.1).1)
        go_wp2_with fail
        (with_reducible refine HC7.out.mono ?_)
        rintro e w7 ⟨rfl, hb7⟩
        have HS7 := Lib.hid (HS6.out.below hb7)
        clear hb7 HC7
        have HS8 := HS7
        go_wp2_with fail
        go_ret
        exact ⟨rfl, HS8.out.1⟩
  · have hv : validB a0 a1 a2 = false := by simpa using hv
    rw [show formatV a0 a1 a2 = ([], 2) by unfold formatV; rw [hv]; rfl] at HFV
    simp only at HFV
    rw [hv] at HVA
    clear hv
    rcases parse_cases s.data.toList with hps | ⟨p, q, r, hps⟩
    · rw [hps] at HPS
      simp only at HPS
      clear hps
      by_cases hpo : pathOk t = true
      · have hpl := path_line t hpo
        obtain ⟨⟨la, lb, lc⟩, hl⟩ : ∃ x, lineV t = x := ⟨_, rfl⟩
        have hlc : lc = 0 := by have := congrArg (fun x => x.2.2) hl; simp only at this; rw [← this]; unfold lineV; rw [hpo]; rfl
        rw [hl] at HLT HPL hpl
        simp only at HLT HPL hpl
        rw [hpl] at HPL
        simp only at HPL
        subst hlc
        clear hpl hl hpo
        go_enter Tryd.func4, Tryd.ntmps4
        go_wp2_with fail
        (with_reducible refine HA.out.mono ?_)
        rintro e w1 ⟨rfl, hb1⟩
        have HS1 := Lib.hid (HS0.out.below hb1)
        clear hb1
        obtain ⟨d0, d1, d2⟩ := HS1.out.get 0 w.heap.size a0 a1 a2 rfl
        have HC2 := Lib.hid (HFV.out _ (HM.out.below HS1.out.1).2)
        go_wp2_with fail
        (with_reducible refine HC2.out.mono ?_)
        rintro e w2 ⟨rfl, hb2⟩
        have HS2 := Lib.hid (HS1.out.below hb2)
        clear hb2 HC2 d0 d1 d2
        obtain ⟨d0, d1, d2⟩ := HS2.out.get 0 w.heap.size a0 a1 a2 rfl
        go_wp2_with fail
        (with_reducible refine (HVA.out _).mono ?_)
        rintro e w4 ⟨rfl, hb4⟩
        have HS4 := Lib.hid (HS2.out.below hb4)
        clear hb4 d0 d1 d2
        have HC5 := Lib.hid (HPS.out _ (HM.out.below HS4.out.1).1)
        go_wp2_with fail
        (with_reducible refine HC5.out.mono ?_)
        rintro e w5 ⟨rfl, hb5⟩
        have HS5 := Lib.hid ((HS4.out.below hb5).box 0 0 0)
        clear hb5 HC5
        have HS6 := HS5
        have HC7 := Lib.hid (HLT.out _ (HM.out.below HS6.out.1).1)
        go_wp2_with fail
        (with_reducible refine HC7.out.mono ?_)
        rintro e w7 ⟨rfl, hb7⟩
        have HS7 := Lib.hid (HS6.out.below hb7)
        clear hb7 HC7
        have HC8 := Lib.hid (HPL.out _ (HM.out.below HS7.out.1).1 (HM.out.below HS7.out.1).2)
        go_wp2_with fail
        (with_reducible refine HC8.out.mono ?_)
        rintro e w8 ⟨rfl, hb8⟩
        have HS8 := Lib.hid (HS7.out.below hb8)
        clear hb8 HC8
        go_wp2_with fail
        go_ret
        exact ⟨rfl, HS8.out.1⟩
      · have hl : lineV t = (⟨#[]⟩, 0, 4) := by unfold lineV; rw [if_neg hpo]
        rw [hl] at HLT
        simp only at HLT
        clear hl hpo HPL
        go_enter Tryd.func4, Tryd.ntmps4
        go_wp2_with fail
        (with_reducible refine HA.out.mono ?_)
        rintro e w1 ⟨rfl, hb1⟩
        have HS1 := Lib.hid (HS0.out.below hb1)
        clear hb1
        obtain ⟨d0, d1, d2⟩ := HS1.out.get 0 w.heap.size a0 a1 a2 rfl
        have HC2 := Lib.hid (HFV.out _ (HM.out.below HS1.out.1).2)
        go_wp2_with fail
        (with_reducible refine HC2.out.mono ?_)
        rintro e w2 ⟨rfl, hb2⟩
        have HS2 := Lib.hid (HS1.out.below hb2)
        clear hb2 HC2 d0 d1 d2
        obtain ⟨d0, d1, d2⟩ := HS2.out.get 0 w.heap.size a0 a1 a2 rfl
        go_wp2_with fail
        (with_reducible refine (HVA.out _).mono ?_)
        rintro e w4 ⟨rfl, hb4⟩
        have HS4 := Lib.hid (HS2.out.below hb4)
        clear hb4 d0 d1 d2
        have HC5 := Lib.hid (HPS.out _ (HM.out.below HS4.out.1).1)
        go_wp2_with fail
        (with_reducible refine HC5.out.mono ?_)
        rintro e w5 ⟨rfl, hb5⟩
        have HS5 := Lib.hid ((HS4.out.below hb5).box 0 0 0)
        clear hb5 HC5
        have HS6 := HS5
        have HC7 := Lib.hid (HLT.out _ (HM.out.below HS6.out.1).1)
        go_wp2_with fail
        (with_reducible refine HC7.out.mono ?_)
        rintro e w7 ⟨rfl, hb7⟩
        have HS7 := Lib.hid (HS6.out.below hb7)
        clear hb7 HC7
        have HS8 := HS7
        go_wp2_with fail
        go_ret
        exact ⟨rfl, HS8.out.1⟩
    · obtain ⟨hvp, hfp⟩ := format_parse _ _ _ _ hps
      have HFS := Lib.hid (fun W (h : TabOk W) => Format_any p q r W h)
      rw [show formatV p q r = (s.data.toList, 0) by unfold formatV; rw [if_pos hvp, hfp]] at HFS
      rw [hps] at HPS
      simp only at HPS HFS
      rw [show (⟨s.data.toList.toArray⟩ : ByteArray) = s by cases s; simp] at HFS
      clear hps hvp hfp
      by_cases hpo : pathOk t = true
      · have hpl := path_line t hpo
        obtain ⟨⟨la, lb, lc⟩, hl⟩ : ∃ x, lineV t = x := ⟨_, rfl⟩
        have hlc : lc = 0 := by have := congrArg (fun x => x.2.2) hl; simp only at this; rw [← this]; unfold lineV; rw [hpo]; rfl
        rw [hl] at HLT HPL hpl
        simp only at HLT HPL hpl
        rw [hpl] at HPL
        simp only at HPL
        subst hlc
        clear hpl hl hpo
        go_enter Tryd.func4, Tryd.ntmps4
        go_wp2_with fail
        (with_reducible refine HA.out.mono ?_)
        rintro e w1 ⟨rfl, hb1⟩
        have HS1 := Lib.hid (HS0.out.below hb1)
        clear hb1
        obtain ⟨d0, d1, d2⟩ := HS1.out.get 0 w.heap.size a0 a1 a2 rfl
        have HC2 := Lib.hid (HFV.out _ (HM.out.below HS1.out.1).2)
        go_wp2_with fail
        (with_reducible refine HC2.out.mono ?_)
        rintro e w2 ⟨rfl, hb2⟩
        have HS2 := Lib.hid (HS1.out.below hb2)
        clear hb2 HC2 d0 d1 d2
        obtain ⟨d0, d1, d2⟩ := HS2.out.get 0 w.heap.size a0 a1 a2 rfl
        go_wp2_with fail
        (with_reducible refine (HVA.out _).mono ?_)
        rintro e w4 ⟨rfl, hb4⟩
        have HS4 := Lib.hid (HS2.out.below hb4)
        clear hb4 d0 d1 d2
        have HC5 := Lib.hid (HPS.out _ (HM.out.below HS4.out.1).1)
        go_wp2_with fail
        (with_reducible refine HC5.out.mono ?_)
        rintro e w5 ⟨rfl, hb5⟩
        have HS5 := Lib.hid ((HS4.out.below hb5).box p q r)
        clear hb5 HC5
        have HC6 := Lib.hid (HFS.out _ (HM.out.below HS5.out.1).2)
        obtain ⟨d0, d1, d2⟩ := HS5.out.get 0 w5.heap.size p q r rfl
        go_wp2_with fail
        (with_reducible refine HC6.out.mono ?_)
        rintro e w6 ⟨rfl, hb6⟩
        have HS6 := Lib.hid (HS5.out.below hb6)
        clear hb6 HC6 d0 d1 d2
        have HC7 := Lib.hid (HLT.out _ (HM.out.below HS6.out.1).1)
        go_wp2_with fail
        (with_reducible refine HC7.out.mono ?_)
        rintro e w7 ⟨rfl, hb7⟩
        have HS7 := Lib.hid (HS6.out.below hb7)
        clear hb7 HC7
        have HC8 := Lib.hid (HPL.out _ (HM.out.below HS7.out.1).1 (HM.out.below HS7.out.1).2)
        go_wp2_with fail
        (with_reducible refine HC8.out.mono ?_)
        rintro e w8 ⟨rfl, hb8⟩
        have HS8 := Lib.hid (HS7.out.below hb8)
        clear hb8 HC8
        go_wp2_with fail
        go_ret
        exact ⟨rfl, HS8.out.1⟩
      · have hl : lineV t = (⟨#[]⟩, 0, 4) := by unfold lineV; rw [if_neg hpo]
        rw [hl] at HLT
        simp only at HLT
        clear hl hpo HPL
        go_enter Tryd.func4, Tryd.ntmps4
        go_wp2_with fail
        (with_reducible refine HA.out.mono ?_)
        rintro e w1 ⟨rfl, hb1⟩
        have HS1 := Lib.hid (HS0.out.below hb1)
        clear hb1
        obtain ⟨d0, d1, d2⟩ := HS1.out.get 0 w.heap.size a0 a1 a2 rfl
        have HC2 := Lib.hid (HFV.out _ (HM.out.below HS1.out.1).2)
        go_wp2_with fail
        (with_reducible refine HC2.out.mono ?_)
        rintro e w2 ⟨rfl, hb2⟩
        have HS2 := Lib.hid (HS1.out.below hb2)
        clear hb2 HC2 d0 d1 d2
        obtain ⟨d0, d1, d2⟩ := HS2.out.get 0 w.heap.size a0 a1 a2 rfl
        go_wp2_with fail
        (with_reducible refine (HVA.out _).mono ?_)
        rintro e w4 ⟨rfl, hb4⟩
        have HS4 := Lib.hid (HS2.out.below hb4)
        clear hb4 d0 d1 d2
        have HC5 := Lib.hid (HPS.out _ (HM.out.below HS4.out.1).1)
        go_wp2_with fail
        (with_reducible refine HC5.out.mono ?_)
        rintro e w5 ⟨rfl, hb5⟩
        have HS5 := Lib.hid ((HS4.out.below hb5).box p q r)
        clear hb5 HC5
        have HC6 := Lib.hid (HFS.out _ (HM.out.below HS5.out.1).2)
        obtain ⟨d0, d1, d2⟩ := HS5.out.get 0 w5.heap.size p q r rfl
        go_wp2_with fail
        (with_reducible refine HC6.out.mono ?_)
        rintro e w6 ⟨rfl, hb6⟩
        have HS6 := Lib.hid (HS5.out.below hb6)
        clear hb6 HC6 d0 d1 d2
        have HC7 := Lib.hid (HLT.out _ (HM.out.below HS6.out.1).1)
        go_wp2_with fail
        (with_reducible refine HC7.out.mono ?_)
        rintro e w7 ⟨rfl, hb7⟩
        have HS7 := Lib.hid (HS6.out.below hb7)
        clear hb7 HC7
        have HS8 := HS7
        go_wp2_with fail
        go_ret
        exact ⟨rfl, HS8.out.1⟩
end Go.Proofs.YtbpgbbdebhmlkaaDoor
