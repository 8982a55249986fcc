/- Contract of the reference's token. -/
import Derived.Test.YtmlfoffahfbalaaDoorRText
import Derived.Test.YtmlfoffahfbalaaDoorNext3
namespace Go.Proofs.YtmlfoffahfbalaaDoor
open Go Go.RowKit

theorem tok_zero (s : ByteArray) : tokS s 0 = tokL s.data.toList := by unfold tokS; rw [List.drop_zero]
theorem below_one (w : World) (o : Obj) : Below w.heap.size w (w.alloc o) := (Below.refl _ _).alloc (Nat.le_refl _) _

set_option maxRecDepth 100000 in
set_option maxHeartbeats 4000000 in
theorem rtoken_quote (s : ByteArray) (w : World) (hs : s.size ≤ 1000000) (h0 : 0 < s.size) (hc : s[0] = 34) : Calls Tryd.prog 35 #[.string s] w (TokR (tokL s.data.toList) w) := by
  have HX := Lib.hid (fun w' : World => rtext_any s w' hs h0 hc)
  have n34 : (((s[0]).toNat : Int) == 34) = true := by rw [hc]; rfl
  clear hc
  go_enter Tryd.func35, Tryd.ntmps35
  go_wp2_with fail
  refine (HX.out _).mono ?_
  rintro e w2 ⟨⟨k, t, n, rfl, hok⟩, hb⟩
  rw [World.size_alloc] at hb
  obtain ⟨f0, f1, f2, z0, z1, z2, hlw⟩ := cells_of_one hb
  have HB : Hid (Below w.heap.size w w2) := Lib.hid ((below_one w _).trans (hb.mono (Nat.le_succ _)))
  have HOK := Lib.hid hok
  clear hb hok
  go_wp2_with fail
  refine bodyPost_ret (v := .tuple #[.agg #[.int .i64 k, .string t, .int .i64 0], .int .i64 n, .int .i64 (tokL s.data.toList).err]) (by simp [results, Tryd.results35, go_sem, f0, f1, f2]) rfl ?_
  exact ⟨⟨k, t, n, rfl, HOK.out⟩, below_set3 HB.out _ _ _⟩

set_option maxRecDepth 100000 in
set_option maxHeartbeats 4000000 in
theorem rtoken_digit (s : ByteArray) (w : World) (hs : s.size ≤ 1000000) (h0 : 0 < s.size) (h3 : digitZ (s[0].toNat : Int) = true) : Calls Tryd.prog 35 #[.string s] w (TokR (tokL s.data.toList) w) := by
  have HT := Lib.hid (tok_digit s 0 h0 h3)
  rw [tok_zero] at HT
  have hb : 48 ≤ s[0].toNat ∧ s[0].toNat ≤ 57 := by
    have h3 := h3
    simp only [digitZ, Bool.and_eq_true, decide_eq_true_eq] at h3
    omega
  have h34 : (((s[0]).toNat : Int) == 34) = false := by rw [beq_eq_false_iff_ne]; omega
  clear hb
  have hle := spanZ_le digitZ s.data.toList
  rw [← Lib.size_eq] at hle
  have HW := Lib.hid (digsAt_ext s 0)
  have HSP := Lib.hid (fun w' : World => rspan_digit s w' hs)
  have HLN := Lib.hid (digsAt_len s 0)
  rw [List.drop_zero, Nat.zero_add] at HW
  rw [List.drop_zero] at HLN
  obtain ⟨en, hen⟩ : ∃ en, spanZ digitZ s.data.toList = en := ⟨_, rfl⟩
  rw [hen] at HSP HW HLN hle
  clear hen
  obtain ⟨tx, htx⟩ : ∃ tx, s.extract 0 en = tx := ⟨_, rfl⟩
  have HX : Hid (tx = ⟨(digsAt s 0).toArray⟩) := Lib.hid (by rw [← htx, HW.out])
  clear HW
  obtain ⟨c, hc⟩ : ∃ c, s[0] = c := ⟨_, rfl⟩
  rw [hc] at h3 h34
  have HC := Lib.hid hc
  have hle2 : (en : Int) ≤ s.size := by omega
  by_cases h4 : 19 < en
  case pos =>
    have HE : Hid ((tokL s.data.toList).err = 3 ∧ (3 : Int) ≠ 0) := Lib.hid ⟨by rw [HT.out, if_pos (.inl (by rw [HLN.out]; exact h4))], by decide⟩
    have h5 : 19 < (en : Int) := by omega
    go_enter Tryd.func35, Tryd.ntmps35
    go_wp2_with (first | (go_at_call 64; refine (rdigit_any _ _).mono ?_; rintro e w' ⟨rfl, rfl⟩))
    refine (HSP.out _).mono ?_
    rintro e w' ⟨rfl, rfl⟩
    go_wp2_with fail
    refine bodyPost_ret (v := .tuple #[.agg #[.int .i64 0, .string ⟨#[]⟩, .int .i64 0], .int .i64 0, .int .i64 3]) (by simp [results, Tryd.results35, go_sem]) rfl ?_
    exact TokR.bad HE (below_one w _)
  have h5 : ¬ 19 < (en : Int) := by omega
  by_cases h6 : 1 < en ∧ c = 48
  case pos =>
    obtain ⟨h6, h7⟩ := h6
    have HE : Hid ((tokL s.data.toList).err = 3 ∧ (3 : Int) ≠ 0) := Lib.hid ⟨by rw [HT.out, if_pos (.inr (.inl ⟨by rw [HLN.out]; exact h6, by rw [HC.out]; exact h7⟩))], by decide⟩
    have h8 : 1 < (en : Int) := by omega
    have n48 : ((c.toNat : Int) == 48) = true := by rw [h7]; rfl
    clear h7
    go_enter Tryd.func35, Tryd.ntmps35
    go_wp2_with (first | (go_at_call 64; refine (rdigit_any _ _).mono ?_; rintro e w' ⟨rfl, rfl⟩))
    refine (HSP.out _).mono ?_
    rintro e w' ⟨rfl, rfl⟩
    go_wp2_with fail
    refine bodyPost_ret (v := .tuple #[.agg #[.int .i64 0, .string ⟨#[]⟩, .int .i64 0], .int .i64 0, .int .i64 3]) (by simp [results, Tryd.results35, go_sem]) rfl ?_
    exact TokR.bad HE (below_one w _)
  have H6 := Lib.hid h6
  have h7 : ((en : Int) ≤ 1) ∨ (1 < (en : Int) ∧ ((c.toNat : Int) == 48) = false) := by
    by_cases h : 1 < en
    · refine .inr ⟨by omega, ?_⟩
      rw [beq_eq_false_iff_ne]; intro e
      exact h6 ⟨h, UInt8.toNat_inj.1 (by have : ((48 : UInt8).toNat) = 48 := rfl; omega)⟩
    · exact .inl (by omega)
  have HK : Hid (wordNext s (0 + (digsAt s 0).length) = wordNext s en) := Lib.hid (by rw [HLN.out, Nat.zero_add])
  clear h6
  by_cases h8 : en < s.size
  case pos =>
    have hl8 : (en : Int) < s.size := by omega
    have HN := Lib.hid (wordNext_in s en h8)
    have h255 : (s[en]).toNat ≤ 255 := by have := (s[en]).toNat_lt; omega
    generalize hds : s[en] = d at *
    cases h9 : wordZ (d.toNat : Int)
    · have HE : Hid (tokL s.data.toList = ⟨3, digsAt s 0, (digsAt s 0).length, 0⟩) := Lib.hid (by
        rw [HT.out, if_neg]
        rw [HK.out, HN.out, h9, HLN.out, HC.out]
        rintro (h | h | h)
        · omega
        · exact H6.out h
        · exact Bool.false_ne_true h)
      rcases h7 with h7 | ⟨h7, h10⟩
      · skip
        go_enter Tryd.func35, Tryd.ntmps35
        go_wp2_with (first | (go_at_call 64; refine (rdigit_any _ _).mono ?_; rintro e w' ⟨rfl, rfl⟩))
        refine (HSP.out _).mono ?_
        rintro e w' ⟨rfl, rfl⟩
        go_wp2_with (first | (go_at_call 66; refine (rword_any _ _).mono ?_; rintro e w' ⟨rfl, rfl⟩))
        refine bodyPost_ret (v := .tuple #[.agg #[.int .i64 3, .string tx, .int .i64 0], .int .i64 en, .int .i64 0]) (by simp [results, Tryd.results35, go_sem]) rfl ?_
        exact TokR.ok HE HX.out (by rw [HLN.out]) (below_one w _)
      · skip
        go_enter Tryd.func35, Tryd.ntmps35
        go_wp2_with (first | (go_at_call 64; refine (rdigit_any _ _).mono ?_; rintro e w' ⟨rfl, rfl⟩))
        refine (HSP.out _).mono ?_
        rintro e w' ⟨rfl, rfl⟩
        go_wp2_with (first | (go_at_call 66; refine (rword_any _ _).mono ?_; rintro e w' ⟨rfl, rfl⟩))
        refine bodyPost_ret (v := .tuple #[.agg #[.int .i64 3, .string tx, .int .i64 0], .int .i64 en, .int .i64 0]) (by simp [results, Tryd.results35, go_sem]) rfl ?_
        exact TokR.ok HE HX.out (by rw [HLN.out]) (below_one w _)
    · have HE : Hid ((tokL s.data.toList).err = 3 ∧ (3 : Int) ≠ 0) := Lib.hid ⟨by rw [HT.out, if_pos (.inr (.inr (by rw [HK.out, HN.out, h9])))], by decide⟩
      rcases h7 with h7 | ⟨h7, h10⟩
      · skip
        go_enter Tryd.func35, Tryd.ntmps35
        go_wp2_with (first | (go_at_call 64; refine (rdigit_any _ _).mono ?_; rintro e w' ⟨rfl, rfl⟩))
        refine (HSP.out _).mono ?_
        rintro e w' ⟨rfl, rfl⟩
        go_wp2_with (first | (go_at_call 66; refine (rword_any _ _).mono ?_; rintro e w' ⟨rfl, rfl⟩))
        refine bodyPost_ret (v := .tuple #[.agg #[.int .i64 0, .string ⟨#[]⟩, .int .i64 0], .int .i64 0, .int .i64 3]) (by simp [results, Tryd.results35, go_sem]) rfl ?_
        exact TokR.bad HE (below_one w _)
      · skip
        go_enter Tryd.func35, Tryd.ntmps35
        go_wp2_with (first | (go_at_call 64; refine (rdigit_any _ _).mono ?_; rintro e w' ⟨rfl, rfl⟩))
        refine (HSP.out _).mono ?_
        rintro e w' ⟨rfl, rfl⟩
        go_wp2_with (first | (go_at_call 66; refine (rword_any _ _).mono ?_; rintro e w' ⟨rfl, rfl⟩))
        refine bodyPost_ret (v := .tuple #[.agg #[.int .i64 0, .string ⟨#[]⟩, .int .i64 0], .int .i64 0, .int .i64 3]) (by simp [results, Tryd.results35, go_sem]) rfl ?_
        exact TokR.bad HE (below_one w _)
  have hl8 : ¬ (en : Int) < s.size := by omega
  have HN := Lib.hid (wordNext_out s en h8)
  have HE : Hid (tokL s.data.toList = ⟨3, digsAt s 0, (digsAt s 0).length, 0⟩) := Lib.hid (by
    rw [HT.out, if_neg]
    rw [HK.out, HN.out, HLN.out, HC.out]
    rintro (h | h | h)
    · omega
    · exact H6.out h
    · exact Bool.false_ne_true h)
  rcases h7 with h7 | ⟨h7, h10⟩
  · skip
    go_enter Tryd.func35, Tryd.ntmps35
    go_wp2_with (first | (go_at_call 64; refine (rdigit_any _ _).mono ?_; rintro e w' ⟨rfl, rfl⟩))
    refine (HSP.out _).mono ?_
    rintro e w' ⟨rfl, rfl⟩
    go_wp2_with (first | (go_at_call 66; refine (rword_any _ _).mono ?_; rintro e w' ⟨rfl, rfl⟩))
    refine bodyPost_ret (v := .tuple #[.agg #[.int .i64 3, .string tx, .int .i64 0], .int .i64 en, .int .i64 0]) (by simp [results, Tryd.results35, go_sem]) rfl ?_
    exact TokR.ok HE HX.out (by rw [HLN.out]) (below_one w _)
  · skip
    go_enter Tryd.func35, Tryd.ntmps35
    go_wp2_with (first | (go_at_call 64; refine (rdigit_any _ _).mono ?_; rintro e w' ⟨rfl, rfl⟩))
    refine (HSP.out _).mono ?_
    rintro e w' ⟨rfl, rfl⟩
    go_wp2_with (first | (go_at_call 66; refine (rword_any _ _).mono ?_; rintro e w' ⟨rfl, rfl⟩))
    refine bodyPost_ret (v := .tuple #[.agg #[.int .i64 3, .string tx, .int .i64 0], .int .i64 en, .int .i64 0]) (by simp [results, Tryd.results35, go_sem]) rfl ?_
    exact TokR.ok HE HX.out (by rw [HLN.out]) (below_one w _)
end Go.Proofs.YtmlfoffahfbalaaDoor
