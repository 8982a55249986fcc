/- Contract of the reference's token: words. -/
import Derived.Test.YtmlfoffahfbalaaDoorRToken
import Derived.Deep.RegionLaw
namespace Go.Proofs.YtmlfoffahfbalaaDoor
open Go Go.RowKit

/-- Keywords, and what Has says of its list. -/
theorem keywords_abs (w0 : World) (n : Nat) (hn : w0.heap.size = n) : Calls Tryd.prog 50 #[] w0 fun e w1 => e = .returned (.slice (some ⟨n, 0, none⟩) 28 28) ∧
    (∀ t : ByteArray, Calls Tryd.prog 49 #[.slice (some ⟨n, 0, none⟩) 28 28, .string t] w1 fun e w2 => e = .returned (.bool (kwS t)) ∧ w1 = w2) ∧ Below n w0 w1 := by
  subst hn
  refine (keywords_any w0).mono ?_
  rintro e w1 ⟨rfl, rfl⟩
  exact ⟨rfl, fun t => has_kw t w0, (Below.refl _ _).alloc (Nat.le_refl _) _⟩

set_option maxRecDepth 100000 in
set_option maxHeartbeats 4000000 in
theorem rtoken_word1 (s : ByteArray) (w : World) (hs : s.size ≤ 1000000) (h0 : 0 < s.size) (h1 : smallZ (s[0].toNat : Int) = true) (h2 : true = true ∨ capitalZ (s[0].toNat : Int) = true) : Calls Tryd.prog 35 #[.string s] w (TokR (tokL s.data.toList) w) := by
  have HT := Lib.hid (tok_word s 0 h0 (by rw [h1]; exact h2))
  rw [tok_zero] at HT
  have hb : 65 ≤ s[0].toNat := by
    have h2' : smallZ (s[0].toNat : Int) = true ∨ capitalZ (s[0].toNat : Int) = true := by rw [h1]; exact h2
    simp only [smallZ, capitalZ, Bool.and_eq_true, decide_eq_true_eq] at h2'
    omega
  have h34 : (((s[0]).toNat : Int) == 34) = false := by rw [beq_eq_false_iff_ne]; omega
  have hdg : digitZ (s[0].toNat : Int) = false := by simp [digitZ]; omega
  clear hb
  have hle := spanZ_le wordZ s.data.toList
  rw [← Lib.size_eq] at hle
  have HW := Lib.hid (wordAt_ext s 0)
  have HSP := Lib.hid (fun w' : World => rspan_word s w' hs)
  have HLN := Lib.hid (wordAt_len s 0)
  rw [List.drop_zero, Nat.zero_add] at HW
  rw [List.drop_zero] at HLN
  clear h2
  obtain ⟨en, hen⟩ : ∃ en, spanZ wordZ s.data.toList = en := ⟨_, rfl⟩
  rw [hen] at HSP HW HLN hle
  clear hen
  obtain ⟨tx, htx⟩ : ∃ tx, s.extract 0 en = tx := ⟨_, rfl⟩
  have HX : Hid (tx = ⟨(wordAt s 0).toArray⟩) := Lib.hid (by rw [← htx, HW.out])
  have htl : tx.size ≤ s.size := by rw [← htx, ByteArray.size_extract]; omega
  have hml : tx.size ≤ maxLen := by unfold maxLen; omega
  clear HW
  have hle2 : (en : Int) ≤ s.size := by omega
  have HQ : Hid (∀ b : Bool, b = false ∨ b = true) := Lib.hid (by decide)
  have KA : Hid (∀ w0 : World, w0.heap.size = w.heap.size + 1 → Calls Tryd.prog 50 #[] w0 fun e w1 => e = .returned (.slice (some ⟨w.heap.size + 1, 0, none⟩) 28 28) ∧
    (∀ t : ByteArray, Calls Tryd.prog 49 #[.slice (some ⟨w.heap.size + 1, 0, none⟩) 28 28, .string t] w1 fun e w2 => e = .returned (.bool (kwS t)) ∧ w1 = w2) ∧ Below (w.heap.size + 1) w0 w1) := Lib.hid (fun w0 h => keywords_abs w0 _ h)
  go_enter Tryd.func35, Tryd.ntmps35
  go_wp2_with (first | (go_at_call 64; refine (rdigit_any _ _).mono ?_; rintro e w' ⟨rfl, rfl⟩) | (go_at_call 47; refine (rsmall_any _ _).mono ?_; rintro e w' ⟨rfl, rfl⟩) | (go_at_call 52; refine (rcapital_any _ _).mono ?_; rintro e w' ⟨rfl, rfl⟩))
  refine (HSP.out _).mono ?_
  rintro e w' ⟨rfl, rfl⟩
  go_wp2_with fail
  go_region_with (first | (go_at_call 50; refine (KA.out _ (by simp)).mono ?_; rintro e w1 ⟨rfl, hHas, hbel⟩) | (go_at_call 49; refine (hHas _).mono ?_; rintro e w2 ⟨rfl, rfl⟩))
  all_goals
    have HB2 : Hid (Below (w.heap.size + 1) (w.alloc (.cells #[.int .i64 0, .string ⟨#[]⟩, .int .i64 0] 36)) w1) := Lib.hid (((Below.refl _ _).drew).trans hbel)
    clear hbel hHas
    obtain ⟨f0, f1, f2, z0, z1, z2, hlw⟩ := cells_of_one HB2.out
    have HBW : Hid (Below w.heap.size w w1) := Lib.hid ((below_one w _).trans (HB2.out.mono (Nat.le_succ _)))
    rcases HQ.out (kwS tx) with k1 | k1
    case inr =>
      have HE : Hid (tokL s.data.toList = ⟨5, wordAt s 0, (wordAt s 0).length, 0⟩) := Lib.hid (by rw [HT.out, kwL, ← HX.out, k1]; rfl)
      rw [k1]
      clear k1
      go_wp2_with fail
      refine bodyPost_ret (v := .tuple #[.agg #[.int .i64 5, .string tx, .int .i64 0], .int .i64 en, .int .i64 0]) (by simp [results, Tryd.results35, go_sem, f0, f1, f2]) rfl ?_
      exact TokR.ok HE HX.out (by rw [HLN.out]) (below_set3 HBW.out _ _ _)
    rw [k1]
    have K1 := Lib.hid k1
    clear k1
    go_wp2_with fail
    refine (rIsName_any tx _ hml).mono ?_
    rintro e w3 ⟨rfl, hb3⟩
    have HB3 : Hid (Below (w.heap.size + 1) (w.alloc (.cells #[.int .i64 0, .string ⟨#[]⟩, .int .i64 0] 36)) w3) := Lib.hid (HB2.out.trans (hb3.mono hlw))
    clear f0 f1 f2 z0 z1 z2 hlw hb3
    obtain ⟨f0, f1, f2, z0, z1, z2, hlw⟩ := cells_of_one HB3.out
    have HBX : Hid (Below w.heap.size w w3) := Lib.hid ((below_one w _).trans (HB3.out.mono (Nat.le_succ _)))
    rcases HQ.out (nameS tx) with k2 | k2
    case inr =>
      have HE : Hid (tokL s.data.toList = ⟨1, wordAt s 0, (wordAt s 0).length, 0⟩) := Lib.hid (by rw [HT.out, kwL, nameL, ← HX.out, K1.out, k2]; rfl)
      rw [k2]
      clear k2
      go_wp2_with fail
      refine bodyPost_ret (v := .tuple #[.agg #[.int .i64 1, .string tx, .int .i64 0], .int .i64 en, .int .i64 0]) (by simp [results, Tryd.results35, go_sem, f0, f1, f2]) rfl ?_
      exact TokR.ok HE HX.out (by rw [HLN.out]) (below_set3 HBX.out _ _ _)
    rw [k2]
    have K2 := Lib.hid k2
    clear k2
    go_wp2_with fail
    refine (rIsType_any tx _ hml).mono ?_
    rintro e w4 ⟨rfl, rfl⟩
    rcases HQ.out (typeS tx) with k3 | k3
    case inr =>
      have HE : Hid (tokL s.data.toList = ⟨2, wordAt s 0, (wordAt s 0).length, 0⟩) := Lib.hid (by rw [HT.out, kwL, nameL, typeL, ← HX.out, K1.out, K2.out, k3]; rfl)
      rw [k3]
      clear k3
      go_wp2_with fail
      refine bodyPost_ret (v := .tuple #[.agg #[.int .i64 2, .string tx, .int .i64 0], .int .i64 en, .int .i64 0]) (by simp [results, Tryd.results35, go_sem, f0, f1, f2]) rfl ?_
      exact TokR.ok HE HX.out (by rw [HLN.out]) (below_set3 HBX.out _ _ _)
    have HE : Hid ((tokL s.data.toList).err = 4 ∧ (4 : Int) ≠ 0) := Lib.hid ⟨by rw [HT.out, kwL, nameL, typeL, ← HX.out, K1.out, K2.out, k3]; rfl, by decide⟩
    rw [k3]
    clear k3
    go_wp2_with fail
    refine bodyPost_ret (v := .tuple #[.agg #[.int .i64 0, .string ⟨#[]⟩, .int .i64 0], .int .i64 0, .int .i64 4]) (by simp [results, Tryd.results35, go_sem, f0, f1, f2]) rfl ?_
    exact TokR.bad HE (below_set3 HBX.out _ _ _)
set_option maxRecDepth 100000 in
set_option maxHeartbeats 4000000 in
theorem rtoken_word2 (s : ByteArray) (w : World) (hs : s.size ≤ 1000000) (h0 : 0 < s.size) (h1 : smallZ (s[0].toNat : Int) = false) (h2 : false = true ∨ capitalZ (s[0].toNat : Int) = true) : Calls Tryd.prog 35 #[.string s] w (TokR (tokL s.data.toList) w) := by
  have HT := Lib.hid (tok_word s 0 h0 (by rw [h1]; exact h2))
  rw [tok_zero] at HT
  have hb : 65 ≤ s[0].toNat := by
    have h2' : smallZ (s[0].toNat : Int) = true ∨ capitalZ (s[0].toNat : Int) = true := by rw [h1]; exact h2
    simp only [smallZ, capitalZ, Bool.and_eq_true, decide_eq_true_eq] at h2'
    omega
  have h34 : (((s[0]).toNat : Int) == 34) = false := by rw [beq_eq_false_iff_ne]; omega
  have hdg : digitZ (s[0].toNat : Int) = false := by simp [digitZ]; omega
  clear hb
  have hle := spanZ_le wordZ s.data.toList
  rw [← Lib.size_eq] at hle
  have HW := Lib.hid (wordAt_ext s 0)
  have HSP := Lib.hid (fun w' : World => rspan_word s w' hs)
  have HLN := Lib.hid (wordAt_len s 0)
  rw [List.drop_zero, Nat.zero_add] at HW
  rw [List.drop_zero] at HLN
  replace h2 := h2.resolve_left (by decide)
  obtain ⟨en, hen⟩ : ∃ en, spanZ wordZ s.data.toList = en := ⟨_, rfl⟩
  rw [hen] at HSP HW HLN hle
  clear hen
  obtain ⟨tx, htx⟩ : ∃ tx, s.extract 0 en = tx := ⟨_, rfl⟩
  have HX : Hid (tx = ⟨(wordAt s 0).toArray⟩) := Lib.hid (by rw [← htx, HW.out])
  have htl : tx.size ≤ s.size := by rw [← htx, ByteArray.size_extract]; omega
  have hml : tx.size ≤ maxLen := by unfold maxLen; omega
  clear HW
  have hle2 : (en : Int) ≤ s.size := by omega
  have HQ : Hid (∀ b : Bool, b = false ∨ b = true) := Lib.hid (by decide)
  have KA : Hid (∀ w0 : World, w0.heap.size = w.heap.size + 1 → Calls Tryd.prog 50 #[] w0 fun e w1 => e = .returned (.slice (some ⟨w.heap.size + 1, 0, none⟩) 28 28) ∧
    (∀ t : ByteArray, Calls Tryd.prog 49 #[.slice (some ⟨w.heap.size + 1, 0, none⟩) 28 28, .string t] w1 fun e w2 => e = .returned (.bool (kwS t)) ∧ w1 = w2) ∧ Below (w.heap.size + 1) w0 w1) := Lib.hid (fun w0 h => keywords_abs w0 _ h)
  go_enter Tryd.func35, Tryd.ntmps35
  go_wp2_with (first | (go_at_call 64; refine (rdigit_any _ _).mono ?_; rintro e w' ⟨rfl, rfl⟩) | (go_at_call 47; refine (rsmall_any _ _).mono ?_; rintro e w' ⟨rfl, rfl⟩) | (go_at_call 52; refine (rcapital_any _ _).mono ?_; rintro e w' ⟨rfl, rfl⟩))
  refine (HSP.out _).mono ?_
  rintro e w' ⟨rfl, rfl⟩
  go_wp2_with fail
  go_region_with (first | (go_at_call 50; refine (KA.out _ (by simp)).mono ?_; rintro e w1 ⟨rfl, hHas, hbel⟩) | (go_at_call 49; refine (hHas _).mono ?_; rintro e w2 ⟨rfl, rfl⟩))
  all_goals
    have HB2 : Hid (Below (w.heap.size + 1) (w.alloc (.cells #[.int .i64 0, .string ⟨#[]⟩, .int .i64 0] 36)) w1) := Lib.hid (((Below.refl _ _).drew).trans hbel)
    clear hbel hHas
    obtain ⟨f0, f1, f2, z0, z1, z2, hlw⟩ := cells_of_one HB2.out
    have HBW : Hid (Below w.heap.size w w1) := Lib.hid ((below_one w _).trans (HB2.out.mono (Nat.le_succ _)))
    rcases HQ.out (kwS tx) with k1 | k1
    case inr =>
      have HE : Hid (tokL s.data.toList = ⟨5, wordAt s 0, (wordAt s 0).length, 0⟩) := Lib.hid (by rw [HT.out, kwL, ← HX.out, k1]; rfl)
      rw [k1]
      clear k1
      go_wp2_with fail
      refine bodyPost_ret (v := .tuple #[.agg #[.int .i64 5, .string tx, .int .i64 0], .int .i64 en, .int .i64 0]) (by simp [results, Tryd.results35, go_sem, f0, f1, f2]) rfl ?_
      exact TokR.ok HE HX.out (by rw [HLN.out]) (below_set3 HBW.out _ _ _)
    rw [k1]
    have K1 := Lib.hid k1
    clear k1
    go_wp2_with fail
    refine (rIsName_any tx _ hml).mono ?_
    rintro e w3 ⟨rfl, hb3⟩
    have HB3 : Hid (Below (w.heap.size + 1) (w.alloc (.cells #[.int .i64 0, .string ⟨#[]⟩, .int .i64 0] 36)) w3) := Lib.hid (HB2.out.trans (hb3.mono hlw))
    clear f0 f1 f2 z0 z1 z2 hlw hb3
    obtain ⟨f0, f1, f2, z0, z1, z2, hlw⟩ := cells_of_one HB3.out
    have HBX : Hid (Below w.heap.size w w3) := Lib.hid ((below_one w _).trans (HB3.out.mono (Nat.le_succ _)))
    rcases HQ.out (nameS tx) with k2 | k2
    case inr =>
      have HE : Hid (tokL s.data.toList = ⟨1, wordAt s 0, (wordAt s 0).length, 0⟩) := Lib.hid (by rw [HT.out, kwL, nameL, ← HX.out, K1.out, k2]; rfl)
      rw [k2]
      clear k2
      go_wp2_with fail
      refine bodyPost_ret (v := .tuple #[.agg #[.int .i64 1, .string tx, .int .i64 0], .int .i64 en, .int .i64 0]) (by simp [results, Tryd.results35, go_sem, f0, f1, f2]) rfl ?_
      exact TokR.ok HE HX.out (by rw [HLN.out]) (below_set3 HBX.out _ _ _)
    rw [k2]
    have K2 := Lib.hid k2
    clear k2
    go_wp2_with fail
    refine (rIsType_any tx _ hml).mono ?_
    rintro e w4 ⟨rfl, rfl⟩
    rcases HQ.out (typeS tx) with k3 | k3
    case inr =>
      have HE : Hid (tokL s.data.toList = ⟨2, wordAt s 0, (wordAt s 0).length, 0⟩) := Lib.hid (by rw [HT.out, kwL, nameL, typeL, ← HX.out, K1.out, K2.out, k3]; rfl)
      rw [k3]
      clear k3
      go_wp2_with fail
      refine bodyPost_ret (v := .tuple #[.agg #[.int .i64 2, .string tx, .int .i64 0], .int .i64 en, .int .i64 0]) (by simp [results, Tryd.results35, go_sem, f0, f1, f2]) rfl ?_
      exact TokR.ok HE HX.out (by rw [HLN.out]) (below_set3 HBX.out _ _ _)
    have HE : Hid ((tokL s.data.toList).err = 4 ∧ (4 : Int) ≠ 0) := Lib.hid ⟨by rw [HT.out, kwL, nameL, typeL, ← HX.out, K1.out, K2.out, k3]; rfl, by decide⟩
    rw [k3]
    clear k3
    go_wp2_with fail
    refine bodyPost_ret (v := .tuple #[.agg #[.int .i64 0, .string ⟨#[]⟩, .int .i64 0], .int .i64 0, .int .i64 4]) (by simp [results, Tryd.results35, go_sem, f0, f1, f2]) rfl ?_
    exact TokR.bad HE (below_set3 HBX.out _ _ _)
end Go.Proofs.YtmlfoffahfbalaaDoor
