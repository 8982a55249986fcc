/- Contract of the lexer's next: numbers. -/
import Derived.Test.YtmlfoffahfbalaaDoorNext
namespace Go.Proofs.YtmlfoffahfbalaaDoor
open Go Go.RowKit

/-- the digits at an offset. -/
def digsAt (s : ByteArray) (at0 : Nat) : List UInt8 := (s.data.toList.drop at0).takeWhile digitB
theorem digsAt_len (s : ByteArray) (at0 : Nat) : (digsAt s at0).length = spanZ digitZ (s.data.toList.drop at0) := rfl
theorem digsAt_ext (s : ByteArray) (at0 : Nat) : s.extract at0 (at0 + spanZ digitZ (s.data.toList.drop at0)) = ⟨(digsAt s at0).toArray⟩ := by
  rw [Lib.extract_eq]
  congr 2
  rw [Nat.add_sub_cancel_left, ← digsAt_len]
  exact List.prefix_iff_eq_take.1 (List.takeWhile_prefix digitB) |>.symm
def wordNext (s : ByteArray) (en : Nat) : Bool := ((s.data.toList.drop en).head?.any wordB)
theorem wordNext_in (s : ByteArray) (en : Nat) (h : en < s.size) : wordNext s en = wordZ (s[en].toNat : Int) := by
  unfold wordNext; rw [drop_cons s en h]; rfl
theorem wordNext_out (s : ByteArray) (en : Nat) (h : ¬ en < s.size) : wordNext s en = false := by
  unfold wordNext; rw [List.drop_eq_nil_of_le (by rw [← Lib.size_eq]; omega)]; rfl
theorem tok_digit (s : ByteArray) (at0 : Nat) (h0 : at0 < s.size) (hc : digitZ (s[at0].toNat : Int) = true) :
    tokS s at0 = if 19 < (digsAt s at0).length ∨ (1 < (digsAt s at0).length ∧ s[at0] = 48) ∨ wordNext s (at0 + (digsAt s at0).length) = true then ⟨0, [], 0, 3⟩ else ⟨3, digsAt s at0, (digsAt s at0).length, 0⟩ := by
  unfold tokS wordNext
  rw [← List.drop_drop]
  unfold digsAt
  rw [drop_cons s at0 h0]
  generalize s[at0] = c at *
  have hb : 48 ≤ c.toNat ∧ c.toNat ≤ 57 := by
    simp only [digitZ, Bool.and_eq_true, decide_eq_true_eq] at hc
    omega
  have e1 : (c == 34) = false := by rw [beq_eq_false_iff_ne]; intro e; rw [e] at hb; exact absurd hb (by decide)
  have e2 : digitB c = true := hc
  rw [tokL, e1, e2]
  rfl

/-- two new blocks of three cells, behind a call that leaves what was there. -/
theorem cells_of_two {w w' : World} {a0 a1 a2 b0 b1 b2 : Value} {t : TypeId} (hb : Below ((w.alloc (.cells #[a0, a1, a2] t)).alloc (.cells #[b0, b1, b2] t)).heap.size ((w.alloc (.cells #[a0, a1, a2] t)).alloc (.cells #[b0, b1, b2] t)) w') :
    w'.cell? ⟨w.heap.size, 0, none⟩ = some a0 ∧ w'.cell? ⟨w.heap.size, 1, none⟩ = some a1 ∧ w'.cell? ⟨w.heap.size, 2, none⟩ = some a2 ∧
    w'.cell? ⟨w.heap.size + 1, 0, none⟩ = some b0 ∧ w'.cell? ⟨w.heap.size + 1, 1, none⟩ = some b1 ∧ w'.cell? ⟨w.heap.size + 1, 2, none⟩ = some b2 ∧
    w'.frozen? ⟨w.heap.size, 0, none⟩ = false ∧ w'.frozen? ⟨w.heap.size, 1, none⟩ = false ∧ w'.frozen? ⟨w.heap.size, 2, none⟩ = false ∧
    w'.frozen? ⟨w.heap.size + 1, 0, none⟩ = false ∧ w'.frozen? ⟨w.heap.size + 1, 1, none⟩ = false ∧ w'.frozen? ⟨w.heap.size + 1, 2, none⟩ = false ∧ w.heap.size + 1 < w'.heap.size := by
  have hs := hb.size
  simp only [World.size_alloc] at hs
  refine ⟨?_, ?_, ?_, ?_, ?_, ?_, ?_, ?_, ?_, ?_, ?_, ?_, by omega⟩
  all_goals first
    | (rw [hb.cell (by simp only [World.size_alloc]; omega)]; first | (rw [World.cell?_alloc_past _ _ _ (by simp), World.cell?_alloc_at _ _ _ _ rfl]; rfl) | (rw [World.cell?_alloc_at _ _ _ _ (by simp)]; rfl))
    | (rw [hb.frozen (by simp only [World.size_alloc]; omega)]; first | (rw [World.frozen?_alloc_past _ _ _ (by simp), World.frozen?_alloc_at _ _ _ _ rfl]) | (rw [World.frozen?_alloc_at _ _ _ _ (by simp)]))

set_option maxRecDepth 100000 in
set_option maxHeartbeats 4000000 in
theorem next_digit (s : ByteArray) (at0 : Nat) (w : World) (hs : s.size ≤ 1000000) (h0 : at0 < s.size) (h3 : digitZ (s[at0].toNat : Int) = true) :
    Calls Tryd.prog 62 #[.string s, .int .i64 at0] w (NextR s at0 w) := by
  have HT := Lib.hid (tok_digit s at0 h0 h3)
  have hb : 48 ≤ s[at0].toNat ∧ s[at0].toNat ≤ 57 := by
    have h3 := h3
    simp only [digitZ, Bool.and_eq_true, decide_eq_true_eq] at h3
    omega
  have h1 : smallZ (s[at0].toNat : Int) = false := by simp [smallZ]; omega
  have h2 : capitalZ (s[at0].toNat : Int) = false := by simp [capitalZ]; omega
  clear hb
  have hle := spanZ_le digitZ (s.data.toList.drop at0)
  rw [List.length_drop, ← Lib.size_eq] at hle
  have HW := Lib.hid (digsAt_ext s at0)
  have HSP := Lib.hid (fun w' : World => span_digitZ s at0 w' hs (by omega))
  have HLN := Lib.hid (digsAt_len s at0)
  obtain ⟨en, hen⟩ : ∃ en, at0 + spanZ digitZ (s.data.toList.drop at0) = en := ⟨_, rfl⟩
  rw [hen] at HSP HW
  have HEN : Hid (en = at0 + (digsAt s at0).length) := Lib.hid (by rw [HLN.out, hen])
  have hen1 : at0 ≤ en := by omega
  have hen2 : en ≤ s.size := by omega
  clear hen hle HLN
  obtain ⟨tx, htx⟩ : ∃ tx, s.extract at0 en = tx := ⟨_, rfl⟩
  have HX : Hid (tx = ⟨(digsAt s at0).toArray⟩) := Lib.hid (by rw [← htx, HW.out])
  have htl : tx.size = en - at0 := by rw [← htx, ByteArray.size_extract]; omega
  have ht1 : tx.size + at0 ≤ en := by omega
  have ht2 : en ≤ tx.size + at0 := by omega
  have HTX := Lib.hid htx
  have HNL : Hid ((digsAt s at0).length = tx.size) := Lib.hid (by have := HEN.out; omega)
  clear htx HW htl
  obtain ⟨c, hc⟩ : ∃ c, s[at0] = c := ⟨_, rfl⟩
  rw [hc] at h1 h2 h3
  have HC := Lib.hid hc
  go_enter Tryd.func62, Tryd.ntmps62
  go_wp2_with (first | (go_at_call 40; refine (small_any _ _).mono ?_; rintro e w' ⟨rfl, rfl⟩) | (go_at_call 51; refine (capital_any _ _).mono ?_; rintro e w' ⟨rfl, rfl⟩) | (go_at_call 41; refine (digit_any _ _).mono ?_; rintro e w' ⟨rfl, rfl⟩))
  refine (HSP.out _).mono ?_
  rintro e w' ⟨rfl, rfl⟩
  go_wp2_with fail
  go_region
  rw [HTX.out]
  clear h1 h2 h3
  by_cases h4 : 19 < tx.size
  case pos =>
    have HE : Hid ((tokS s at0).err = 3 ∧ (3 : Int) ≠ 0) := Lib.hid ⟨by rw [HT.out, if_pos (.inl (by rw [HNL.out]; exact h4))], by decide⟩
    go_wp2_with (first | (go_at_call 45; refine (word_any _ _).mono ?_; rintro e w' ⟨rfl, rfl⟩))
    refine bodyPost_ret (v := .tuple #[.agg #[.int .i64 3, .string tx, .int .i64 at0], .int .i64 at0, .int .i64 3]) (by simp [results, Tryd.results62, go_sem]) rfl ?_
    exact NextR.bad HE ((((Below.refl _ _).alloc (Nat.le_refl _) _).alloc (by simp) _).drew)
  by_cases h5 : 1 < tx.size ∧ c = 48
  case pos =>
    obtain ⟨h5, h6⟩ := h5
    have HE : Hid ((tokS s at0).err = 3 ∧ (3 : Int) ≠ 0) := Lib.hid ⟨by rw [HT.out, if_pos (.inr (.inl ⟨by rw [HNL.out]; exact h5, by rw [HC.out]; exact h6⟩))], by decide⟩
    have h7 : ((c.toNat : Int) == 48) = true := by rw [h6]; rfl
    clear h6
    go_wp2_with (first | (go_at_call 45; refine (word_any _ _).mono ?_; rintro e w' ⟨rfl, rfl⟩))
    refine bodyPost_ret (v := .tuple #[.agg #[.int .i64 3, .string tx, .int .i64 at0], .int .i64 at0, .int .i64 3]) (by simp [results, Tryd.results62, go_sem]) rfl ?_
    exact NextR.bad HE ((((Below.refl _ _).alloc (Nat.le_refl _) _).alloc (by simp) _).drew)
  have HK : Hid (wordNext s (at0 + (digsAt s at0).length) = wordNext s en) := Lib.hid (by rw [HEN.out])
  have H5 := Lib.hid h5
  have h6 : tx.size ≤ 1 ∨ (1 < tx.size ∧ ((c.toNat : Int) == 48) = false) := by
    by_cases h : 1 < tx.size
    · refine .inr ⟨h, ?_⟩
      rw [beq_eq_false_iff_ne]; intro e
      exact h5 ⟨h, UInt8.toNat_inj.1 (by have : ((48 : UInt8).toNat) = 48 := rfl; omega)⟩
    · exact .inl (by omega)
  clear h5
  by_cases h7 : en < s.size
  case pos =>
    have HN := Lib.hid (wordNext_in s en h7)
    cases h8 : wordZ (s[en].toNat : Int)
    · have HE : Hid (tokS s at0 = ⟨3, digsAt s at0, (digsAt s at0).length, 0⟩) := Lib.hid (by
        rw [HT.out, if_neg]
        rw [HK.out, HN.out, h8, HNL.out, HC.out]
        rintro (h | h | h)
        · omega
        · exact H5.out h
        · exact Bool.false_ne_true h)
      rcases h6 with h6 | ⟨h6, h9⟩
      · skip
        go_wp2_with (first | (go_at_call 45; refine (word_any _ _).mono ?_; rintro e w' ⟨rfl, rfl⟩))
        refine bodyPost_ret (v := .tuple #[.agg #[.int .i64 3, .string tx, .int .i64 at0], .int .i64 en, .int .i64 0]) (by simp [results, Tryd.results62, go_sem]) rfl ?_
        exact NextR.ok HE HX.out (by have := HEN.out; omega) ((((Below.refl _ _).alloc (Nat.le_refl _) _).alloc (by simp) _).drew)
      · skip
        go_wp2_with (first | (go_at_call 45; refine (word_any _ _).mono ?_; rintro e w' ⟨rfl, rfl⟩))
        refine bodyPost_ret (v := .tuple #[.agg #[.int .i64 3, .string tx, .int .i64 at0], .int .i64 en, .int .i64 0]) (by simp [results, Tryd.results62, go_sem]) rfl ?_
        exact NextR.ok HE HX.out (by have := HEN.out; omega) ((((Below.refl _ _).alloc (Nat.le_refl _) _).alloc (by simp) _).drew)
    · have HE : Hid ((tokS s at0).err = 3 ∧ (3 : Int) ≠ 0) := Lib.hid ⟨by rw [HT.out, if_pos (.inr (.inr (by rw [HK.out, HN.out, h8])))], by decide⟩
      rcases h6 with h6 | ⟨h6, h9⟩
      · skip
        go_wp2_with (first | (go_at_call 45; refine (word_any _ _).mono ?_; rintro e w' ⟨rfl, rfl⟩))
        refine bodyPost_ret (v := .tuple #[.agg #[.int .i64 3, .string tx, .int .i64 at0], .int .i64 at0, .int .i64 3]) (by simp [results, Tryd.results62, go_sem]) rfl ?_
        exact NextR.bad HE ((((Below.refl _ _).alloc (Nat.le_refl _) _).alloc (by simp) _).drew)
      · skip
        go_wp2_with (first | (go_at_call 45; refine (word_any _ _).mono ?_; rintro e w' ⟨rfl, rfl⟩))
        refine bodyPost_ret (v := .tuple #[.agg #[.int .i64 3, .string tx, .int .i64 at0], .int .i64 at0, .int .i64 3]) (by simp [results, Tryd.results62, go_sem]) rfl ?_
        exact NextR.bad HE ((((Below.refl _ _).alloc (Nat.le_refl _) _).alloc (by simp) _).drew)
  case neg =>
    have HN := Lib.hid (wordNext_out s en h7)
    have HE : Hid (tokS s at0 = ⟨3, digsAt s at0, (digsAt s at0).length, 0⟩) := Lib.hid (by
      rw [HT.out, if_neg]
      rw [HK.out, HN.out, HNL.out, HC.out]
      rintro (h | h | h)
      · omega
      · exact H5.out h
      · exact Bool.false_ne_true h)
    rcases h6 with h6 | ⟨h6, h9⟩
    · skip
      go_wp2_with (first | (go_at_call 45; refine (word_any _ _).mono ?_; rintro e w' ⟨rfl, rfl⟩))
      refine bodyPost_ret (v := .tuple #[.agg #[.int .i64 3, .string tx, .int .i64 at0], .int .i64 en, .int .i64 0]) (by simp [results, Tryd.results62, go_sem]) rfl ?_
      exact NextR.ok HE HX.out (by have := HEN.out; omega) ((((Below.refl _ _).alloc (Nat.le_refl _) _).alloc (by simp) _).drew)
    · skip
      go_wp2_with (first | (go_at_call 45; refine (word_any _ _).mono ?_; rintro e w' ⟨rfl, rfl⟩))
      refine bodyPost_ret (v := .tuple #[.agg #[.int .i64 3, .string tx, .int .i64 at0], .int .i64 en, .int .i64 0]) (by simp [results, Tryd.results62, go_sem]) rfl ?_
      exact NextR.ok HE HX.out (by have := HEN.out; omega) ((((Below.refl _ _).alloc (Nat.le_refl _) _).alloc (by simp) _).drew)

end Go.Proofs.YtmlfoffahfbalaaDoor
