/- Contracts of the lexer's blanks, span, hex. -/
import Derived.Test.YtmlfoffahfbalaaDoorLib
import Derived.Test.YtmlfoffahfbalaaDoorKeyword
import Derived.Test.YtmlfoffahfbalaaDoorPlainLex2
namespace Go.Proofs.YtmlfoffahfbalaaDoor
open Go Go.RowKit

theorem byte_back (c : UInt8) : ((c.toNat : Int)).toNat.toUInt8 = c := by simp
theorem blank_call (c : UInt8) (w : World) :
    Calls Tryd.prog 73 #[.string ⟨#[32, 9, 10, 13]⟩, .int .u8 c.toNat] w fun e w' => e = .returned (.int .i64 (blankI c)) ∧ w = w' := by
  have := IndexByte_any ⟨#[32, 9, 10, 13]⟩ c.toNat w
  rw [byte_back] at this
  exact this
def cmtB (l : List UInt8) : Bool := Lib.hasPrefix l [47, 47]
theorem cmt_call (s : ByteArray) (w : World) :
    Calls Tryd.prog 30 #[.string s, .string ⟨#[47, 47]⟩] w fun e w' => e = .returned (.bool (cmtB s.data.toList)) ∧ w = w' := HasPrefix_any s ⟨#[47, 47]⟩ w
def nlI (l : List UInt8) : Int := Lib.indexByte l 10
theorem nl_call (s : ByteArray) (w : World) :
    Calls Tryd.prog 73 #[.string s, .int .u8 10] w fun e w' => e = .returned (.int .i64 (nlI s.data.toList)) ∧ w = w' := IndexByte_any s 10 w

set_option maxHeartbeats 800000 in
theorem blanks_any (s : ByteArray) (at0 : Nat) (w : World) (hs : s.size ≤ 1000000) (h0 : at0 ≤ s.size) :
    Calls Tryd.prog 61 #[.string s, .int .i64 at0] w fun e w' => e = .returned (.int .i64 (at0 + skipF false (s.data.toList.drop at0) : Nat)) ∧ w = w' := by
  go_enter Tryd.func61, Tryd.ntmps61
  go_wp2
  go_loop [1] (fun i => ∃ k : Nat, k ≤ s.size ∧ i = .int .i64 k ∧ Hid (at0 + skipF false (s.data.toList.drop at0) = k + skipF false (s.data.toList.drop k))) (fun i => s.size - (intOf i).toNat)
  case atStart => exact ⟨at0, h0, rfl, Lib.hid rfl⟩
  case round =>
    obtain ⟨k, hk, rfl, HA⟩ := hrel
    by_cases hlt : k < s.size
    · have hd := drop_cons s k hlt
      generalize hcs : s[k] = c at *
      have HD := Lib.hid hd
      clear hd
      cases h1 : blankB c
      · have hI := blankI_no c h1
        have HX := Lib.hid (Lib.extract_to_end s k)
        cases h2 : cmtB (s.data.toList.drop k)
        · have HE : Hid (at0 + skipF false (s.data.toList.drop at0) = k) := Lib.hid (by rw [HA.out, HD.out, skip_none c _ h1 (by rw [← HD.out]; exact h2)]; rfl)
          have H2 := Lib.hid h2
          clear h2 h1
          go_wp2_with fail
          refine (blank_call c w).mono ?_
          rintro e w' ⟨rfl, rfl⟩
          go_wp2_with fail
          refine (cmt_call _ _).mono ?_
          rintro e w' ⟨rfl, rfl⟩
          rw [HX.out, H2.out]
          go_wp2
          go_ret
          exact ⟨ret_int (by have := HE.out; omega), rfl⟩
        · have H2 := Lib.hid h2
          have HS := Lib.hid (skip_at_comment _ h2)
          have hnl := nlN_le (s.data.toList.drop k)
          have hpos : 0 < nlN (s.data.toList.drop k) := by
            have : c = 47 := by
              rw [cmtB, HD.out] at h2
              simp only [Lib.hasPrefix, List.isPrefixOf, Bool.and_eq_true, beq_iff_eq] at h2
              exact h2.1.symm
            rw [HD.out, this]; simp [nlN]
          have hlen : (s.data.toList.drop k).length = s.size - k := by rw [List.length_drop, ← Lib.size_eq]
          have hnx := nl_index (s.data.toList.drop k)
          have HM : Hid (at0 + skipF false (s.data.toList.drop at0) = (k + nlN (s.data.toList.drop k)) + skipF false (s.data.toList.drop (k + nlN (s.data.toList.drop k)))) := Lib.hid (by rw [HA.out, HS.out, List.drop_drop]; omega)
          generalize hm : nlN (s.data.toList.drop k) = m at *
          rw [hlen] at hnl hnx
          clear hlen h2 hm h1
          have hnx2 : nlI (s.data.toList.drop k) = -1 ∧ m = s.size - k ∨ nlI (s.data.toList.drop k) = (m : Int) := hnx
          clear hnx
          rcases hnx2 with ⟨h3, h4⟩ | h3
          · have H3 := Lib.hid h3
            have H4 : Hid (k + m = s.size) := Lib.hid (by omega)
            clear h3 h4
            go_wp2_with fail
            refine (blank_call c w).mono ?_
            rintro e w' ⟨rfl, rfl⟩
            go_wp2_with fail
            refine (cmt_call _ _).mono ?_
            rintro e w' ⟨rfl, rfl⟩
            rw [HX.out, H2.out]
            go_wp2_with fail
            refine (nl_call _ _).mono ?_
            rintro e w' ⟨rfl, rfl⟩
            rw [HX.out, H3.out]
            go_wp2
            go_round
            case rel => exact ⟨s.size, by omega, rfl, Lib.hid (by rw [HM.out, H4.out])⟩
            case measure => simp [intOf]; omega
          · have H3 := Lib.hid h3
            clear h3
            go_wp2_with fail
            refine (blank_call c w).mono ?_
            rintro e w' ⟨rfl, rfl⟩
            go_wp2_with fail
            refine (cmt_call _ _).mono ?_
            rintro e w' ⟨rfl, rfl⟩
            rw [HX.out, H2.out]
            go_wp2_with fail
            refine (nl_call _ _).mono ?_
            rintro e w' ⟨rfl, rfl⟩
            rw [HX.out, H3.out]
            go_wp2
            go_round
            case rel => exact ⟨k + m, by omega, by go_num, HM⟩
            case measure => simp [intOf]; omega
      · have hI := blankI_yes c h1
        have HS : Hid (at0 + skipF false (s.data.toList.drop at0) = (k + 1) + skipF false (s.data.toList.drop (k + 1))) := Lib.hid (by rw [HA.out, HD.out, skip_blank c _ h1]; omega)
        clear h1
        go_wp2_with fail
        refine (blank_call c w).mono ?_
        rintro e w' ⟨rfl, rfl⟩
        go_wp2
        go_round
        case rel => exact ⟨k + 1, by omega, by go_num, HS⟩
        case measure => simp [intOf]; omega
    · obtain rfl : k = s.size := by omega
      have HE : Hid (at0 + skipF false (s.data.toList.drop at0) = s.size) := Lib.hid (by rw [HA.out, List.drop_eq_nil_of_le (by rw [← Lib.size_eq]; exact Nat.le_refl _)]; rfl)
      go_wp2
      go_ret
      exact ⟨ret_int (by have := HE.out; omega), rfl⟩

/-- how many bytes from an offset on satisfy a predicate. -/
def spanZ (p : Int → Bool) (l : List UInt8) : Nat := (l.takeWhile fun b => p b.toNat).length
theorem spanZ_le (p : Int → Bool) (l : List UInt8) : spanZ p l ≤ l.length := (List.takeWhile_prefix (fun b => p b.toNat) (l := l)).length_le
theorem spanZ_yes (p : Int → Bool) (c : UInt8) (r : List UInt8) (h : p c.toNat = true) : spanZ p (c :: r) = 1 + spanZ p r := by
  unfold spanZ; rw [List.takeWhile_cons, if_pos h, List.length_cons]; omega
theorem spanZ_no (p : Int → Bool) (c : UInt8) (r : List UInt8) (h : p c.toNat = false) : spanZ p (c :: r) = 0 := by
  unfold spanZ; rw [List.takeWhile_cons, if_neg (by rw [h]; exact Bool.false_ne_true)]; rfl

set_option maxHeartbeats 400000 in
theorem span_wordZ (s : ByteArray) (at0 : Nat) (w : World) (hs : s.size ≤ 1000000) (h0 : at0 ≤ s.size) :
    Calls Tryd.prog 74 #[.string s, .int .i64 at0, .func (.func 45) #[] #[]] w fun e w' => e = .returned (.int .i64 (at0 + spanZ wordZ (s.data.toList.drop at0) : Nat)) ∧ w = w' := by
  go_enter Tryd.func74, Tryd.ntmps74
  go_wp2
  go_loop [1] (fun i => ∃ k : Nat, k ≤ s.size ∧ i = .int .i64 k ∧ Hid (at0 + spanZ wordZ (s.data.toList.drop at0) = k + spanZ wordZ (s.data.toList.drop k))) (fun i => s.size - (intOf i).toNat)
  case atStart => exact ⟨at0, h0, rfl, Lib.hid rfl⟩
  case round =>
    obtain ⟨k, hk, rfl, HA⟩ := hrel
    by_cases hlt : k < s.size
    · have HD := Lib.hid (drop_cons s k hlt)
      cases hb : wordZ (s[k].toNat : Int)
      · have HE : Hid (at0 + spanZ wordZ (s.data.toList.drop at0) = k) := Lib.hid (by rw [HA.out, HD.out, spanZ_no _ _ _ hb]; rfl)
        go_wp2_with (go_at_call 45; refine (word_any _ _).mono ?_; rintro e w' ⟨rfl, rfl⟩)
        go_ret
        exact ⟨ret_int (by have := HE.out; omega), rfl⟩
      · have HE : Hid (at0 + spanZ wordZ (s.data.toList.drop at0) = (k + 1) + spanZ wordZ (s.data.toList.drop (k + 1))) := Lib.hid (by rw [HA.out, HD.out, spanZ_yes _ _ _ hb]; omega)
        go_wp2_with (go_at_call 45; refine (word_any _ _).mono ?_; rintro e w' ⟨rfl, rfl⟩)
        go_round
        case rel => exact ⟨k + 1, by omega, by go_num, HE⟩
        case measure => simp [intOf]; omega
    · obtain rfl : k = s.size := by omega
      have HE : Hid (at0 + spanZ wordZ (s.data.toList.drop at0) = s.size) := Lib.hid (by rw [HA.out, List.drop_eq_nil_of_le (by rw [← Lib.size_eq]; exact Nat.le_refl _)]; rfl)
      go_wp2
      go_ret
      exact ⟨ret_int (by have := HE.out; omega), rfl⟩
set_option maxHeartbeats 400000 in
theorem span_digitZ (s : ByteArray) (at0 : Nat) (w : World) (hs : s.size ≤ 1000000) (h0 : at0 ≤ s.size) :
    Calls Tryd.prog 74 #[.string s, .int .i64 at0, .func (.func 41) #[] #[]] w fun e w' => e = .returned (.int .i64 (at0 + spanZ digitZ (s.data.toList.drop at0) : Nat)) ∧ w = w' := by
  go_enter Tryd.func74, Tryd.ntmps74
  go_wp2
  go_loop [1] (fun i => ∃ k : Nat, k ≤ s.size ∧ i = .int .i64 k ∧ Hid (at0 + spanZ digitZ (s.data.toList.drop at0) = k + spanZ digitZ (s.data.toList.drop k))) (fun i => s.size - (intOf i).toNat)
  case atStart => exact ⟨at0, h0, rfl, Lib.hid rfl⟩
  case round =>
    obtain ⟨k, hk, rfl, HA⟩ := hrel
    by_cases hlt : k < s.size
    · have HD := Lib.hid (drop_cons s k hlt)
      cases hb : digitZ (s[k].toNat : Int)
      · have HE : Hid (at0 + spanZ digitZ (s.data.toList.drop at0) = k) := Lib.hid (by rw [HA.out, HD.out, spanZ_no _ _ _ hb]; rfl)
        go_wp2_with (go_at_call 41; refine (digit_any _ _).mono ?_; rintro e w' ⟨rfl, rfl⟩)
        go_ret
        exact ⟨ret_int (by have := HE.out; omega), rfl⟩
      · have HE : Hid (at0 + spanZ digitZ (s.data.toList.drop at0) = (k + 1) + spanZ digitZ (s.data.toList.drop (k + 1))) := Lib.hid (by rw [HA.out, HD.out, spanZ_yes _ _ _ hb]; omega)
        go_wp2_with (go_at_call 41; refine (digit_any _ _).mono ?_; rintro e w' ⟨rfl, rfl⟩)
        go_round
        case rel => exact ⟨k + 1, by omega, by go_num, HE⟩
        case measure => simp [intOf]; omega
    · obtain rfl : k = s.size := by omega
      have HE : Hid (at0 + spanZ digitZ (s.data.toList.drop at0) = s.size) := Lib.hid (by rw [HA.out, List.drop_eq_nil_of_le (by rw [← Lib.size_eq]; exact Nat.le_refl _)]; rfl)
      go_wp2
      go_ret
      exact ⟨ret_int (by have := HE.out; omega), rfl⟩

/-- what the lexer's hex returns. -/
def hexV (c : Int) : Int := if 0 ≤ hexZ c then hexZ c else 0
def hexK (c : Int) : Bool := decide (0 ≤ hexZ c)

set_option maxHeartbeats 400000 in
theorem hex_any (c : Int) (h0 : 0 ≤ c) (h1 : c ≤ 255) (w : World) :
    Calls Tryd.prog 84 #[.int .u8 c] w fun e w' => e = .returned (.tuple #[.int .u8 (hexV c), .bool (hexK c)]) ∧ w = w' := by
  cases hd : digitZ c
  · by_cases h2 : 97 ≤ c ∧ c ≤ 102
    · have HX : Hid (hexZ c = c - 87) := Lib.hid (by rw [hexZ, if_neg (by rw [hd]; exact Bool.false_ne_true), if_pos h2])
      obtain ⟨h3, h4⟩ := h2
      go_enter Tryd.func84, Tryd.ntmps84
      go_wp2_with (go_at_call 41; refine (digit_any _ _).mono ?_; rintro e w' ⟨rfl, rfl⟩)
      go_ret2
      exact ⟨ret_ib (by rw [hexV, HX.out, if_pos (by omega)]; omega) (by rw [hexK, HX.out]; simp; omega), rfl⟩
    · have HX : Hid (hexZ c = -1) := Lib.hid (by rw [hexZ, if_neg (by rw [hd]; exact Bool.false_ne_true), if_neg h2])
      rcases (show c < 97 ∨ 102 < c from by omega) with h3 | h3
      all_goals
        clear h2
        go_enter Tryd.func84, Tryd.ntmps84
        go_wp2_with (go_at_call 41; refine (digit_any _ _).mono ?_; rintro e w' ⟨rfl, rfl⟩)
        go_ret2
        exact ⟨ret_ib (by rw [hexV, HX.out]; rfl) (by rw [hexK, HX.out]; rfl), rfl⟩
  · have HX : Hid (hexZ c = c - 48) := Lib.hid (by rw [hexZ, if_pos hd])
    have hd' := hd
    simp only [digitZ, Bool.and_eq_true, decide_eq_true_eq] at hd'
    obtain ⟨h3, h4⟩ := hd'
    go_enter Tryd.func84, Tryd.ntmps84
    go_wp2_with (go_at_call 41; refine (digit_any _ _).mono ?_; rintro e w' ⟨rfl, rfl⟩)
    go_ret2
    exact ⟨ret_ib (by rw [hexV, HX.out, if_pos (by omega)]) (by rw [hexK, HX.out]; simp; omega), rfl⟩
end Go.Proofs.YtmlfoffahfbalaaDoor
