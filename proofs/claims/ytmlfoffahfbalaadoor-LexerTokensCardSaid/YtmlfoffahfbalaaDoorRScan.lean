/- Contracts of the reference's span, skip and character. -/
import Derived.Test.YtmlfoffahfbalaaDoorBlanks
import Derived.Test.YtmlfoffahfbalaaDoorPlainLit
namespace Go.Proofs.YtmlfoffahfbalaaDoor
open Go Go.RowKit

set_option maxHeartbeats 1000000 in
theorem rspan_digit (s : ByteArray) (w : World) (hs : s.size ≤ 1000000) :
    Calls Tryd.prog 65 #[.string s, .bool true] w fun e w' => e = .returned (.int .i64 (spanZ digitZ s.data.toList : Nat)) ∧ w = w' := by
  go_enter Tryd.func65, Tryd.ntmps65
  go_wp2
  go_loop [5] (fun i => ∃ k : Nat, k ≤ s.size ∧ i = .int .i64 k ∧ Hid (spanZ digitZ s.data.toList = k + spanZ digitZ (s.data.toList.drop k))) (fun i => s.size - (intOf i).toNat)
  case atStart => exact ⟨0, Nat.zero_le _, rfl, Lib.hid (by rw [List.drop_zero]; omega)⟩
  case round =>
    obtain ⟨k, hk, rfl, HA⟩ := hrel
    by_cases hlt : k < s.size
    · have HD := Lib.hid (drop_cons s k hlt)
      cases hb : digitZ (s[k].toNat : Int)
      · have HE : Hid (spanZ digitZ s.data.toList = k) := Lib.hid (by rw [HA.out, HD.out, spanZ_no _ _ _ hb]; rfl)
        go_wp2_with (first | (go_at_call 64; refine (rdigit_any _ _).mono ?_; rintro e w' ⟨rfl, rfl⟩) | (go_at_call 66; refine (rword_any _ _).mono ?_; rintro e w' ⟨rfl, rfl⟩))
        go_ret
        exact ⟨ret_int (by rw [HE.out]), rfl⟩
      · have HE : Hid (spanZ digitZ s.data.toList = (k + 1) + spanZ digitZ (s.data.toList.drop (k + 1))) := Lib.hid (by rw [HA.out, HD.out, spanZ_yes _ _ _ hb]; omega)
        go_wp2_with (first | (go_at_call 64; refine (rdigit_any _ _).mono ?_; rintro e w' ⟨rfl, rfl⟩) | (go_at_call 66; refine (rword_any _ _).mono ?_; rintro e w' ⟨rfl, rfl⟩))
        go_round
        case rel => exact ⟨k + 1, by omega, by go_num, HE⟩
        case measure => simp [intOf]; omega
    · obtain rfl : k = s.size := by omega
      have HE : Hid (spanZ digitZ s.data.toList = s.size) := Lib.hid (by rw [HA.out, List.drop_eq_nil_of_le (by rw [← Lib.size_eq]; exact Nat.le_refl _)]; rfl)
      go_wp2
      go_ret
      exact ⟨ret_int (by rw [HE.out]), rfl⟩

set_option maxHeartbeats 1000000 in
theorem rspan_word (s : ByteArray) (w : World) (hs : s.size ≤ 1000000) :
    Calls Tryd.prog 65 #[.string s, .bool false] w fun e w' => e = .returned (.int .i64 (spanZ wordZ s.data.toList : Nat)) ∧ w = w' := by
  go_enter Tryd.func65, Tryd.ntmps65
  go_wp2
  go_loop [5] (fun i => ∃ k : Nat, k ≤ s.size ∧ i = .int .i64 k ∧ Hid (spanZ wordZ s.data.toList = k + spanZ wordZ (s.data.toList.drop k))) (fun i => s.size - (intOf i).toNat)
  case atStart => exact ⟨0, Nat.zero_le _, rfl, Lib.hid (by rw [List.drop_zero]; omega)⟩
  case round =>
    obtain ⟨k, hk, rfl, HA⟩ := hrel
    by_cases hlt : k < s.size
    · have HD := Lib.hid (drop_cons s k hlt)
      have HW : Hid (digitZ (s[k].toNat : Int) = true → wordZ (s[k].toNat : Int) = true) := Lib.hid (fun h => by unfold wordZ; rw [h]; simp)
      cases hd : digitZ (s[k].toNat : Int)
      · cases hb : wordZ (s[k].toNat : Int)
        · have HE : Hid (spanZ wordZ s.data.toList = k) := Lib.hid (by rw [HA.out, HD.out, spanZ_no _ _ _ hb]; rfl)
          go_wp2_with (first | (go_at_call 64; refine (rdigit_any _ _).mono ?_; rintro e w' ⟨rfl, rfl⟩) | (go_at_call 66; refine (rword_any _ _).mono ?_; rintro e w' ⟨rfl, rfl⟩))
          go_ret
          exact ⟨ret_int (by rw [HE.out]), rfl⟩
        · have HE : Hid (spanZ wordZ s.data.toList = (k + 1) + spanZ wordZ (s.data.toList.drop (k + 1))) := Lib.hid (by rw [HA.out, HD.out, spanZ_yes _ _ _ hb]; omega)
          go_wp2_with (first | (go_at_call 64; refine (rdigit_any _ _).mono ?_; rintro e w' ⟨rfl, rfl⟩) | (go_at_call 66; refine (rword_any _ _).mono ?_; rintro e w' ⟨rfl, rfl⟩))
          go_round
          case rel => exact ⟨k + 1, by omega, by go_num, HE⟩
          case measure => simp [intOf]; omega
      · have HE : Hid (spanZ wordZ s.data.toList = (k + 1) + spanZ wordZ (s.data.toList.drop (k + 1))) := Lib.hid (by rw [HA.out, HD.out, spanZ_yes _ _ _ (HW.out hd)]; omega)
        go_wp2_with (first | (go_at_call 64; refine (rdigit_any _ _).mono ?_; rintro e w' ⟨rfl, rfl⟩) | (go_at_call 66; refine (rword_any _ _).mono ?_; rintro e w' ⟨rfl, rfl⟩))
        go_round
        case rel => exact ⟨k + 1, by omega, by go_num, HE⟩
        case measure => simp [intOf]; omega
    · obtain rfl : k = s.size := by omega
      have HE : Hid (spanZ wordZ s.data.toList = s.size) := Lib.hid (by rw [HA.out, List.drop_eq_nil_of_le (by rw [← Lib.size_eq]; exact Nat.le_refl _)]; rfl)
      go_wp2
      go_ret
      exact ⟨ret_int (by rw [HE.out]), rfl⟩

theorem skipF_true (c : UInt8) (r : List UInt8) : skipF true (c :: r) = 1 + skipF (c != 10) r := rfl
theorem skipF_slash (c : UInt8) (r : List UInt8) (h : (c == 47 && r.head? == some 47) = true) : skipF false (c :: r) = 1 + skipF true r := by rw [skipF, if_pos h]
theorem skipF_zero (c : UInt8) (r : List UInt8) (h : (c == 47 && r.head? == some 47) = false) (h2 : blankB c = false) : skipF false (c :: r) = 0 := by rw [skipF, h, h2]; rfl

set_option maxRecDepth 100000 in
set_option maxHeartbeats 2000000 in
theorem rskip_any (s : ByteArray) (at0 : Nat) (w : World) (hs : s.size ≤ 1000000) (h0 : at0 ≤ s.size) :
    Calls Tryd.prog 34 #[.string s, .int .i64 at0] w fun e w' => e = .returned (.int .i64 (skipF false (s.data.toList.drop at0) : Nat)) ∧ w = w' := by
  go_enter Tryd.func34, Tryd.ntmps34
  go_wp2
  go_loop [5, 6] (fun b i => ∃ (k : Nat) (cm : Bool), at0 + k ≤ s.size ∧ i = .int .i64 k ∧ b = .bool cm ∧ Hid (skipF false (s.data.toList.drop at0) = k + skipF cm (s.data.toList.drop (at0 + k)))) (fun _ i => s.size - (intOf i).toNat)
  case atStart => exact ⟨0, false, h0, rfl, rfl, Lib.hid (by simp)⟩
  case round =>
    obtain ⟨k, cm, hk, rfl, rfl, HA⟩ := hrel
    have q0 : ((at0 : Int) + k).toNat = at0 + k := by omega
    by_cases hlt : at0 + k < s.size
    · have HD := Lib.hid (drop_cons s (at0 + k) hlt)
      have HX : Hid (∀ h : at0 + k + 1 < s.size, s.data.toList.drop (at0 + k + 1) = s[at0 + k + 1] :: s.data.toList.drop (at0 + k + 1 + 1)) := Lib.hid (fun h => drop_cons s _ h)
      have h255 : (s[at0 + k]).toNat ≤ 255 := by have := (s[at0 + k]).toNat_lt; omega
      have hl2 : (at0 : Int) + k < s.size := by omega
      generalize hcs : s[at0 + k] = c at *
      cases cm
      · by_cases h1 : c = 47
        · have e47 : ((c.toNat : Int) == 47) = true := by rw [h1]; rfl
          have n32 : ((c.toNat : Int) == 32) = false := by rw [h1]; rfl
          have m32 : ((c.toNat : Int) != 32) = true := by rw [bne, n32]; rfl
          have n9 : ((c.toNat : Int) == 9) = false := by rw [h1]; rfl
          have m9 : ((c.toNat : Int) != 9) = true := by rw [bne, n9]; rfl
          have n10 : ((c.toNat : Int) == 10) = false := by rw [h1]; rfl
          have m10 : ((c.toNat : Int) != 10) = true := by rw [bne, n10]; rfl
          have n13 : ((c.toNat : Int) == 13) = false := by rw [h1]; rfl
          have m13 : ((c.toNat : Int) != 13) = true := by rw [bne, n13]; rfl
          have HBL : Hid (blankB c = false) := Lib.hid (by rw [h1]; rfl)
          by_cases h2 : at0 + k + 1 < s.size
          · have hd := HX.out h2
            have hl3 : (at0 : Int) + k + 1 < s.size := by omega
            have hd5 : (s[at0 + k + 1]).toNat ≤ 255 := by have := (s[at0 + k + 1]).toNat_lt; omega
            generalize hds : s[at0 + k + 1] = d at *
            have HDD := Lib.hid hd
            clear hd
            by_cases h3 : d = 47
            · have f47 : ((d.toNat : Int) == 47) = true := by rw [h3]; rfl
              have HE : Hid (skipF false (s.data.toList.drop at0) = (k + 1) + skipF true (s.data.toList.drop (at0 + (k + 1)))) := Lib.hid (by
                rw [HA.out, HD.out, skipF_slash c _ (by rw [HDD.out, h1, h3]; rfl)]
                rw [show at0 + (k + 1) = at0 + k + 1 from rfl]; omega)
              clear h1 h3
              go_wp2_with fail
              go_round
              case rel => exact ⟨k + 1, true, by omega, by go_num, rfl, HE⟩
              case measure => simp [intOf]; omega
            · have f47 : ((d.toNat : Int) == 47) = false := by rw [beq_eq_false_iff_ne]; intro e; exact h3 (UInt8.toNat_inj.1 (by have : ((47 : UInt8).toNat) = 47 := rfl; omega))
              have HE : Hid (skipF false (s.data.toList.drop at0) = k) := Lib.hid (by
                rw [HA.out, HD.out, skipF_zero c _ (by rw [HDD.out]; simp [h3]) HBL.out]; rfl)
              clear h1 h3
              go_wp2_with fail
              go_ret
              exact ⟨ret_int (by rw [HE.out]), rfl⟩
          · have hl3 : ¬ (at0 : Int) + k + 1 < s.size := by omega
            have HE : Hid (skipF false (s.data.toList.drop at0) = k) := Lib.hid (by
              have e : s.data.toList.drop (at0 + k + 1) = [] := List.drop_eq_nil_of_le (by rw [← Lib.size_eq]; omega)
              rw [HA.out, HD.out, skipF_zero c _ (by rw [e]; simp) HBL.out]; rfl)
            clear h1
            go_wp2_with fail
            go_ret
            exact ⟨ret_int (by rw [HE.out]), rfl⟩
        · have e47 : ((c.toNat : Int) == 47) = false := by rw [beq_eq_false_iff_ne]; intro e; exact h1 (UInt8.toNat_inj.1 (by have : ((47 : UInt8).toNat) = 47 := rfl; omega))
          cases hb : blankB c
          · have HE : Hid (skipF false (s.data.toList.drop at0) = k) := Lib.hid (by rw [HA.out, HD.out, skipF_zero c _ (by simp [h1]) hb]; rfl)
            have hb2 := hb
            simp only [blankB, Bool.or_eq_false_iff, beq_eq_false_iff_ne] at hb2
            obtain ⟨⟨⟨b1, b2⟩, b3⟩, b4⟩ := hb2
            have n32 : ((c.toNat : Int) == 32) = false := by rw [beq_eq_false_iff_ne]; intro e; exact b1 (UInt8.toNat_inj.1 (by have : ((32 : UInt8).toNat) = 32 := rfl; omega))
            have m32 : ((c.toNat : Int) != 32) = true := by rw [bne, n32]; rfl
            have n9 : ((c.toNat : Int) == 9) = false := by rw [beq_eq_false_iff_ne]; intro e; exact b2 (UInt8.toNat_inj.1 (by have : ((9 : UInt8).toNat) = 9 := rfl; omega))
            have m9 : ((c.toNat : Int) != 9) = true := by rw [bne, n9]; rfl
            have n10 : ((c.toNat : Int) == 10) = false := by rw [beq_eq_false_iff_ne]; intro e; exact b3 (UInt8.toNat_inj.1 (by have : ((10 : UInt8).toNat) = 10 := rfl; omega))
            have m10 : ((c.toNat : Int) != 10) = true := by rw [bne, n10]; rfl
            have n13 : ((c.toNat : Int) == 13) = false := by rw [beq_eq_false_iff_ne]; intro e; exact b4 (UInt8.toNat_inj.1 (by have : ((13 : UInt8).toNat) = 13 := rfl; omega))
            have m13 : ((c.toNat : Int) != 13) = true := by rw [bne, n13]; rfl
            clear h1 hb b1 b2 b3 b4
            go_wp2_with fail
            go_ret
            exact ⟨ret_int (by rw [HE.out]), rfl⟩
          · have HE : Hid (skipF false (s.data.toList.drop at0) = (k + 1) + skipF false (s.data.toList.drop (at0 + (k + 1)))) := Lib.hid (by
              rw [HA.out, HD.out, skip_blank c _ hb, show at0 + (k + 1) = at0 + k + 1 from rfl]; omega)
            have hb2 := hb
            simp only [blankB, Bool.or_eq_true, beq_iff_eq] at hb2
            clear h1 hb
            rcases hb2 with ((h | h) | h) | h
            all_goals
              subst h
              go_wp2_with fail
              go_round
              case rel => exact ⟨k + 1, false, by omega, by go_num, rfl, HE⟩
              case measure => simp [intOf]; omega
      · by_cases h1 : c = 10
        · have n10 : ((c.toNat : Int) == 10) = true := by rw [h1]; rfl
          have m10 : ((c.toNat : Int) != 10) = false := by rw [bne, n10]; rfl
          have HE : Hid (skipF false (s.data.toList.drop at0) = (k + 1) + skipF false (s.data.toList.drop (at0 + (k + 1)))) := Lib.hid (by
            rw [HA.out, HD.out, skipF_true, show (c != 10) = false by rw [h1]; rfl, show at0 + (k + 1) = at0 + k + 1 from rfl]; omega)
          clear h1
          go_wp2_with fail
          go_round
          case rel => exact ⟨k + 1, false, by omega, by go_num, rfl, HE⟩
          case measure => simp [intOf]; omega
        · have n10 : ((c.toNat : Int) == 10) = false := by rw [beq_eq_false_iff_ne]; intro e; exact h1 (UInt8.toNat_inj.1 (by have : ((10 : UInt8).toNat) = 10 := rfl; omega))
          have m10 : ((c.toNat : Int) != 10) = true := by rw [bne, n10]; rfl
          have HE : Hid (skipF false (s.data.toList.drop at0) = (k + 1) + skipF true (s.data.toList.drop (at0 + (k + 1)))) := Lib.hid (by
            rw [HA.out, HD.out, skipF_true, show (c != 10) = true by simpa using h1, show at0 + (k + 1) = at0 + k + 1 from rfl]; omega)
          clear h1
          go_wp2_with fail
          go_round
          case rel => exact ⟨k + 1, true, by omega, by go_num, rfl, HE⟩
          case measure => simp [intOf]; omega
    · have hl2 : ¬ (at0 : Int) + k < s.size := by omega
      have HE : Hid (skipF false (s.data.toList.drop at0) = k) := Lib.hid (by rw [HA.out, List.drop_eq_nil_of_le (by rw [← Lib.size_eq]; omega)]; simp [skipF])
      go_wp2_with fail
      go_ret
      exact ⟨ret_int (by rw [HE.out]), rfl⟩
end Go.Proofs.YtmlfoffahfbalaaDoor
