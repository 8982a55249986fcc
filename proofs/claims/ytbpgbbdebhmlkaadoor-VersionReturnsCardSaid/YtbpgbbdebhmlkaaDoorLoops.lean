/- Contracts of the loops over a string: all, words, span. -/
import Derived.Test.YtbpgbbdebhmlkaaDoorChars
namespace Go.Proofs.YtbpgbbdebhmlkaaDoor
open Go Go.RowKit

set_option maxHeartbeats 400000 in
theorem all_wordZ (s : ByteArray) (w : World) (hs : s.size ≤ maxLen) :
    Calls Tryd.prog 47 #[.string s, .func (.func 67) #[] #[]] w fun e w' => e = .returned (.bool (allZ wordZ s)) ∧ w = w' := by
  unfold maxLen at hs
  go_enter Tryd.func47, Tryd.ntmps47
  go_wp2
  go_loop [8] (fun i => ∃ k : Nat, k ≤ s.size ∧ i = .int .i64 k ∧ Hid ((s.data.toList.take k).all (fun b => wordZ b.toNat) = true)) (fun i => s.size - (intOf i).toNat)
  case atStart => exact ⟨0, Nat.zero_le _, rfl, Lib.hid rfl⟩
  case round =>
    obtain ⟨k, hk, rfl, HA⟩ := hrel
    by_cases hlt : k < s.size
    · cases hb : wordZ (s[k].toNat : Int)
      · go_wp2_with (go_at_call 67; refine (word_any _ _).mono ?_; rintro e w' ⟨rfl, rfl⟩)
        go_ret
        exact ⟨ret_bool (all_not _ s k hlt (by rw [hb]; exact Bool.false_ne_true)).symm, rfl⟩
      · go_wp2_with (go_at_call 67; refine (word_any _ _).mono ?_; rintro e w' ⟨rfl, rfl⟩)
        go_round
        case rel => exact ⟨k + 1, by omega, by go_num, Lib.hid (all_take _ s k hlt HA.out hb)⟩
        case measure => simp [intOf]; omega
    · go_wp2
      go_ret
      exact ⟨ret_bool (all_done _ s k (by omega) HA.out).symm, rfl⟩
set_option maxHeartbeats 400000 in
theorem all_digitZ (s : ByteArray) (w : World) (hs : s.size ≤ maxLen) :
    Calls Tryd.prog 47 #[.string s, .func (.func 50) #[] #[]] w fun e w' => e = .returned (.bool (allZ digitZ s)) ∧ w = w' := by
  unfold maxLen at hs
  go_enter Tryd.func47, Tryd.ntmps47
  go_wp2
  go_loop [8] (fun i => ∃ k : Nat, k ≤ s.size ∧ i = .int .i64 k ∧ Hid ((s.data.toList.take k).all (fun b => digitZ b.toNat) = true)) (fun i => s.size - (intOf i).toNat)
  case atStart => exact ⟨0, Nat.zero_le _, rfl, Lib.hid rfl⟩
  case round =>
    obtain ⟨k, hk, rfl, HA⟩ := hrel
    by_cases hlt : k < s.size
    · cases hb : digitZ (s[k].toNat : Int)
      · go_wp2_with (go_at_call 50; refine (digit_any _ _).mono ?_; rintro e w' ⟨rfl, rfl⟩)
        go_ret
        exact ⟨ret_bool (all_not _ s k hlt (by rw [hb]; exact Bool.false_ne_true)).symm, rfl⟩
      · go_wp2_with (go_at_call 50; refine (digit_any _ _).mono ?_; rintro e w' ⟨rfl, rfl⟩)
        go_round
        case rel => exact ⟨k + 1, by omega, by go_num, Lib.hid (all_take _ s k hlt HA.out hb)⟩
        case measure => simp [intOf]; omega
    · go_wp2
      go_ret
      exact ⟨ret_bool (all_done _ s k (by omega) HA.out).symm, rfl⟩
set_option maxHeartbeats 400000 in
theorem all_pathZ (s : ByteArray) (w : World) (hs : s.size ≤ maxLen) :
    Calls Tryd.prog 47 #[.string s, .func (.func 48) #[] #[]] w fun e w' => e = .returned (.bool (allZ pathZ s)) ∧ w = w' := by
  unfold maxLen at hs
  go_enter Tryd.func47, Tryd.ntmps47
  go_wp2
  go_loop [8] (fun i => ∃ k : Nat, k ≤ s.size ∧ i = .int .i64 k ∧ Hid ((s.data.toList.take k).all (fun b => pathZ b.toNat) = true)) (fun i => s.size - (intOf i).toNat)
  case atStart => exact ⟨0, Nat.zero_le _, rfl, Lib.hid rfl⟩
  case round =>
    obtain ⟨k, hk, rfl, HA⟩ := hrel
    by_cases hlt : k < s.size
    · cases hb : pathZ (s[k].toNat : Int)
      · go_wp2_with (go_at_call 48; refine (major1_any _ _).mono ?_; rintro e w' ⟨rfl, rfl⟩)
        go_ret
        exact ⟨ret_bool (all_not _ s k hlt (by rw [hb]; exact Bool.false_ne_true)).symm, rfl⟩
      · go_wp2_with (go_at_call 48; refine (major1_any _ _).mono ?_; rintro e w' ⟨rfl, rfl⟩)
        go_round
        case rel => exact ⟨k + 1, by omega, by go_num, Lib.hid (all_take _ s k hlt HA.out hb)⟩
        case measure => simp [intOf]; omega
    · go_wp2
      go_ret
      exact ⟨ret_bool (all_done _ s k (by omega) HA.out).symm, rfl⟩

end Go.Proofs.YtbpgbbdebhmlkaaDoor
