/- Contracts of the reference's IsName, IsType. -/
import Derived.Test.YtbpgbbdebhmlkaaGreatDoorKeys
namespace Go.Proofs.YtbpgbbdebhmlkaaGreatDoor
open Go Go.RowKit

theorem has_kw (s : ByteArray) (w : World) :
    Calls Tryz.prog 84 #[.slice (some ⟨w.heap.size, 0, none⟩) 28 28, .string s] (w.alloc (.cells (kwList.map Value.string).toArray 9)) fun e w' => e = .returned (.bool (kwS s)) ∧ (w.alloc (.cells (kwList.map Value.string).toArray 9)) = w' :=
  has_any _ 0 28 28 kwList s _ rfl (by decide) (fun i hi => cells_new w kwList _ i hi)

set_option maxHeartbeats 400000 in
theorem rIsName_any (s : ByteArray) (w : World) (hs : s.size ≤ maxLen) :
    Calls Tryz.prog 67 #[.string s] w fun e w' => e = .returned (.bool (nameS s)) ∧ Below w.heap.size w w' := by
  by_cases h1 : 1 ≤ s.size
  · have hh := headZ_eq s h1
    by_cases h2 : s.size ≤ 32
    · cases h3 : smallZ (s[0].toNat : Int)
      · have HT : Hid (nameS s = false) := Lib.hid (by rw [← hh] at h3; simp [nameS, h3])
        clear hh
        go_enter Tryz.func67, Tryz.ntmps67
        go_wp2_with (first | (go_at_call 65; refine (rsmall_any _ _).mono ?_; rintro e w' ⟨rfl, rfl⟩))
        go_ret
        exact ⟨ret_bool HT.out.symm, Below.refl _ _⟩
      · cases h4 : allZ wordZ s
        · have HT : Hid (nameS s = false) := Lib.hid (by simp [nameS, h4])
          clear hh
          go_enter Tryz.func67, Tryz.ntmps67
          go_wp2_with (first | (go_at_call 65; refine (rsmall_any _ _).mono ?_; rintro e w' ⟨rfl, rfl⟩) | (go_at_call 83; refine (words_any _ _ hs).mono ?_; rintro e w' ⟨rfl, rfl⟩))
          go_ret
          exact ⟨ret_bool HT.out.symm, Below.refl _ _⟩
        · have HT : Hid (nameS s = !kwS s) := Lib.hid (by rw [← hh] at h3; simp [nameS, h3, h1, h2, h4])
          clear hh
          go_enter Tryz.func67, Tryz.ntmps67
          go_wp2_with (first | (go_at_call 65; refine (rsmall_any _ _).mono ?_; rintro e w' ⟨rfl, rfl⟩) | (go_at_call 83; refine (words_any _ _ hs).mono ?_; rintro e w' ⟨rfl, rfl⟩) | (go_at_call 85; refine (keywords_any _).mono ?_; rintro e w' ⟨rfl, rfl⟩) | (go_at_call 84; refine (has_kw _ _).mono ?_; rintro e w' ⟨rfl, rfl⟩))
          go_ret
          exact ⟨ret_bool HT.out.symm, (Below.refl _ _).alloc (Nat.le_refl _) _⟩
    · have HT : Hid (nameS s = false) := Lib.hid (by simp [nameS, h2])
      go_enter Tryz.func67, Tryz.ntmps67
      go_wp2
      go_ret
      exact ⟨ret_bool HT.out.symm, Below.refl _ _⟩
  · have HT : Hid (nameS s = false) := Lib.hid (by simp [nameS, h1])
    go_enter Tryz.func67, Tryz.ntmps67
    go_wp2
    go_ret
    exact ⟨ret_bool HT.out.symm, Below.refl _ _⟩
end Go.Proofs.YtbpgbbdebhmlkaaGreatDoor
