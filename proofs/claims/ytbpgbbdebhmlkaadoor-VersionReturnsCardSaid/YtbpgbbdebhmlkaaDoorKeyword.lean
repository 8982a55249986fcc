/- Contracts of the lexer's keyword, IsName, IsType. -/
import Derived.Test.YtbpgbbdebhmlkaaDoorNames
import Derived.Test.YtbpgbbdebhmlkaaDoorLib
namespace Go.Proofs.YtbpgbbdebhmlkaaDoor
open Go Go.RowKit

theorem word_no (s : ByteArray) (h : allZ wordZ s = true) : ∀ b ∈ s.data.toList, b ≠ 32 := by
  intro b hb e
  have := List.all_eq_true.1 h b hb
  rw [e] at this
  exact absurd this (by decide)

set_option maxRecDepth 100000 in
set_option maxHeartbeats 400000 in
theorem keyword_any (s : ByteArray) (w : World) (hs : s.size ≤ 1000000) (hm : MaxOk w) (hw : Hid (allZ wordZ s = true)) :
    Calls Tryd.prog 68 #[.string s] w fun e w' => e = .returned (.bool (kwS s)) ∧ w = w' := by
  have HM := Lib.hid hm; clear hm
  go_enter Tryd.func68, Tryd.ntmps68
  go_wp2_with fail
  refine (Contains_any _ _ w (by decide) HM.out).mono ?_
  rintro e w' ⟨rfl, rfl⟩
  go_wp2
  go_ret
  refine ⟨ret_bool ?_, rfl⟩
  rw [kwS_eq, ← kw_contains s.data.toList (word_no s hw.out)]
  congr 1
set_option maxHeartbeats 400000 in
theorem IsName_any (s : ByteArray) (w : World) (hs : s.size ≤ maxLen) (hm : MaxOk w) :
    Calls Tryd.prog 46 #[.string s] w fun e w' => e = .returned (.bool (nameS s)) ∧ w = w' := by
  by_cases h1 : 1 ≤ s.size
  · have hh := headZ_eq s h1
    have he1 := ne_nil s h1
    have he2 := ne_empty s h1
    by_cases h2 : s.size ≤ 32
    · cases h3 : smallZ (s[0].toNat : Int)
      · have HT : Hid (nameS s = false) := Lib.hid (by rw [← hh] at h3; simp [nameS, h3])
        clear hh
        go_enter Tryd.func46, Tryd.ntmps46
        go_wp2_with (first | (go_at_call 49; refine (small_any _ _).mono ?_; rintro e w' ⟨rfl, rfl⟩))
        go_ret
        exact ⟨ret_bool HT.out.symm, rfl⟩
      · cases h4 : allZ wordZ s
        · have HT : Hid (nameS s = false) := Lib.hid (by simp [nameS, h4])
          clear hh
          go_enter Tryd.func46, Tryd.ntmps46
          go_wp2_with (first | (go_at_call 49; refine (small_any _ _).mono ?_; rintro e w' ⟨rfl, rfl⟩) | (go_at_call 47; refine (all_wordZ _ _ hs).mono ?_; rintro e w' ⟨rfl, rfl⟩))
          go_ret
          exact ⟨ret_bool HT.out.symm, rfl⟩
        · have HT : Hid (nameS s = !kwS s) := Lib.hid (by rw [← hh] at h3; simp [nameS, h3, h1, h2, h4])
          have H4 := Lib.hid h4
          have hs2 : s.size ≤ 1000000 := by omega
          clear hh
          go_enter Tryd.func46, Tryd.ntmps46
          go_wp2_with (first | (go_at_call 49; refine (small_any _ _).mono ?_; rintro e w' ⟨rfl, rfl⟩) | (go_at_call 47; refine (all_wordZ _ _ hs).mono ?_; rintro e w' ⟨rfl, rfl⟩) | (go_at_call 68; refine (keyword_any _ _ hs2 hm H4).mono ?_; rintro e w' ⟨rfl, rfl⟩))
          go_ret
          exact ⟨ret_bool HT.out.symm, rfl⟩
    · have HT : Hid (nameS s = false) := Lib.hid (by simp [nameS, h2])
      go_enter Tryd.func46, Tryd.ntmps46
      go_wp2
      go_ret
      exact ⟨ret_bool HT.out.symm, rfl⟩
  · have HT : Hid (nameS s = false) := Lib.hid (by simp [nameS, h1])
    have he1 : s.toList = [] := is_nil s h1
    go_enter Tryd.func46, Tryd.ntmps46
    go_wp2
    go_ret
    exact ⟨ret_bool HT.out.symm, rfl⟩

end Go.Proofs.YtbpgbbdebhmlkaaDoor
