/- Contract of the reference's major version of a segment. -/
import Derived.Test.YtbpgbbdebhmlkaaGreatDoorVersion
namespace Go.Proofs.YtbpgbbdebhmlkaaGreatDoor
open Go Go.RowKit

def majZ (s : ByteArray) : Int := if verOk s then verN s else -1
theorem majZ_no {s : ByteArray} (h : verOk s = false) : majZ s = -1 := by unfold majZ; rw [h]; rfl

theorem tail_step (s : ByteArray) (k : Nat) (h1 : 1 ≤ k) (h : k < s.size) : (s.data.toList.drop 1).take (k + 1 - 1) = (s.data.toList.drop 1).take (k - 1) ++ [s[k]] := by
  have e : k + 1 - 1 = (k - 1) + 1 := by omega
  rw [e, List.take_succ_eq_append_getElem (by simp; omega), List.getElem_drop]
  congr 2
  have : 1 + (k - 1) = k := by omega
  simp only [this]; rfl
theorem tail_get (s : ByteArray) (h : 1 < s.size) : headZ (tailS s) = (s[1].toNat : Int) := by
  have hl : (tailS s).data.toList = s[1] :: (s.data.toList.drop 2) := by
    rw [tailS_data]
    have := List.drop_eq_getElem_cons (l := s.data.toList) (i := 1) (by rw [← Lib.size_eq]; exact h)
    rw [this]; rfl
  rw [headZ_cons _ _ _ hl]

set_option maxHeartbeats 600000 in
theorem rmajor_any (s : ByteArray) (w : World) (hs : s.size ≤ 140737488351232) :
    Calls Tryz.prog 52 #[.string s] w fun e w' => e = .returned (.int .i64 (majZ s)) ∧ w = w' := by
  have ht := tailS_size s
  by_cases h1 : 2 ≤ s.size
  case neg =>
    have HT : Hid (majZ s = -1) := Lib.hid (majZ_no (by simp [verOk, okR]; intro _ h; omega))
    go_enter Tryz.func52, Tryz.ntmps52
    go_wp2
    go_ret
    exact ⟨ret_int HT.out.symm, rfl⟩
  by_cases h2 : s.size ≤ 4
  case neg =>
    have HT : Hid (majZ s = -1) := Lib.hid (majZ_no (by simp [verOk, okR]; intro _ _ h; omega))
    go_enter Tryz.func52, Tryz.ntmps52
    go_wp2
    go_ret
    exact ⟨ret_int HT.out.symm, rfl⟩
  have hh := headZ_eq s (by omega)
  have hg := tail_get s (by omega)
  cases h3 : ((s[0].toNat : Int) == 118)
  case false =>
    have HT : Hid (majZ s = -1) := Lib.hid (majZ_no (by rw [verOk, hh, h3]; rfl))
    have h3' : ((s[0].toNat : Int) != 118) = true := by rw [bne, h3]; rfl
    clear hh hg h3 ht
    go_enter Tryz.func52, Tryz.ntmps52
    go_wp2
    go_ret
    exact ⟨ret_int HT.out.symm, rfl⟩
  have h3' : ((s[0].toNat : Int) != 118) = false := by rw [bne, h3]; rfl
  by_cases h4 : (s[1].toNat : Int) = 48 ∧ 2 < s.size
  case pos =>
    obtain ⟨h4, h5⟩ := h4
    have HT : Hid (majZ s = -1) := Lib.hid (majZ_no (by
      rw [verOk, okR, hg, h4]
      have : decide (1 < (tailS s).size) = true := by rw [ht]; simp; omega
      rw [this]; simp))
    have h4' : ((s[1].toNat : Int) == 48) = true := by rw [h4]; rfl
    clear hh hg h3 ht h4
    go_enter Tryz.func52, Tryz.ntmps52
    go_wp2
    go_ret
    exact ⟨ret_int HT.out.symm, rfl⟩
  have HO : Hid (verOk s = allZ digitZ (tailS s)) := Lib.hid (by
    have e : (!(decide (1 < (tailS s).size) && headZ (tailS s) == 48)) = true := by
      rw [Bool.not_eq_true', Bool.and_eq_false_iff, ht, hg]
      by_cases h : (s[1].toNat : Int) = 48
      · exact .inl (by simp; have : ¬ 2 < s.size := fun x => h4 ⟨h, x⟩; omega)
      · exact .inr (by simpa using h)
    rw [verOk, okR, hh, h3, e, decide_eq_true (show 1 ≤ (tailS s).size by omega), decide_eq_true (show (tailS s).size ≤ 3 by omega)]; rfl)
  have HG := Lib.hid h4
  have HH3 := Lib.hid h3
  clear h4 hh hg ht h3
  cases h5 : ((s[1].toNat : Int) == 48)
  all_goals
    first
    | (have h6 : s.size ≤ 2 := by
        have := HG.out
        rw [beq_iff_eq] at h5
        by_cases h : 2 < s.size
        · exact absurd ⟨h5, h⟩ this
        · omega)
    | skip
    go_enter Tryz.func52, Tryz.ntmps52
    go_wp2
    go_loop [3, 4] (fun n i => ∃ (k : Nat) (x : Int), 1 ≤ k ∧ k ≤ s.size ∧ i = .int .i64 k ∧ n = .int .i64 x ∧ 0 ≤ x ∧ x < 10 ^ (k - 1) ∧ Hid (x = valL ((s.data.toList.drop 1).take (k - 1)) ∧ ((s.data.toList.drop 1).take (k - 1)).all (fun b => digitZ b.toNat) = true)) (fun _ i => s.size - (intOf i).toNat)
    case atStart => exact ⟨1, 0, by omega, by omega, rfl, rfl, by omega, by simp, Lib.hid ⟨rfl, rfl⟩⟩
    case round =>
      obtain ⟨k, x, hk1, hk, rfl, rfl, x0, x1, HA⟩ := hrel
      by_cases hlt : k < s.size
      · have HS := Lib.hid (tail_step s k hk1 hlt)
        have x2 : x < 1000 := by
          have : k = 1 ∨ k = 2 ∨ k = 3 := by omega
          rcases this with rfl | rfl | rfl <;> simp at x1 <;> omega
        have HX := Lib.hid x1
        clear x1
        cases hd : digitZ (s[k].toNat : Int)
        · have HN : Hid (majZ s = -1) := Lib.hid (majZ_no (by
            rw [HO.out, allZ, tailS_data, List.all_eq_false]
            refine ⟨s[k], ?_, by rw [hd]; exact Bool.false_ne_true⟩
            have : s[k] ∈ (s.data.toList.drop 1).take (k + 1 - 1) := by rw [HS.out]; simp
            exact List.mem_of_mem_take this))
          clear h5
          go_wp2_with ((go_at_call 66; refine (rdigit_any _ _).mono ?_; rintro e w' ⟨rfl, rfl⟩))
          go_ret
          exact ⟨ret_int HN.out.symm, rfl⟩
        · have HD := Lib.hid hd
          have hd' := hd
          simp only [digitZ, Bool.and_eq_true, decide_eq_true_eq] at hd'
          obtain ⟨hd1, hd2⟩ := hd'
          clear h5
          go_wp2_with ((go_at_call 66; refine (rdigit_any _ _).mono ?_; rintro e w' ⟨rfl, rfl⟩))
          go_round
          case rel => exact ⟨k + 1, 10 * x + ((s[k].toNat : Int) - 48), by omega, by omega, by go_num, rfl, by omega, by have := HX.out; rw [show k + 1 - 1 = (k - 1) + 1 from by omega, Int.pow_succ]; omega, Lib.hid ⟨by rw [HS.out, valL_snoc, ← HA.out.1], by rw [HS.out, List.all_append, HA.out.2]; simp [HD.out]⟩⟩
          case measure => simp [intOf]; omega
      · obtain rfl : k = s.size := by omega
        clear x1 h5
        go_wp2
        go_ret
        have e : (s.data.toList.drop 1).take (s.size - 1) = s.data.toList.drop 1 := List.take_of_length_le (by simp)
        have ho : verOk s = true := by rw [HO.out, allZ, tailS_data, ← e]; exact HA.out.2
        exact ⟨ret_int (by rw [majZ, verN, ho, HA.out.1, e]; rfl), rfl⟩
end Go.Proofs.YtbpgbbdebhmlkaaGreatDoor
