/- Contracts of the major version of a segment: version, major. -/
import Derived.Test.YtbpgbbdebhmlkaaDoorKeyword
import Derived.Test.YtbpgbbdebhmlkaaDoorPlainVer
namespace Go.Proofs.YtbpgbbdebhmlkaaDoor
open Go Go.RowKit

theorem valL_take (r : ByteArray) (k : Nat) (h : k < r.size) : valL (r.data.toList.take (k + 1)) = 10 * valL (r.data.toList.take k) + ((r[k].toNat : Int) - 48) := by
  rw [List.take_succ_eq_append_getElem (by simpa using h), valL_snoc]; rfl
theorem all_at (p : Int → Bool) (r : ByteArray) (h : allZ p r = true) (k : Nat) (hk : k < r.size) : p (r[k].toNat) = true :=
  List.all_eq_true.1 h _ (Array.mem_toList_iff.2 (Array.getElem_mem (xs := r.data) hk))

set_option maxHeartbeats 600000 in
theorem version_any (s : ByteArray) (w : World) (hs : s.size ≤ 140737488351232) :
    Calls Tryd.prog 45 #[.string s] w fun e w' => e = .returned (.tuple #[.int .i64 (verN s), .bool (verOk s)]) ∧ w = w' := by
  by_cases h1 : headZ s = 118
  case neg =>
    have hp : Lib.hasPrefix s.data.toList [118] = false := by rw [prefix_v]; simpa using h1
    have HT : Hid (verOk s = false) := Lib.hid (by simp [verOk, h1])
    clear h1
    go_enter Tryd.func45, Tryd.ntmps45
    go_wp2_with ((go_at_call 66; refine (CutPrefix_any _ _ _).mono ?_; rintro e w' ⟨rfl, rfl⟩))
    go_ret2
    exact ⟨ret_ib (by rw [verN, HT.out]; rfl) HT.out.symm, rfl⟩
  have hp : Lib.hasPrefix s.data.toList [118] = true := by rw [prefix_v, h1]; rfl
  have HO : Hid (verOk s = okR (tailS s)) := Lib.hid (by simp [verOk, h1])
  have HTR := Lib.hid (trim_v s h1)
  have hrs : (tailS s).size ≤ 140737488351232 := by rw [tailS_size]; omega
  have HV : Hid (verN s = if okR (tailS s) then valL (tailS s).data.toList else 0) := Lib.hid (by rw [verN, HO.out, tailS_data])
  generalize tailS s = r at *
  clear h1
  by_cases h2 : 1 ≤ r.size
  case neg =>
    have he := is_nil r h2
    have HT : Hid (okR r = false) := Lib.hid (by simp [okR, h2])
    clear h2
    go_enter Tryd.func45, Tryd.ntmps45
    go_wp2_with fail
    refine (CutPrefix_any _ _ _).mono ?_
    rintro e w' ⟨rfl, rfl⟩
    rw [HTR.out]
    go_wp2
    go_ret2
    exact ⟨ret_ib (by rw [HV.out, HT.out]; rfl) (by rw [HO.out, HT.out]), rfl⟩
  have he1 := ne_nil r h2
  have he2 := ne_empty r h2
  by_cases h3 : r.size ≤ 3
  case neg =>
    have HT : Hid (okR r = false) := Lib.hid (by simp [okR, h3])
    go_enter Tryd.func45, Tryd.ntmps45
    go_wp2_with fail
    refine (CutPrefix_any _ _ _).mono ?_
    rintro e w' ⟨rfl, rfl⟩
    rw [HTR.out]
    go_wp2
    go_ret2
    exact ⟨ret_ib (by rw [HV.out, HT.out]; rfl) (by rw [HO.out, HT.out]), rfl⟩
  by_cases h4 : 1 < r.size ∧ (r[0].toNat : Int) = 48
  case pos =>
    obtain ⟨h4, h5⟩ := h4
    have HT : Hid (okR r = false) := Lib.hid (by rw [← headZ_eq r h2] at h5; simp [okR, h4, h5])
    have h6 : ((r[0].toNat : Int) == 48) = true := by rw [h5]; rfl
    clear h5
    go_enter Tryd.func45, Tryd.ntmps45
    go_wp2_with fail
    refine (CutPrefix_any _ _ _).mono ?_
    rintro e w' ⟨rfl, rfl⟩
    rw [HTR.out]
    go_wp2
    go_ret2
    exact ⟨ret_ib (by rw [HV.out, HT.out]; rfl) (by rw [HO.out, HT.out]), rfl⟩
  have HT : Hid (okR r = allZ digitZ r) := Lib.hid (by
    rw [← headZ_eq r h2] at h4
    have : (!(decide (1 < r.size) && headZ r == 48)) = true := by
      rw [Bool.not_eq_true', Bool.and_eq_false_iff]
      by_cases h : 1 < r.size
      · exact .inr (by simpa using fun e => h4 ⟨h, e⟩)
      · exact .inl (by simpa using h)
    rw [okR, decide_eq_true h2, decide_eq_true h3, this]; rfl)
  have hml : r.size ≤ maxLen := by unfold maxLen; omega
  cases h7 : allZ digitZ r
  case false =>
    by_cases h8 : 1 < r.size
    · have h6 : ((r[0].toNat : Int) == 48) = false := by rw [beq_eq_false_iff_ne]; exact fun e => h4 ⟨h8, e⟩
      have H7 := Lib.hid h7
      clear h4
      go_enter Tryd.func45, Tryd.ntmps45
      go_wp2_with fail
      refine (CutPrefix_any _ _ _).mono ?_
      rintro e w' ⟨rfl, rfl⟩
      rw [HTR.out]
      go_wp2_with ((go_at_call 47; refine (all_digitZ _ _ hml).mono ?_; rintro e w' ⟨rfl, rfl⟩))
      go_ret2
      exact ⟨ret_ib (by rw [HV.out, HT.out, H7.out]; rfl) (by rw [HO.out, HT.out, H7.out]), rfl⟩
    · have H7 := Lib.hid h7
      clear h4
      go_enter Tryd.func45, Tryd.ntmps45
      go_wp2_with fail
      refine (CutPrefix_any _ _ _).mono ?_
      rintro e w' ⟨rfl, rfl⟩
      rw [HTR.out]
      go_wp2_with ((go_at_call 47; refine (all_digitZ _ _ hml).mono ?_; rintro e w' ⟨rfl, rfl⟩))
      go_ret2
      exact ⟨ret_ib (by rw [HV.out, HT.out, H7.out]; rfl) (by rw [HO.out, HT.out, H7.out]), rfl⟩
  case true =>
    have H7 := Lib.hid h7
    have hfin : ∀ w' : World, w = w' → (Ending.returned (.tuple #[.int .i64 (valL r.data.toList), .bool true]) = Ending.returned (.tuple #[.int .i64 (verN s), .bool (verOk s)])) ∧ w = w' := fun w' hw => ⟨ret_ib (by rw [HV.out, HT.out, H7.out]; rfl) (by rw [HO.out, HT.out, H7.out]), hw⟩
    have HF := Lib.hid hfin
    clear hfin
    have h6 : 1 < r.size → ¬ (r[0].toNat : Int) = 48 := fun a b => h4 ⟨a, b⟩
    have H6 := Lib.hid h6
    clear h4 h6
    by_cases h8 : 1 < r.size
    all_goals
      first
      | have h6 : ((r[0].toNat : Int) == 48) = false := by rw [beq_eq_false_iff_ne]; exact H6.out h8
      | skip
      go_enter Tryd.func45, Tryd.ntmps45
      go_wp2_with fail
      refine (CutPrefix_any _ _ _).mono ?_
      rintro e w' ⟨rfl, rfl⟩
      rw [HTR.out]
      go_wp2_with ((go_at_call 47; refine (all_digitZ _ _ hml).mono ?_; rintro e w' ⟨rfl, rfl⟩))
      go_loop [5, 40] (fun n i => ∃ (k : Nat) (x : Int), k ≤ r.size ∧ i = .int .i64 k ∧ n = .int .i64 x ∧ 0 ≤ x ∧ x < 10 ^ k ∧ Hid (x = valL (r.data.toList.take k))) (fun _ i => r.size - (intOf i).toNat)
      case atStart => exact ⟨0, 0, Nat.zero_le _, rfl, rfl, by omega, by simp, Lib.hid rfl⟩
      case round =>
        obtain ⟨k, x, hk, rfl, rfl, x0, x1, HA⟩ := hrel
        by_cases hlt : k < r.size
        · have hd := all_at _ r H7.out k hlt
          simp only [digitZ, Bool.and_eq_true, decide_eq_true_eq] at hd
          obtain ⟨hd1, hd2⟩ := hd
          have x2 : x < 100 := by
            have : k = 0 ∨ k = 1 ∨ k = 2 := by omega
            rcases this with rfl | rfl | rfl <;> simp at x1 <;> omega
          have HX := Lib.hid x1
          clear x1
          go_wp2
          go_round
          case rel => exact ⟨k + 1, 10 * x + ((r[k].toNat : Int) - 48), by omega, by go_num, rfl, by omega, by have := HX.out; rw [Int.pow_succ]; omega, Lib.hid (by rw [valL_take r k hlt, ← HA.out])⟩
          case measure => simp [intOf]; omega
        · obtain rfl : k = r.size := by omega
          clear x1
          go_wp2
          go_ret2
          have := HF.out w rfl
          rw [← show x = valL r.data.toList from by rw [HA.out, List.take_of_length_le (by simp)]] at this
          exact this
end Go.Proofs.YtbpgbbdebhmlkaaDoor
