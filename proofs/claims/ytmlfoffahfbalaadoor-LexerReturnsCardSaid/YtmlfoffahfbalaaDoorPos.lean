/- Contracts of Position. -/
import Derived.Test.YtmlfoffahfbalaaDoorKeyword
import Derived.Test.YtmlfoffahfbalaaDoorPlainPos
namespace Go.Proofs.YtmlfoffahfbalaaDoor
open Go Go.RowKit

/-- an offset, brought into the string. -/
def clampS (s : ByteArray) (off : Int) : Nat := (min (max off 0) s.size).toNat
def headS (s : ByteArray) (off : Int) : List UInt8 := s.data.toList.take (clampS s off)

theorem count_le (l : List UInt8) (c : UInt8) : (Lib.countByte l c : Int) ≤ l.length := by
  have := List.count_le_length (a := c) (l := l)
  unfold Lib.countByte
  omega

set_option maxHeartbeats 400000 in
theorem Position_any (s : ByteArray) (off : Int) (w : World) (hs : s.size ≤ 140737488351232) :
    Calls Tryd.prog 23 #[.string s, .int .i64 off] w fun e w' => e = .returned (.tuple #[.int .i64 (lineL (headS s off)), .int .i64 (colL (headS s off))]) ∧ w = w' := by
  have hsz : (s.extract 0 (min (max off 0) ↑s.size).toNat).size = clampS s off := by
    rw [Lib.size_eq, Lib.extract_data]; simp [clampS]; omega
  have hd : (s.extract 0 (min (max off 0) ↑s.size).toNat).data.toList = headS s off := by
    rw [Lib.extract_data]; rfl
  have hc : clampS s off ≤ 140737488351232 := by unfold clampS; omega
  have b1 := count_le (headS s off) 10
  have b2 := colL_pos (headS s off)
  have b3 := col_code (s.extract 0 (min (max off 0) ↑s.size).toNat)
  rw [hd] at b3
  have hl : (headS s off).length = clampS s off := by rw [← hd, ← Lib.size_eq, hsz]
  rw [hl] at b1 b2
  obtain ⟨b2, b2'⟩ := b2
  generalize hlx : Lib.lastIndexByte (s.extract 0 (min (max off 0) ↑s.size).toNat) 10 = lx at *
  have b4 : -1 ≤ lx := by omega
  have b5 : lx ≤ 140737488351232 := by omega
  generalize hcx : Lib.countByte (headS s off) 10 = cx at *
  have HZ := Lib.hid hsz; have HD := Lib.hid hd; have H3 := Lib.hid b3; have HX := Lib.hid hlx; have HC := Lib.hid hcx
  clear hsz hd b3 hl hlx hcx
  go_enter Tryd.func23, Tryd.ntmps23
  go_wp2_with fail
  refine (Count_any _ _ _).mono ?_
  rintro e w' ⟨rfl, rfl⟩
  rw [HD.out, HC.out]
  go_wp2_with fail
  refine (LastIndexByte_any _ _ (by rw [HZ.out]; omega) _).mono ?_
  rintro e w' ⟨rfl, rfl⟩
  rw [HX.out]
  go_wp2
  go_ret2
  have e3 := H3.out
  rw [HZ.out] at e3
  have e4 : min (min (max off 0) (s.size : Int)).toNat s.size = clampS s off := by unfold clampS; omega
  rw [← HC.out] at b1 ⊢
  exact ⟨ret_ii rfl (by rw [e4]; exact e3), rfl⟩

set_option maxHeartbeats 400000 in
theorem rPosition_any (s : ByteArray) (off : Int) (w : World) (hs : s.size ≤ 140737488351232) :
    Calls Tryd.prog 24 #[.string s, .int .i64 off] w fun e w' => e = .returned (.tuple #[.int .i64 (lineL (headS s off)), .int .i64 (colL (headS s off))]) ∧ w = w' := by
  have hc1 : clampS s off ≤ s.size := by unfold clampS; omega
  have hc2 : ∀ k : Nat, k < clampS s off → (k : Int) < off := by unfold clampS; omega
  have hc3 : ∀ k : Nat, k < s.size → ¬ k < clampS s off → off ≤ (k : Int) := by unfold clampS; omega
  have HH : Hid (headS s off = s.data.toList.take (clampS s off)) := Lib.hid rfl
  generalize hn : clampS s off = n at *
  generalize hx : headS s off = hd at *
  have HC2 := Lib.hid hc2; have HC3 := Lib.hid hc3
  clear hc2 hc3 hn hx
  go_enter Tryd.func24, Tryd.ntmps24
  go_wp2
  go_loop [6, 7, 8] (fun a b i => ∃ (k : Nat) (x y : Int), k ≤ n ∧ i = .int .i64 k ∧ a = .int .i64 x ∧ b = .int .i64 y ∧ 1 ≤ x ∧ x ≤ 1 + k ∧ 1 ≤ y ∧ y ≤ 1 + k ∧ Hid (x = lineL (s.data.toList.take k) ∧ y = colL (s.data.toList.take k))) (fun _ _ i => n - (intOf i).toNat)
  case atStart => exact ⟨0, 1, 1, Nat.zero_le _, rfl, rfl, rfl, by omega, by omega, by omega, by omega, Lib.hid ⟨rfl, rfl⟩⟩
  case round =>
    obtain ⟨k, x, y, hk, rfl, rfl, rfl, x1, x2, y1, y2, HA⟩ := hrel
    by_cases hlt : k < n
    · have hks : k < s.size := by omega
      have hko := HC2.out k hlt
      have HT : Hid (s.data.toList.take (k + 1) = s.data.toList.take k ++ [s[k]]) := Lib.hid (by rw [List.take_succ_eq_append_getElem (by simpa using hks)]; rfl)
      by_cases hb : s[k] = 10
      · have hb' : ((s[k].toNat : Int) == 10) = true := by rw [hb]; rfl
        have HB := Lib.hid hb; clear hb
        go_wp2
        go_round
        case rel => exact ⟨k + 1, x + 1, 1, by omega, by go_num, rfl, rfl, by omega, by omega, by omega, by omega, Lib.hid (by rw [HT.out, lineL_snoc, colL_snoc, if_pos HB.out, if_pos HB.out, ← HA.out.1]; exact ⟨rfl, rfl⟩)⟩
        case measure => simp [intOf]; omega
      · have hb' : ((s[k].toNat : Int) == 10) = false := by
          rw [beq_eq_false_iff_ne]; intro e; exact hb (UInt8.toNat_inj.1 (by have : ((10 : UInt8).toNat) = 10 := rfl; omega))
        have HB := Lib.hid hb; clear hb
        go_wp2
        go_round
        case rel => exact ⟨k + 1, x, y + 1, by omega, by go_num, rfl, rfl, by omega, by omega, by omega, by omega, Lib.hid (by rw [HT.out, lineL_snoc, colL_snoc, if_neg HB.out, if_neg HB.out, ← HA.out.1, ← HA.out.2]; exact ⟨rfl, rfl⟩)⟩
        case measure => simp [intOf]; omega
    · obtain rfl : k = n := by omega
      by_cases hks : k < s.size
      · have hko := HC3.out k hks (by omega)
        go_wp2
        go_ret2
        exact ⟨ret_ii (by rw [HH.out]; exact HA.out.1) (by rw [HH.out]; exact HA.out.2), rfl⟩
      · go_wp2
        go_ret2
        exact ⟨ret_ii (by rw [HH.out]; exact HA.out.1) (by rw [HH.out]; exact HA.out.2), rfl⟩
end Go.Proofs.YtmlfoffahfbalaaDoor
