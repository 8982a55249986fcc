/- Slices that a call makes itself: what is owned, and what an append to it leaves. Contract of package version's Format. -/
import Derived.Test.YtnjiibiafhnmgaaGreatDoorYB
import Derived.Maps.AppendAt
import Derived.Lib.Bytes
import Derived.Lib.Builder
import Derived.WalkSmall
import Derived.Lib.Join
import Derived.Lib.ItoaNum
namespace Go.Proofs.YtnjiibiafhnmgaaGreatDoor
open Go Go.RowKit

def Mine (e size B : Nat) (v : Value) (n : Nat) (xs : List Value) (w : World) : Prop := w.ownsRow B e size v n xs ∧ B ≤ w.heap.size
end Go.Proofs.YtnjiibiafhnmgaaGreatDoor

namespace Go.Proofs.YtnjiibiafhnmgaaGreatDoor
open Go Go.RowKit

def TabOk (w : World) : Prop := Lib.TabIs Tryz.prog w "internal/strconv.uint64pow10" .u64 Lib.pow10Tab
def decL (n : Int) : List UInt8 := Lib.decDigits n.toNat
def fmtL (a b c : Int) : List UInt8 := decL a ++ 46 :: (decL b ++ 46 :: decL c)
def formatV (a b c : Int) : List UInt8 × Int := if validB a b c = true then (fmtL a b c, 0) else ([], 2)
end Go.Proofs.YtnjiibiafhnmgaaGreatDoor

namespace Go.Proofs.YtnjiibiafhnmgaaGreatDoor
open Go Go.RowKit

theorem cells_new (w : World) (ss : List ByteArray) (t : TypeId) (i : Nat) (h : i < ss.length) :
    (w.alloc (.cells (ss.map Value.string).toArray t)).cell? ⟨w.heap.size, 0 + i, none⟩ = some (.string (ss.getD i ByteArray.empty)) := by
  rw [World.cell?_alloc_at _ _ _ _ rfl]
  simp [h]

end Go.Proofs.YtnjiibiafhnmgaaGreatDoor

namespace Go.Proofs.YtnjiibiafhnmgaaGreatDoor
open Go Go.RowKit

end Go.Proofs.YtnjiibiafhnmgaaGreatDoor

namespace Go.Proofs.YtnjiibiafhnmgaaGreatDoor
open Go Go.RowKit

theorem word_no (s : ByteArray) (h : allZ wordZ s = true) : ∀ b ∈ s.data.toList, b ≠ 32 := by
  intro b hb e
  have := List.all_eq_true.1 h b hb
  rw [e] at this
  exact absurd this (by decide)

set_option maxRecDepth 100000 in
set_option maxHeartbeats 400000 in
theorem keyword_any (s : ByteArray) (w : World) (hs : s.size ≤ 1000000) (hm : MaxOk w) (hw : Hid (allZ wordZ s = true)) :
    Calls Tryz.prog 223 #[.string s] w fun e w' => e = .returned (.bool (kwS s)) ∧ w = w' := by
  have HM := Lib.hid hm; clear hm
  go_enter Tryz.func223, Tryz.ntmps223
  go_wp2_with fail
  refine (Contains_any _ _ w (by decide) HM.out).mono ?_
  rintro e w' ⟨rfl, rfl⟩
  go_wp2
  go_ret
  refine ⟨ret_bool ?_, rfl⟩
  rw [kwS_eq, ← kw_contains s.data.toList (word_no s hw.out)]
  congr 1
set_option maxHeartbeats 400000 in
theorem IsName_any (s : ByteArray) (w : World) (hs : s.size ≤ maxLen) (hm : MaxOk w) :
    Calls Tryz.prog 208 #[.string s] w fun e w' => e = .returned (.bool (nameS s)) ∧ w = w' := by
  by_cases h1 : 1 ≤ s.size
  · have hh := headZ_eq s h1
    have he1 := ne_nil s h1
    have he2 := ne_empty s h1
    by_cases h2 : s.size ≤ 32
    · cases h3 : smallZ (s[0].toNat : Int)
      · have HT : Hid (nameS s = false) := Lib.hid (by rw [← hh] at h3; simp [nameS, h3])
        clear hh
        go_enter Tryz.func208, Tryz.ntmps208
        go_wp2_with (first | (go_at_call 211; refine (small_any _ _).mono ?_; rintro e w' ⟨rfl, rfl⟩))
        go_ret
        exact ⟨ret_bool HT.out.symm, rfl⟩
      · cases h4 : allZ wordZ s
        · have HT : Hid (nameS s = false) := Lib.hid (by simp [nameS, h4])
          clear hh
          go_enter Tryz.func208, Tryz.ntmps208
          go_wp2_with (first | (go_at_call 211; refine (small_any _ _).mono ?_; rintro e w' ⟨rfl, rfl⟩) | (go_at_call 209; refine (all_wordZ _ _ hs).mono ?_; rintro e w' ⟨rfl, rfl⟩))
          go_ret
          exact ⟨ret_bool HT.out.symm, rfl⟩
        · have HT : Hid (nameS s = !kwS s) := Lib.hid (by rw [← hh] at h3; simp [nameS, h3, h1, h2, h4])
          have H4 := Lib.hid h4
          have hs2 : s.size ≤ 1000000 := by omega
          clear hh
          go_enter Tryz.func208, Tryz.ntmps208
          go_wp2_with (first | (go_at_call 211; refine (small_any _ _).mono ?_; rintro e w' ⟨rfl, rfl⟩) | (go_at_call 209; refine (all_wordZ _ _ hs).mono ?_; rintro e w' ⟨rfl, rfl⟩) | (go_at_call 223; refine (keyword_any _ _ hs2 hm H4).mono ?_; rintro e w' ⟨rfl, rfl⟩))
          go_ret
          exact ⟨ret_bool HT.out.symm, rfl⟩
    · have HT : Hid (nameS s = false) := Lib.hid (by simp [nameS, h2])
      go_enter Tryz.func208, Tryz.ntmps208
      go_wp2
      go_ret
      exact ⟨ret_bool HT.out.symm, rfl⟩
  · have HT : Hid (nameS s = false) := Lib.hid (by simp [nameS, h1])
    have he1 : s.toList = [] := is_nil s h1
    go_enter Tryz.func208, Tryz.ntmps208
    go_wp2
    go_ret
    exact ⟨ret_bool HT.out.symm, rfl⟩

end Go.Proofs.YtnjiibiafhnmgaaGreatDoor

namespace Go.Proofs.YtnjiibiafhnmgaaGreatDoor
open Go

def valL (l : List UInt8) : Int := l.foldl (fun n b => 10 * n + ((b.toNat : Int) - 48)) 0
theorem valL_snoc (l : List UInt8) (b : UInt8) : valL (l ++ [b]) = 10 * valL l + ((b.toNat : Int) - 48) := by unfold valL; rw [List.foldl_append]; rfl
def tailS (s : ByteArray) : ByteArray := ⟨(s.data.toList.drop 1).toArray⟩
def okR (r : ByteArray) : Bool := decide (1 ≤ r.size) && (decide (r.size ≤ 3) && (!(decide (1 < r.size) && headZ r == 48) && allZ digitZ r))
def verOk (s : ByteArray) : Bool := headZ s == 118 && okR (tailS s)
def verN (s : ByteArray) : Int := if verOk s then valL (s.data.toList.drop 1) else 0
theorem tailS_data (s : ByteArray) : (tailS s).data.toList = s.data.toList.drop 1 := by simp [tailS]
theorem tailS_size (s : ByteArray) : (tailS s).size = s.size - 1 := by rw [Lib.size_eq, tailS_data, List.length_drop, ← Lib.size_eq]
theorem headZ_cons (s : ByteArray) (b : UInt8) (l : List UInt8) (h : s.data.toList = b :: l) : headZ s = b.toNat := by
  have hs : 0 < s.size := by rw [Lib.size_eq, h]; simp
  rw [headZ_eq s hs]
  have : s[0] = s.data.toList[0]'(by rw [← Lib.size_eq]; exact hs) := by simp; rfl
  rw [this]; simp only [h]; rfl
theorem headZ_nil (s : ByteArray) (h : s.size = 0) : headZ s = 0 := by unfold headZ; rw [dif_neg (by omega)]
theorem prefix_v (s : ByteArray) : Lib.hasPrefix s.data.toList [118] = (headZ s == 118) := by
  cases h : s.data.toList with
  | nil => rw [headZ_nil s (by rw [Lib.size_eq, h]; rfl)]; rfl
  | cons b l =>
    rw [headZ_cons s b l h]
    simp only [Lib.hasPrefix, List.isPrefixOf, Bool.and_true]
    rw [Bool.eq_iff_iff, beq_iff_eq, beq_iff_eq]
    constructor
    · intro e; rw [← e]; rfl
    · intro e; exact UInt8.toNat_inj.1 (by have : ((118 : UInt8).toNat) = 118 := rfl; omega)
theorem trim_v (s : ByteArray) (h : headZ s = 118) : (⟨(Lib.trimPrefix s.data.toList [118]).toArray⟩ : ByteArray) = tailS s := by
  have h2 : Lib.hasPrefix s.data.toList [118] = true := by rw [prefix_v, h]; rfl
  unfold Lib.trimPrefix tailS
  rw [if_pos h2]; rfl
end Go.Proofs.YtnjiibiafhnmgaaGreatDoor

namespace Go.Proofs.YtnjiibiafhnmgaaGreatDoor
open Go Go.RowKit

theorem valL_take (r : ByteArray) (k : Nat) (h : k < r.size) : valL (r.data.toList.take (k + 1)) = 10 * valL (r.data.toList.take k) + ((r[k].toNat : Int) - 48) := by
  rw [List.take_succ_eq_append_getElem (by simpa using h), valL_snoc]; rfl
theorem all_at (p : Int → Bool) (r : ByteArray) (h : allZ p r = true) (k : Nat) (hk : k < r.size) : p (r[k].toNat) = true :=
  List.all_eq_true.1 h _ (Array.mem_toList_iff.2 (Array.getElem_mem (xs := r.data) hk))

set_option maxHeartbeats 600000 in
theorem version_any (s : ByteArray) (w : World) (hs : s.size ≤ 140737488351232) :
    Calls Tryz.prog 207 #[.string s] w fun e w' => e = .returned (.tuple #[.int .i64 (verN s), .bool (verOk s)]) ∧ w = w' := by
  by_cases h1 : headZ s = 118
  case neg =>
    have hp : Lib.hasPrefix s.data.toList [118] = false := by rw [prefix_v]; simpa using h1
    have HT : Hid (verOk s = false) := Lib.hid (by simp [verOk, h1])
    clear h1
    go_enter Tryz.func207, Tryz.ntmps207
    go_wp2_with ((go_at_call 221; refine (CutPrefix_any _ _ _).mono ?_; rintro e w' ⟨rfl, rfl⟩))
    go_ret2
    exact ⟨ret_ib (by rw [verN, HT.out]; rfl) HT.out.symm, rfl⟩
  have hp : Lib.hasPrefix s.data.toList [118] = true := by rw [prefix_v, h1]; rfl
  have HO : Hid (verOk s = okR (tailS s)) := Lib.hid (by simp [verOk, h1])
  have HTR := Lib.hid (trim_v s h1)
  have hrs : (tailS s).size ≤ 140737488351232 := by rw [tailS_size]; omega
  have HV : Hid (verN s = if okR (tailS s) then valL (tailS s).data.toList else 0) := Lib.hid (by rw [verN, HO.out, tailS_data])
  generalize tailS s = r at *
  clear h1
  by_cases h2 : 1 ≤ r.size
  case neg =>
    have he := is_nil r h2
    have HT : Hid (okR r = false) := Lib.hid (by simp [okR, h2])
    clear h2
    go_enter Tryz.func207, Tryz.ntmps207
    go_wp2_with fail
    refine (CutPrefix_any _ _ _).mono ?_
    rintro e w' ⟨rfl, rfl⟩
    rw [HTR.out]
    go_wp2
    go_ret2
    exact ⟨ret_ib (by rw [HV.out, HT.out]; rfl) (by rw [HO.out, HT.out]), rfl⟩
  have he1 := ne_nil r h2
  have he2 := ne_empty r h2
  by_cases h3 : r.size ≤ 3
  case neg =>
    have HT : Hid (okR r = false) := Lib.hid (by simp [okR, h3])
    go_enter Tryz.func207, Tryz.ntmps207
    go_wp2_with fail
    refine (CutPrefix_any _ _ _).mono ?_
    rintro e w' ⟨rfl, rfl⟩
    rw [HTR.out]
    go_wp2
    go_ret2
    exact ⟨ret_ib (by rw [HV.out, HT.out]; rfl) (by rw [HO.out, HT.out]), rfl⟩
  by_cases h4 : 1 < r.size ∧ (r[0].toNat : Int) = 48
  case pos =>
    obtain ⟨h4, h5⟩ := h4
    have HT : Hid (okR r = false) := Lib.hid (by rw [← headZ_eq r h2] at h5; simp [okR, h4, h5])
    have h6 : ((r[0].toNat : Int) == 48) = true := by rw [h5]; rfl
    clear h5
    go_enter Tryz.func207, Tryz.ntmps207
    go_wp2_with fail
    refine (CutPrefix_any _ _ _).mono ?_
    rintro e w' ⟨rfl, rfl⟩
    rw [HTR.out]
    go_wp2
    go_ret2
    exact ⟨ret_ib (by rw [HV.out, HT.out]; rfl) (by rw [HO.out, HT.out]), rfl⟩
  have HT : Hid (okR r = allZ digitZ r) := Lib.hid (by
    rw [← headZ_eq r h2] at h4
    have : (!(decide (1 < r.size) && headZ r == 48)) = true := by
      rw [Bool.not_eq_true', Bool.and_eq_false_iff]
      by_cases h : 1 < r.size
      · exact .inr (by simpa using fun e => h4 ⟨h, e⟩)
      · exact .inl (by simpa using h)
    rw [okR, decide_eq_true h2, decide_eq_true h3, this]; rfl)
  have hml : r.size ≤ maxLen := by unfold maxLen; omega
  cases h7 : allZ digitZ r
  case false =>
    by_cases h8 : 1 < r.size
    · have h6 : ((r[0].toNat : Int) == 48) = false := by rw [beq_eq_false_iff_ne]; exact fun e => h4 ⟨h8, e⟩
      have H7 := Lib.hid h7
      clear h4
      go_enter Tryz.func207, Tryz.ntmps207
      go_wp2_with fail
      refine (CutPrefix_any _ _ _).mono ?_
      rintro e w' ⟨rfl, rfl⟩
      rw [HTR.out]
      go_wp2_with ((go_at_call 209; refine (all_digitZ _ _ hml).mono ?_; rintro e w' ⟨rfl, rfl⟩))
      go_ret2
      exact ⟨ret_ib (by rw [HV.out, HT.out, H7.out]; rfl) (by rw [HO.out, HT.out, H7.out]), rfl⟩
    · have H7 := Lib.hid h7
      clear h4
      go_enter Tryz.func207, Tryz.ntmps207
      go_wp2_with fail
      refine (CutPrefix_any _ _ _).mono ?_
      rintro e w' ⟨rfl, rfl⟩
      rw [HTR.out]
      go_wp2_with ((go_at_call 209; refine (all_digitZ _ _ hml).mono ?_; rintro e w' ⟨rfl, rfl⟩))
      go_ret2
      exact ⟨ret_ib (by rw [HV.out, HT.out, H7.out]; rfl) (by rw [HO.out, HT.out, H7.out]), rfl⟩
  case true =>
    have H7 := Lib.hid h7
    have hfin : ∀ w' : World, w = w' → (Ending.returned (.tuple #[.int .i64 (valL r.data.toList), .bool true]) = Ending.returned (.tuple #[.int .i64 (verN s), .bool (verOk s)])) ∧ w = w' := fun w' hw => ⟨ret_ib (by rw [HV.out, HT.out, H7.out]; rfl) (by rw [HO.out, HT.out, H7.out]), hw⟩
    have HF := Lib.hid hfin
    clear hfin
    have h6 : 1 < r.size → ¬ (r[0].toNat : Int) = 48 := fun a b => h4 ⟨a, b⟩
    have H6 := Lib.hid h6
    clear h4 h6
    by_cases h8 : 1 < r.size
    all_goals
      first
      | have h6 : ((r[0].toNat : Int) == 48) = false := by rw [beq_eq_false_iff_ne]; exact H6.out h8
      | skip
      go_enter Tryz.func207, Tryz.ntmps207
      go_wp2_with fail
      refine (CutPrefix_any _ _ _).mono ?_
      rintro e w' ⟨rfl, rfl⟩
      rw [HTR.out]
      go_wp2_with ((go_at_call 209; refine (all_digitZ _ _ hml).mono ?_; rintro e w' ⟨rfl, rfl⟩))
      go_loop [5, 40] (fun n i => ∃ (k : Nat) (x : Int), k ≤ r.size ∧ i = .int .i64 k ∧ n = .int .i64 x ∧ 0 ≤ x ∧ x < 10 ^ k ∧ Hid (x = valL (r.data.toList.take k))) (fun _ i => r.size - (intOf i).toNat)
      case atStart => exact ⟨0, 0, Nat.zero_le _, rfl, rfl, by omega, by simp, Lib.hid rfl⟩
      case round =>
        obtain ⟨k, x, hk, rfl, rfl, x0, x1, HA⟩ := hrel
        by_cases hlt : k < r.size
        · have hd := all_at _ r H7.out k hlt
          simp only [digitZ, Bool.and_eq_true, decide_eq_true_eq] at hd
          obtain ⟨hd1, hd2⟩ := hd
          have x2 : x < 100 := by
            have : k = 0 ∨ k = 1 ∨ k = 2 := by omega
            rcases this with rfl | rfl | rfl <;> simp at x1 <;> omega
          have HX := Lib.hid x1
          clear x1
          go_wp2
          go_round
          case rel => exact ⟨k + 1, 10 * x + ((r[k].toNat : Int) - 48), by omega, by go_num, rfl, by omega, by have := HX.out; rw [Int.pow_succ]; omega, Lib.hid (by rw [valL_take r k hlt, ← HA.out])⟩
          case measure => simp [intOf]; omega
        · obtain rfl : k = r.size := by omega
          clear x1
          go_wp2
          go_ret2
          have := HF.out w rfl
          rw [← show x = valL r.data.toList from by rw [HA.out, List.take_of_length_le (by simp)]] at this
          exact this
end Go.Proofs.YtnjiibiafhnmgaaGreatDoor

namespace Go.Proofs.YtnjiibiafhnmgaaGreatDoor
open Go Go.RowKit

def majZ (s : ByteArray) : Int := if verOk s then verN s else -1
end Go.Proofs.YtnjiibiafhnmgaaGreatDoor
