/- Plain facts on the major version of a segment. Contracts of the major version of a segment: version, major. Contract of the reference's major version of a segment. Plain facts on the segments of a path. Contracts of the lexer's Major and IsPath. Contracts of package version's Line and Path. Requirements, releases, indices, plain: the first error of an index. -/
import Derived.Test.YtenfkejbndifdaaGreatDoorWB
import Derived.Lib.SplitLaws
import Derived.Test.YtenfkejbndifdaaGreatDoorWA
namespace Go.Proofs.YtenfkejbndifdaaGreatDoor
open Go

def valL (l : List UInt8) : Int := l.foldl (fun n b => 10 * n + ((b.toNat : Int) - 48)) 0
theorem valL_snoc (l : List UInt8) (b : UInt8) : valL (l ++ [b]) = 10 * valL l + ((b.toNat : Int) - 48) := by unfold valL; rw [List.foldl_append]; rfl
theorem valL_lt (l : List UInt8) (h : ∀ b ∈ l, digitZ b.toNat = true) : 0 ≤ valL l ∧ valL l < 10 ^ l.length := by
  rcases List.eq_nil_or_concat l with rfl | ⟨m, b, rfl⟩
  · simp [valL]
  · rw [List.concat_eq_append] at *
    have ih := valL_lt m (fun x hx => h x (by simp [hx]))
    have hb := h b (by simp)
    simp only [digitZ, Bool.and_eq_true, decide_eq_true_eq] at hb
    rw [valL_snoc, List.length_append, List.length_singleton, Int.pow_succ]
    omega
termination_by l.length
decreasing_by subst_vars; simp

def tailS (s : ByteArray) : ByteArray := ⟨(s.data.toList.drop 1).toArray⟩
def okR (r : ByteArray) : Bool := decide (1 ≤ r.size) && (decide (r.size ≤ 3) && (!(decide (1 < r.size) && headZ r == 48) && allZ digitZ r))
def verOk (s : ByteArray) : Bool := headZ s == 118 && okR (tailS s)
def verN (s : ByteArray) : Int := if verOk s then valL (s.data.toList.drop 1) else 0
theorem tailS_data (s : ByteArray) : (tailS s).data.toList = s.data.toList.drop 1 := by simp [tailS]
theorem tailS_size (s : ByteArray) : (tailS s).size = s.size - 1 := by rw [Lib.size_eq, tailS_data, List.length_drop, ← Lib.size_eq]
theorem headZ_cons (s : ByteArray) (b : UInt8) (l : List UInt8) (h : s.data.toList = b :: l) : headZ s = b.toNat := by
  have hs : 0 < s.size := by rw [Lib.size_eq, h]; simp
  rw [headZ_eq s hs]
  have : s[0] = s.data.toList[0]'(by rw [← Lib.size_eq]; exact hs) := by simp; rfl
  rw [this]; simp only [h]; rfl
theorem headZ_nil (s : ByteArray) (h : s.size = 0) : headZ s = 0 := by unfold headZ; rw [dif_neg (by omega)]
theorem prefix_v (s : ByteArray) : Lib.hasPrefix s.data.toList [118] = (headZ s == 118) := by
  cases h : s.data.toList with
  | nil => rw [headZ_nil s (by rw [Lib.size_eq, h]; rfl)]; rfl
  | cons b l =>
    rw [headZ_cons s b l h]
    simp only [Lib.hasPrefix, List.isPrefixOf, Bool.and_true]
    rw [Bool.eq_iff_iff, beq_iff_eq, beq_iff_eq]
    constructor
    · intro e; rw [← e]; rfl
    · intro e; exact UInt8.toNat_inj.1 (by have : ((118 : UInt8).toNat) = 118 := rfl; omega)
theorem trim_v (s : ByteArray) (h : headZ s = 118) : (⟨(Lib.trimPrefix s.data.toList [118]).toArray⟩ : ByteArray) = tailS s := by
  have h2 : Lib.hasPrefix s.data.toList [118] = true := by rw [prefix_v, h]; rfl
  unfold Lib.trimPrefix tailS
  rw [if_pos h2]; rfl
end Go.Proofs.YtenfkejbndifdaaGreatDoor

namespace Go.Proofs.YtenfkejbndifdaaGreatDoor
open Go Go.RowKit

theorem valL_take (r : ByteArray) (k : Nat) (h : k < r.size) : valL (r.data.toList.take (k + 1)) = 10 * valL (r.data.toList.take k) + ((r[k].toNat : Int) - 48) := by
  rw [List.take_succ_eq_append_getElem (by simpa using h), valL_snoc]; rfl
theorem all_at (p : Int → Bool) (r : ByteArray) (h : allZ p r = true) (k : Nat) (hk : k < r.size) : p (r[k].toNat) = true :=
  List.all_eq_true.1 h _ (Array.mem_toList_iff.2 (Array.getElem_mem (xs := r.data) hk))

set_option maxHeartbeats 600000 in
theorem version_any (s : ByteArray) (w : World) (hs : s.size ≤ 140737488351232) :
    Calls Tryz.prog 204 #[.string s] w fun e w' => e = .returned (.tuple #[.int .i64 (verN s), .bool (verOk s)]) ∧ w = w' := by
  by_cases h1 : headZ s = 118
  case neg =>
    have hp : Lib.hasPrefix s.data.toList [118] = false := by rw [prefix_v]; simpa using h1
    have HT : Hid (verOk s = false) := Lib.hid (by simp [verOk, h1])
    clear h1
    go_enter Tryz.func204, Tryz.ntmps204
    go_wp2_with ((go_at_call 221; refine (CutPrefix_any _ _ _).mono ?_; rintro e w' ⟨rfl, rfl⟩))
    go_ret2
    exact ⟨ret_ib (by rw [verN, HT.out]; rfl) HT.out.symm, rfl⟩
  have hp : Lib.hasPrefix s.data.toList [118] = true := by rw [prefix_v, h1]; rfl
  have HO : Hid (verOk s = okR (tailS s)) := Lib.hid (by simp [verOk, h1])
  have HTR := Lib.hid (trim_v s h1)
  have hrs : (tailS s).size ≤ 140737488351232 := by rw [tailS_size]; omega
  have HV : Hid (verN s = if okR (tailS s) then valL (tailS s).data.toList else 0) := Lib.hid (by rw [verN, HO.out, tailS_data])
  generalize tailS s = r at *
  clear h1
  by_cases h2 : 1 ≤ r.size
  case neg =>
    have he := is_nil r h2
    have HT : Hid (okR r = false) := Lib.hid (by simp [okR, h2])
    clear h2
    go_enter Tryz.func204, Tryz.ntmps204
    go_wp2_with fail
    refine (CutPrefix_any _ _ _).mono ?_
    rintro e w' ⟨rfl, rfl⟩
    rw [HTR.out]
    go_wp2
    go_ret2
    exact ⟨ret_ib (by rw [HV.out, HT.out]; rfl) (by rw [HO.out, HT.out]), rfl⟩
  have he1 := ne_nil r h2
  have he2 := ne_empty r h2
  by_cases h3 : r.size ≤ 3
  case neg =>
    have HT : Hid (okR r = false) := Lib.hid (by simp [okR, h3])
    go_enter Tryz.func204, Tryz.ntmps204
    go_wp2_with fail
    refine (CutPrefix_any _ _ _).mono ?_
    rintro e w' ⟨rfl, rfl⟩
    rw [HTR.out]
    go_wp2
    go_ret2
    exact ⟨ret_ib (by rw [HV.out, HT.out]; rfl) (by rw [HO.out, HT.out]), rfl⟩
  by_cases h4 : 1 < r.size ∧ (r[0].toNat : Int) = 48
  case pos =>
    obtain ⟨h4, h5⟩ := h4
    have HT : Hid (okR r = false) := Lib.hid (by rw [← headZ_eq r h2] at h5; simp [okR, h4, h5])
    have h6 : ((r[0].toNat : Int) == 48) = true := by rw [h5]; rfl
    clear h5
    go_enter Tryz.func204, Tryz.ntmps204
    go_wp2_with fail
    refine (CutPrefix_any _ _ _).mono ?_
    rintro e w' ⟨rfl, rfl⟩
    rw [HTR.out]
    go_wp2
    go_ret2
    exact ⟨ret_ib (by rw [HV.out, HT.out]; rfl) (by rw [HO.out, HT.out]), rfl⟩
  have HT : Hid (okR r = allZ digitZ r) := Lib.hid (by
    rw [← headZ_eq r h2] at h4
    have : (!(decide (1 < r.size) && headZ r == 48)) = true := by
      rw [Bool.not_eq_true', Bool.and_eq_false_iff]
      by_cases h : 1 < r.size
      · exact .inr (by simpa using fun e => h4 ⟨h, e⟩)
      · exact .inl (by simpa using h)
    rw [okR, decide_eq_true h2, decide_eq_true h3, this]; rfl)
  have hml : r.size ≤ maxLen := by unfold maxLen; omega
  cases h7 : allZ digitZ r
  case false =>
    by_cases h8 : 1 < r.size
    · have h6 : ((r[0].toNat : Int) == 48) = false := by rw [beq_eq_false_iff_ne]; exact fun e => h4 ⟨h8, e⟩
      have H7 := Lib.hid h7
      clear h4
      go_enter Tryz.func204, Tryz.ntmps204
      go_wp2_with fail
      refine (CutPrefix_any _ _ _).mono ?_
      rintro e w' ⟨rfl, rfl⟩
      rw [HTR.out]
      go_wp2_with ((go_at_call 206; refine (all_digitZ _ _ hml).mono ?_; rintro e w' ⟨rfl, rfl⟩))
      go_ret2
      exact ⟨ret_ib (by rw [HV.out, HT.out, H7.out]; rfl) (by rw [HO.out, HT.out, H7.out]), rfl⟩
    · have H7 := Lib.hid h7
      clear h4
      go_enter Tryz.func204, Tryz.ntmps204
      go_wp2_with fail
      refine (CutPrefix_any _ _ _).mono ?_
      rintro e w' ⟨rfl, rfl⟩
      rw [HTR.out]
      go_wp2_with ((go_at_call 206; refine (all_digitZ _ _ hml).mono ?_; rintro e w' ⟨rfl, rfl⟩))
      go_ret2
      exact ⟨ret_ib (by rw [HV.out, HT.out, H7.out]; rfl) (by rw [HO.out, HT.out, H7.out]), rfl⟩
  case true =>
    have H7 := Lib.hid h7
    have hfin : ∀ w' : World, w = w' → (Ending.returned (.tuple #[.int .i64 (valL r.data.toList), .bool true]) = Ending.returned (.tuple #[.int .i64 (verN s), .bool (verOk s)])) ∧ w = w' := fun w' hw => ⟨ret_ib (by rw [HV.out, HT.out, H7.out]; rfl) (by rw [HO.out, HT.out, H7.out]), hw⟩
    have HF := Lib.hid hfin
    clear hfin
    have h6 : 1 < r.size → ¬ (r[0].toNat : Int) = 48 := fun a b => h4 ⟨a, b⟩
    have H6 := Lib.hid h6
    clear h4 h6
    by_cases h8 : 1 < r.size
    all_goals
      first
      | have h6 : ((r[0].toNat : Int) == 48) = false := by rw [beq_eq_false_iff_ne]; exact H6.out h8
      | skip
      go_enter Tryz.func204, Tryz.ntmps204
      go_wp2_with fail
      refine (CutPrefix_any _ _ _).mono ?_
      rintro e w' ⟨rfl, rfl⟩
      rw [HTR.out]
      go_wp2_with ((go_at_call 206; refine (all_digitZ _ _ hml).mono ?_; rintro e w' ⟨rfl, rfl⟩))
      go_loop [5, 40] (fun n i => ∃ (k : Nat) (x : Int), k ≤ r.size ∧ i = .int .i64 k ∧ n = .int .i64 x ∧ 0 ≤ x ∧ x < 10 ^ k ∧ Hid (x = valL (r.data.toList.take k))) (fun _ i => r.size - (intOf i).toNat)
      case atStart => exact ⟨0, 0, Nat.zero_le _, rfl, rfl, by omega, by simp, Lib.hid rfl⟩
      case round =>
        obtain ⟨k, x, hk, rfl, rfl, x0, x1, HA⟩ := hrel
        by_cases hlt : k < r.size
        · have hd := all_at _ r H7.out k hlt
          simp only [digitZ, Bool.and_eq_true, decide_eq_true_eq] at hd
          obtain ⟨hd1, hd2⟩ := hd
          have x2 : x < 100 := by
            have : k = 0 ∨ k = 1 ∨ k = 2 := by omega
            rcases this with rfl | rfl | rfl <;> simp at x1 <;> omega
          have HX := Lib.hid x1
          clear x1
          go_wp2
          go_round
          case rel => exact ⟨k + 1, 10 * x + ((r[k].toNat : Int) - 48), by omega, by go_num, rfl, by omega, by have := HX.out; rw [Int.pow_succ]; omega, Lib.hid (by rw [valL_take r k hlt, ← HA.out])⟩
          case measure => simp [intOf]; omega
        · obtain rfl : k = r.size := by omega
          clear x1
          go_wp2
          go_ret2
          have := HF.out w rfl
          rw [← show x = valL r.data.toList from by rw [HA.out, List.take_of_length_le (by simp)]] at this
          exact this
end Go.Proofs.YtenfkejbndifdaaGreatDoor

namespace Go.Proofs.YtenfkejbndifdaaGreatDoor
open Go Go.RowKit

def majZ (s : ByteArray) : Int := if verOk s then verN s else -1
theorem majZ_no {s : ByteArray} (h : verOk s = false) : majZ s = -1 := by unfold majZ; rw [h]; rfl

theorem tail_step (s : ByteArray) (k : Nat) (h1 : 1 ≤ k) (h : k < s.size) : (s.data.toList.drop 1).take (k + 1 - 1) = (s.data.toList.drop 1).take (k - 1) ++ [s[k]] := by
  have e : k + 1 - 1 = (k - 1) + 1 := by omega
  rw [e, List.take_succ_eq_append_getElem (by simp; omega), List.getElem_drop]
  congr 2
  have : 1 + (k - 1) = k := by omega
  simp only [this]; rfl
theorem tail_get (s : ByteArray) (h : 1 < s.size) : headZ (tailS s) = (s[1].toNat : Int) := by
  have hl : (tailS s).data.toList = s[1] :: (s.data.toList.drop 2) := by
    rw [tailS_data]
    have := List.drop_eq_getElem_cons (l := s.data.toList) (i := 1) (by rw [← Lib.size_eq]; exact h)
    rw [this]; rfl
  rw [headZ_cons _ _ _ hl]

set_option maxHeartbeats 600000 in
theorem rmajor_any (s : ByteArray) (w : World) (hs : s.size ≤ 140737488351232) :
    Calls Tryz.prog 214 #[.string s] w fun e w' => e = .returned (.int .i64 (majZ s)) ∧ w = w' := by
  have ht := tailS_size s
  by_cases h1 : 2 ≤ s.size
  case neg =>
    have HT : Hid (majZ s = -1) := Lib.hid (majZ_no (by simp [verOk, okR]; intro _ h; omega))
    go_enter Tryz.func214, Tryz.ntmps214
    go_wp2
    go_ret
    exact ⟨ret_int HT.out.symm, rfl⟩
  by_cases h2 : s.size ≤ 4
  case neg =>
    have HT : Hid (majZ s = -1) := Lib.hid (majZ_no (by simp [verOk, okR]; intro _ _ h; omega))
    go_enter Tryz.func214, Tryz.ntmps214
    go_wp2
    go_ret
    exact ⟨ret_int HT.out.symm, rfl⟩
  have hh := headZ_eq s (by omega)
  have hg := tail_get s (by omega)
  cases h3 : ((s[0].toNat : Int) == 118)
  case false =>
    have HT : Hid (majZ s = -1) := Lib.hid (majZ_no (by rw [verOk, hh, h3]; rfl))
    have h3' : ((s[0].toNat : Int) != 118) = true := by rw [bne, h3]; rfl
    clear hh hg h3 ht
    go_enter Tryz.func214, Tryz.ntmps214
    go_wp2
    go_ret
    exact ⟨ret_int HT.out.symm, rfl⟩
  have h3' : ((s[0].toNat : Int) != 118) = false := by rw [bne, h3]; rfl
  by_cases h4 : (s[1].toNat : Int) = 48 ∧ 2 < s.size
  case pos =>
    obtain ⟨h4, h5⟩ := h4
    have HT : Hid (majZ s = -1) := Lib.hid (majZ_no (by
      rw [verOk, okR, hg, h4]
      have : decide (1 < (tailS s).size) = true := by rw [ht]; simp; omega
      rw [this]; simp))
    have h4' : ((s[1].toNat : Int) == 48) = true := by rw [h4]; rfl
    clear hh hg h3 ht h4
    go_enter Tryz.func214, Tryz.ntmps214
    go_wp2
    go_ret
    exact ⟨ret_int HT.out.symm, rfl⟩
  have HO : Hid (verOk s = allZ digitZ (tailS s)) := Lib.hid (by
    have e : (!(decide (1 < (tailS s).size) && headZ (tailS s) == 48)) = true := by
      rw [Bool.not_eq_true', Bool.and_eq_false_iff, ht, hg]
      by_cases h : (s[1].toNat : Int) = 48
      · exact .inl (by simp; have : ¬ 2 < s.size := fun x => h4 ⟨h, x⟩; omega)
      · exact .inr (by simpa using h)
    rw [verOk, okR, hh, h3, e, decide_eq_true (show 1 ≤ (tailS s).size by omega), decide_eq_true (show (tailS s).size ≤ 3 by omega)]; rfl)
  have HG := Lib.hid h4
  have HH3 := Lib.hid h3
  clear h4 hh hg ht h3
  cases h5 : ((s[1].toNat : Int) == 48)
  all_goals
    first
    | (have h6 : s.size ≤ 2 := by
        have := HG.out
        rw [beq_iff_eq] at h5
        by_cases h : 2 < s.size
        · exact absurd ⟨h5, h⟩ this
        · omega)
    | skip
    go_enter Tryz.func214, Tryz.ntmps214
    go_wp2
    go_loop [3, 4] (fun n i => ∃ (k : Nat) (x : Int), 1 ≤ k ∧ k ≤ s.size ∧ i = .int .i64 k ∧ n = .int .i64 x ∧ 0 ≤ x ∧ x < 10 ^ (k - 1) ∧ Hid (x = valL ((s.data.toList.drop 1).take (k - 1)) ∧ ((s.data.toList.drop 1).take (k - 1)).all (fun b => digitZ b.toNat) = true)) (fun _ i => s.size - (intOf i).toNat)
    case atStart => exact ⟨1, 0, by omega, by omega, rfl, rfl, by omega, by simp, Lib.hid ⟨rfl, rfl⟩⟩
    case round =>
      obtain ⟨k, x, hk1, hk, rfl, rfl, x0, x1, HA⟩ := hrel
      by_cases hlt : k < s.size
      · have HS := Lib.hid (tail_step s k hk1 hlt)
        have x2 : x < 1000 := by
          have : k = 1 ∨ k = 2 ∨ k = 3 := by omega
          rcases this with rfl | rfl | rfl <;> simp at x1 <;> omega
        have HX := Lib.hid x1
        clear x1
        cases hd : digitZ (s[k].toNat : Int)
        · have HN : Hid (majZ s = -1) := Lib.hid (majZ_no (by
            rw [HO.out, allZ, tailS_data, List.all_eq_false]
            refine ⟨s[k], ?_, by rw [hd]; exact Bool.false_ne_true⟩
            have : s[k] ∈ (s.data.toList.drop 1).take (k + 1 - 1) := by rw [HS.out]; simp
            exact List.mem_of_mem_take this))
          clear h5
          go_wp2_with ((go_at_call 226; refine (rdigit_any _ _).mono ?_; rintro e w' ⟨rfl, rfl⟩))
          go_ret
          exact ⟨ret_int HN.out.symm, rfl⟩
        · have HD := Lib.hid hd
          have hd' := hd
          simp only [digitZ, Bool.and_eq_true, decide_eq_true_eq] at hd'
          obtain ⟨hd1, hd2⟩ := hd'
          clear h5
          go_wp2_with ((go_at_call 226; refine (rdigit_any _ _).mono ?_; rintro e w' ⟨rfl, rfl⟩))
          go_round
          case rel => exact ⟨k + 1, 10 * x + ((s[k].toNat : Int) - 48), by omega, by omega, by go_num, rfl, by omega, by have := HX.out; rw [show k + 1 - 1 = (k - 1) + 1 from by omega, Int.pow_succ]; omega, Lib.hid ⟨by rw [HS.out, valL_snoc, ← HA.out.1], by rw [HS.out, List.all_append, HA.out.2]; simp [HD.out]⟩⟩
          case measure => simp [intOf]; omega
      · obtain rfl : k = s.size := by omega
        clear x1 h5
        go_wp2
        go_ret
        have e : (s.data.toList.drop 1).take (s.size - 1) = s.data.toList.drop 1 := List.take_of_length_le (by simp)
        have ho : verOk s = true := by rw [HO.out, allZ, tailS_data, ← e]; exact HA.out.2
        exact ⟨ret_int (by rw [majZ, verN, ho, HA.out.1, e]; rfl), rfl⟩
end Go.Proofs.YtenfkejbndifdaaGreatDoor

namespace Go.Proofs.YtenfkejbndifdaaGreatDoor
open Go

def segsL : List UInt8 → List (List UInt8)
  | [] => [[]]
  | c :: r => if c = 47 then [] :: segsL r else match segsL r with
    | [] => [[c]]
    | h :: t => (c :: h) :: t
theorem segsL_ne (l : List UInt8) : segsL l ≠ [] := by
  cases l with
  | nil => simp [segsL]
  | cons c r =>
    unfold segsL
    split
    · simp
    · split <;> simp
theorem segsL_slash (r : List UInt8) : segsL (47 :: r) = [] :: segsL r := by rw [segsL, if_pos rfl]
theorem segsL_other (c : UInt8) (r h : List UInt8) (t : List (List UInt8)) (hc : c ≠ 47) (e : segsL r = h :: t) : segsL (c :: r) = (c :: h) :: t := by rw [segsL, if_neg hc, e]
theorem segsL_one (a : List UInt8) (h : ∀ b ∈ a, b ≠ 47) : segsL a = [a] := by
  induction a with
  | nil => rfl
  | cons c a ih => exact segsL_other c a a [] (h c (by simp)) (ih (fun b hb => h b (by simp [hb])))
theorem segsL_cut (a r : List UInt8) (h : ∀ b ∈ a, b ≠ 47) : segsL (a ++ 47 :: r) = a :: segsL r := by
  induction a with
  | nil => exact segsL_slash r
  | cons c a ih => exact segsL_other c _ a _ (h c (by simp)) (ih (fun b hb => h b (by simp [hb])))
theorem segsL_snoc_slash (l : List UInt8) : segsL (l ++ [47]) = segsL l ++ [[]] := by
  induction l with
  | nil => rfl
  | cons c r ih =>
    by_cases hc : c = 47
    · subst hc; rw [List.cons_append, segsL_slash, segsL_slash, ih]; rfl
    · cases e : segsL r with
      | nil => exact absurd e (segsL_ne r)
      | cons h t => rw [List.cons_append, segsL_other c _ h (t ++ [[]]) hc (by rw [ih, e]; rfl), segsL_other c r h t hc e]; rfl
theorem segsL_snoc_other (l : List UInt8) (c : UInt8) (hc : c ≠ 47) : segsL (l ++ [c]) = (segsL l).dropLast ++ [(segsL l).getLast (segsL_ne l) ++ [c]] := by
  induction l with
  | nil => simp [segsL, hc]
  | cons d r ih =>
    by_cases hd : d = 47
    · subst hd
      simp only [List.cons_append, segsL_slash, ih]
      rw [List.dropLast_cons_of_ne_nil (segsL_ne r)]
      simp [List.getLast_cons (segsL_ne r)]
    · cases e : segsL r with
      | nil => exact absurd e (segsL_ne r)
      | cons h t =>
        have e2 := segsL_other d r h t hd e
        cases t with
        | nil =>
          have : segsL (r ++ [c]) = [h ++ [c]] := by rw [ih]; simp [e]
          rw [List.cons_append, segsL_other d _ _ _ hd this]
          simp [e2]
        | cons x t =>
          have : segsL (r ++ [c]) = h :: ((x :: t).dropLast ++ [(x :: t).getLast (by simp) ++ [c]]) := by
            rw [ih]; simp only [e, List.dropLast_cons_cons, List.cons_append, List.getLast_cons_cons]
          rw [List.cons_append, segsL_other d _ _ _ hd this]
          simp only [e2, List.dropLast_cons_cons, List.cons_append, List.getLast_cons_cons]

theorem piece (l : List UInt8) (i : Nat) (h : Lib.indexByte l 47 = i) : l = l.take i ++ 47 :: l.drop (i + 1) ∧ ∀ b ∈ l.take i, b ≠ 47 := by
  obtain ⟨h1, h2⟩ := Lib.indexByte_some h
  have hi : i < l.length := by
    rcases Nat.lt_or_ge i l.length with h | h
    · exact h
    · rw [List.getElem?_eq_none h] at h1; exact absurd h1 (by simp)
  have e : l[i] = 47 := by rw [List.getElem?_eq_getElem hi] at h1; exact Option.some.inj h1
  refine ⟨by rw [← e, List.getElem_cons_drop, List.take_append_drop], fun b hb => ?_⟩
  obtain ⟨j, hj, rfl⟩ := List.getElem_of_mem hb
  rw [List.getElem_take]
  rw [List.length_take] at hj
  intro e2
  exact h2 j (by omega) (by rw [List.getElem?_eq_getElem (by omega), e2])
theorem no_piece (l : List UInt8) (h : Lib.indexByte l 47 = -1) : ∀ b ∈ l, b ≠ 47 := by
  intro b hb e
  obtain ⟨j, hj, rfl⟩ := List.getElem_of_mem hb
  exact Lib.indexByte_none h j (by rw [List.getElem?_eq_getElem hj, e])

theorem split_segs : ∀ (k : Nat) (l : List UInt8), l.count 47 = k → Lib.splitK [47] 0 k l = segsL l := by
  intro k
  induction k with
  | zero =>
    intro l h
    rw [segsL_one l (fun b hb e => by subst e; have := List.count_pos_iff.2 hb; omega)]
    rfl
  | succ k ih =>
    intro l h
    rw [Lib.splitK, Lib.index_one]
    by_cases hm : Lib.indexByte l 47 = -1
    · have := no_piece l hm
      have h0 : l.count 47 = 0 := List.count_eq_zero.2 (fun hb => this 47 hb rfl)
      omega
    · have hge := Lib.index_ge l [47]
      rw [Lib.index_one] at hge
      obtain ⟨i, hi⟩ : ∃ i : Nat, Lib.indexByte l 47 = i := ⟨(Lib.indexByte l 47).toNat, by omega⟩
      obtain ⟨e, hn⟩ := piece l i hi
      have hc : (l.drop (i + 1)).count 47 = k := by
        have h0 : (l.take i).count 47 = 0 := List.count_eq_zero.2 (fun hb => hn 47 hb rfl)
        rw [e, List.count_append, List.count_cons_self, h0] at h
        omega
      rw [if_neg (by simpa using hm), hi]
      have e1 : ((i : Int).toNat + 0) = i := by simp
      have e2 : ((i : Int).toNat + ([47] : List UInt8).length) = i + 1 := by simp
      rw [e1, e2, ih _ hc]
      conv => rhs; rw [e]
      rw [segsL_cut _ _ hn]

def segB (s : ByteArray) : List ByteArray := (segsL s.data.toList).map fun l => ⟨l.toArray⟩
theorem ba_ext {a b : ByteArray} (h : a.data.toList = b.data.toList) : a = b := by
  rw [← Lib.mk_data a, ← Lib.mk_data b, h]
theorem map_data_inj : ∀ {a b : List ByteArray}, a.map (·.data.toList) = b.map (·.data.toList) → a = b
  | [], [], _ => rfl
  | [], _ :: _, h => by simp at h
  | _ :: _, [], h => by simp at h
  | x :: a, y :: b, h => by
    rw [List.map_cons, List.map_cons, List.cons.injEq] at h
    rw [ba_ext h.1, map_data_inj h.2]
theorem segB_data (s : ByteArray) : (segB s).map (·.data.toList) = segsL s.data.toList := by
  unfold segB
  rw [List.map_map]
  conv => rhs; rw [← List.map_id (segsL s.data.toList)]
  exact List.map_congr_left (fun l _ => rfl)
theorem split_segB (s : ByteArray) : Lib.splitB ⟨#[47]⟩ 0 (Lib.countB s ⟨#[47]⟩) s = segB s := by
  apply map_data_inj
  rw [Lib.splitB_data, segB_data]
  exact split_segs _ _ (Lib.count_one 47 _).symm
theorem count_segB (s : ByteArray) : Lib.countB s ⟨#[47]⟩ + 1 = (segB s).length := by
  rw [← split_segB]
  exact (Lib.splitB_all ⟨#[47]⟩ (by decide) 0 _ s rfl).symm
theorem segB_ne (s : ByteArray) : 0 < (segB s).length := by rw [← count_segB]; omega

theorem segsL_length (l : List UInt8) : (segsL l).length ≤ l.length + 1 := by
  induction l with
  | nil => simp [segsL]
  | cons c r ih =>
    unfold segsL
    split
    · simp; omega
    · split
      · simp
      · rename_i h t e
        rw [e] at ih; simp at ih ⊢; omega
theorem segsL_le (l : List UInt8) : ∀ x ∈ segsL l, x.length ≤ l.length := by
  induction l with
  | nil => simp [segsL]
  | cons c r ih =>
    intro x hx
    unfold segsL at hx
    split at hx
    · rcases List.mem_cons.1 hx with rfl | hx
      · simp
      · have := ih x hx; simp; omega
    · split at hx
      · simp at hx; subst hx; simp
      · rename_i h t e
        rcases List.mem_cons.1 hx with rfl | hx
        · have := ih h (by rw [e]; simp); simp; omega
        · have := ih x (by rw [e]; simp [hx]); simp; omega
theorem segB_length (s : ByteArray) : (segB s).length ≤ s.size + 1 := by
  unfold segB; rw [List.length_map]; have := segsL_length s.data.toList; rw [← Lib.size_eq] at this; exact this
theorem segB_le (s : ByteArray) : ∀ x ∈ segB s, x.size ≤ s.size := by
  intro x hx
  obtain ⟨l, hl, rfl⟩ := List.mem_map.1 hx
  have := segsL_le _ l hl
  rw [Lib.size_eq, Lib.size_eq s]
  simpa using this
def lastB (s : ByteArray) : ByteArray := (segB s).getD ((segB s).length - 1) ByteArray.empty
theorem lastB_mem (s : ByteArray) : lastB s ∈ segB s := by
  have := segB_ne s
  unfold lastB
  rw [List.getD_eq_getElem?_getD, List.getElem?_eq_getElem (by omega)]
  exact List.getElem_mem _
def segOk (x : ByteArray) : Bool := nameS x && allZ pathZ x
def pathOk (s : ByteArray) : Bool := decide (s.size ≤ 64) && (decide (2 ≤ (segB s).length) && (verOk (lastB s) && (segB s).all segOk))
def majN (s : ByteArray) : Int := if pathOk s then verN (lastB s) else 0
def majE (s : ByteArray) : Int := if pathOk s then 0 else 4
end Go.Proofs.YtenfkejbndifdaaGreatDoor

namespace Go.Proofs.YtenfkejbndifdaaGreatDoor
open Go Go.RowKit

theorem Split_any (s : ByteArray) (w : World) (hs : s.size < 4294967281) (hm : MaxOk w) :
    Calls Tryz.prog 203 #[.string s, .string ⟨#[47]⟩] w fun e w' => e = .returned (.slice (some ⟨w.heap.size, 0, none⟩) (segB s).length (segB s).length) ∧ w.alloc (.cells ((segB s).map Value.string).toArray 9) = w' := by
  obtain ⟨m, hm⟩ := hm
  refine (Tryz.strings_Split s ⟨#[47]⟩ m w hs hm (by decide)).mono ?_
  rintro e w' ⟨rfl, rfl⟩
  rw [count_segB, split_segB]
  exact ⟨rfl, rfl⟩

set_option maxHeartbeats 600000 in
theorem Major_any (s : ByteArray) (w : World) (hs : s.size ≤ 1000000) (hm : MaxOk w) :
    Calls Tryz.prog 176 #[.string s] w fun e w' => e = .returned (.tuple #[.int .i64 (majN s), .int .i64 (majE s)]) ∧ Below w.heap.size w w' := by
  have hne := segB_ne s
  have hln := segB_length s
  have hcell : (w.alloc (.cells ((segB s).map Value.string).toArray 9)).cell? ⟨w.heap.size, 0 + ((segB s).length - 1), none⟩ = some (.string (lastB s)) := cells_new w (segB s) _ _ (by omega)
  have hcells := fun i (hi : i < (segB s).length) => cells_new w (segB s) 9 i hi
  have hsz := segB_le s
  have hll := hsz _ (lastB_mem s)
  have hm1 := hm.alloc (.cells ((segB s).map Value.string).toArray 9)
  have hbl : Below w.heap.size w (w.alloc (.cells ((segB s).map Value.string).toArray 9)) := (Below.refl _ w).alloc (Nat.le_refl _) _
  have HP : Hid (pathOk s = (decide (s.size ≤ 64) && (decide (2 ≤ (segB s).length) && (verOk (lastB s) && (segB s).all segOk)))) := Lib.hid rfl
  have HN : Hid (majN s = if pathOk s then verN (lastB s) else 0) := Lib.hid rfl
  have HE : Hid (majE s = if pathOk s then 0 else 4) := Lib.hid rfl
  have HS := Lib.hid (Split_any s w (by omega) hm)
  generalize (w.alloc (.cells ((segB s).map Value.string).toArray 9)) = w1 at *
  generalize lastB s = lb at *
  generalize segB s = sg at *
  have hnum : sg.length ≤ 1000001 := by omega
  have H1 := Lib.hid hcells
  have H2 := Lib.hid hsz
  clear hcells hsz
  simp only [Nat.zero_add] at hcell
  have hlb : lb.size ≤ 140737488351232 := by omega
  cases h1 : verOk lb
  case false =>
    have HT : Hid (pathOk s = false) := Lib.hid (by rw [HP.out, h1]; simp)
    go_enter Tryz.func176, Tryz.ntmps176
    go_wp2_with fail
    refine HS.out.mono ?_
    rintro e w' ⟨rfl, rfl⟩
    go_wp2_with (go_at_call 204; refine (version_any _ _ hlb).mono ?_; rintro e w' ⟨rfl, rfl⟩)
    go_ret2
    exact ⟨ret_ii (by rw [HN.out, HT.out]; rfl) (by rw [HE.out, HT.out]; rfl), hbl⟩
  by_cases h2 : s.size ≤ 64
  case neg =>
    have HT : Hid (pathOk s = false) := Lib.hid (by rw [HP.out, decide_eq_false h2]; rfl)
    go_enter Tryz.func176, Tryz.ntmps176
    go_wp2_with fail
    refine HS.out.mono ?_
    rintro e w' ⟨rfl, rfl⟩
    go_wp2_with (go_at_call 204; refine (version_any _ _ hlb).mono ?_; rintro e w' ⟨rfl, rfl⟩)
    go_ret2
    exact ⟨ret_ii (by rw [HN.out, HT.out]; rfl) (by rw [HE.out, HT.out]; rfl), hbl⟩
  by_cases h3 : 2 ≤ sg.length
  case neg =>
    have HT : Hid (pathOk s = false) := Lib.hid (by rw [HP.out, decide_eq_false h3]; simp)
    go_enter Tryz.func176, Tryz.ntmps176
    go_wp2_with fail
    refine HS.out.mono ?_
    rintro e w' ⟨rfl, rfl⟩
    go_wp2_with (go_at_call 204; refine (version_any _ _ hlb).mono ?_; rintro e w' ⟨rfl, rfl⟩)
    go_ret2
    exact ⟨ret_ii (by rw [HN.out, HT.out]; rfl) (by rw [HE.out, HT.out]; rfl), hbl⟩
  have HT : Hid (pathOk s = sg.all segOk) := Lib.hid (by rw [HP.out, decide_eq_true h2, decide_eq_true h3, h1]; rfl)
  go_enter Tryz.func176, Tryz.ntmps176
  go_wp2_with fail
  refine HS.out.mono ?_
  rintro e w' ⟨rfl, rfl⟩
  go_wp2_with (go_at_call 204; refine (version_any _ _ hlb).mono ?_; rintro e w' ⟨rfl, rfl⟩)
  go_loop [35] (fun i => ∃ k : Nat, k ≤ sg.length ∧ i = .int .i64 k ∧ Hid ((sg.take k).all segOk = true)) (fun i => sg.length - (intOf i).toNat)
  case atStart => exact ⟨0, Nat.zero_le _, rfl, Lib.hid rfl⟩
  case round =>
    obtain ⟨k, hk, rfl, HA⟩ := hrel
    by_cases hlt : k < sg.length
    · obtain ⟨x, hx⟩ : ∃ x, x = sg.getD k ByteArray.empty := ⟨_, rfl⟩
      have hg : sg.getD k ByteArray.empty = sg[k] := by simp [hlt]
      have hck : w1.cell? ⟨w.heap.size, k, none⟩ = some (.string x) := by rw [hx]; simpa using H1.out k hlt
      have hxs : x.size ≤ s.size := by rw [hx, hg]; exact H2.out _ (List.getElem_mem hlt)
      have hxm : x.size ≤ maxLen := by unfold maxLen; omega
      have HX : Hid (x = sg[k]) := Lib.hid (by rw [hx, hg])
      clear hx hg
      cases h4 : nameS x
      · have HF : Hid (pathOk s = false) := Lib.hid (by
          rw [HT.out, List.all_eq_false]
          exact ⟨sg[k], List.getElem_mem hlt, by rw [← HX.out, segOk, h4]; exact Bool.false_ne_true⟩)
        go_wp2_with (first | (go_at_call 205; refine (IsName_any _ _ hxm hm1).mono ?_; rintro e w' ⟨rfl, rfl⟩) | (go_at_call 206; refine (all_pathZ _ _ hxm).mono ?_; rintro e w' ⟨rfl, rfl⟩))
        go_ret2
        exact ⟨ret_ii (by rw [HN.out, HF.out]; rfl) (by rw [HE.out, HF.out]; rfl), hbl⟩
      · cases h5 : allZ pathZ x
        · have HF : Hid (pathOk s = false) := Lib.hid (by
            rw [HT.out, List.all_eq_false]
            exact ⟨sg[k], List.getElem_mem hlt, by rw [← HX.out, segOk, h4, h5]; exact Bool.false_ne_true⟩)
          go_wp2_with (first | (go_at_call 205; refine (IsName_any _ _ hxm hm1).mono ?_; rintro e w' ⟨rfl, rfl⟩) | (go_at_call 206; refine (all_pathZ _ _ hxm).mono ?_; rintro e w' ⟨rfl, rfl⟩))
          go_ret2
          exact ⟨ret_ii (by rw [HN.out, HF.out]; rfl) (by rw [HE.out, HF.out]; rfl), hbl⟩
        · have HO : Hid ((sg.take (k + 1)).all segOk = true) := Lib.hid (by
            rw [List.take_succ_eq_append_getElem hlt, List.all_append, HA.out, ← HX.out]
            simp [segOk, h4, h5])
          go_wp2_with (first | (go_at_call 205; refine (IsName_any _ _ hxm hm1).mono ?_; rintro e w' ⟨rfl, rfl⟩) | (go_at_call 206; refine (all_pathZ _ _ hxm).mono ?_; rintro e w' ⟨rfl, rfl⟩))
          go_round
          case rel => exact ⟨k + 1, by omega, by go_num, HO⟩
          case measure => simp [intOf]; omega
    · obtain rfl : k = sg.length := by omega
      have HO : Hid (pathOk s = true) := Lib.hid (by rw [HT.out]; have := HA.out; rwa [List.take_length] at this)
      go_wp2
      go_ret2
      exact ⟨ret_ii (by rw [HN.out, HO.out]; simp only [verN, h1, if_true]) (by rw [HE.out, HO.out]; rfl), hbl⟩

set_option maxHeartbeats 400000 in
theorem IsPath_any (s : ByteArray) (w : World) (hs : s.size ≤ 1000000) (hm : MaxOk w) :
    Calls Tryz.prog 177 #[.string s] w fun e w' => e = .returned (.bool (pathOk s)) ∧ Below w.heap.size w w' := by
  have HE : Hid (majE s = if pathOk s then 0 else 4) := Lib.hid rfl
  cases h : pathOk s
  all_goals
    rw [h] at HE
    simp only [Bool.false_eq_true, if_false, if_true] at HE
    go_enter Tryz.func177, Tryz.ntmps177
    go_wp2_with fail
    refine (Major_any s w hs hm).mono ?_
    rintro e w' ⟨rfl, hb⟩
    rw [HE.out]
    go_wp2
    go_ret
    exact ⟨rfl, hb⟩
end Go.Proofs.YtenfkejbndifdaaGreatDoor

namespace Go.Proofs.YtenfkejbndifdaaGreatDoor
open Go Go.RowKit

def slashI (s : ByteArray) : Int := Lib.lastIndexByte s 47
theorem segsL_many (l : List UInt8) (h : ∀ b ∈ l, b ≠ 47) : (segsL l).length = 1 := by rw [segsL_one l h]; rfl
theorem slash_path (s : ByteArray) (h : pathOk s = true) : ∃ i : Nat, slashI s = i ∧ i < s.size ∧ s.data.toList[i]? = some 47 ∧ ∀ j, i < j → s.data.toList[j]? ≠ some 47 := by
  have ebang : ∀ j, j < s.size → s.data.toList[j]? = some (s.data[j]!) := fun j hj => by
    have h1 : j < s.data.toList.length := by rw [← Lib.size_eq]; exact hj
    have h2 : j < s.data.size := hj
    rw [List.getElem?_eq_getElem h1, getElem!_pos s.data j h2, Array.getElem_toList]
  have h47 : ∀ j, j < s.size → (((s.data[j]!).toNat : Int) = 47 ↔ s.data.toList[j]? = some 47) := fun j hj => by
    rw [ebang j hj]
    constructor
    · intro e
      have : s.data[j]! = 47 := UInt8.toNat_inj.1 (by have : (47 : UInt8).toNat = 47 := rfl; omega)
      rw [this]
    · intro e
      rw [Option.some.inj e]; rfl
  rcases Lib.lastIndexByte_spec s 47 with ⟨_, hn⟩ | ⟨i, hi, e, hc, hn⟩
  · exfalso
    unfold pathOk at h
    simp only [Bool.and_eq_true, decide_eq_true_eq] at h
    have h2 := h.2.1
    unfold segB at h2
    rw [List.length_map, segsL_many] at h2
    · omega
    · intro b hb e
      subst e
      obtain ⟨j, hj, he⟩ := List.getElem_of_mem hb
      have hj2 : j < s.size := by rw [Lib.size_eq]; exact hj
      exact hn j hj2 ((h47 j hj2).2 (by rw [List.getElem?_eq_getElem hj, he]))
  · refine ⟨i, e, hi, (h47 i hi).1 hc, fun j hj he => ?_⟩
    have hj2 : j < s.size := by
      have := (List.getElem?_eq_some_iff.1 he).1
      rw [Lib.size_eq]; exact this
    exact hn j hj hj2 ((h47 j hj2).2 he)
def lineV (s : ByteArray) : ByteArray × Int × Int := if pathOk s then (s.extract 0 (slashI s).toNat, majN s, 0) else (⟨#[]⟩, 0, 4)
theorem LastSlash_any (s : ByteArray) (w : World) (hs : s.size ≤ 1000000) : Calls Tryz.prog 178 #[.string s, .string ⟨#[47]⟩] w fun e w' => e = .returned (.int .i64 (slashI s)) ∧ w = w' :=
  flip (Tryz.strings_LastIndex_one s ⟨#[47]⟩ rfl (by omega) w)

set_option maxRecDepth 100000 in
set_option maxHeartbeats 4000000 in
theorem Line_any (s : ByteArray) (w : World) (hs : s.size ≤ 1000000) (hm : MaxOk w) : Calls Tryz.prog 144 #[.string s] w fun e w' =>
    e = .returned (.tuple #[.string (lineV s).1, .int .i64 (lineV s).2.1, .int .i64 (lineV s).2.2]) ∧ Below w.heap.size w w' := by
  cases hp : pathOk s with
  | false =>
    have HE := Lib.hid (show lineV s = (⟨#[]⟩, 0, 4) by unfold lineV; rw [hp]; rfl)
    have HM := Lib.hid (show majE s = 4 by unfold majE; rw [hp]; rfl)
    rw [HE.out]
    have HP := Lib.hid hp
    clear hp
    go_enter Tryz.func144, Tryz.ntmps144
    go_wp2_with fail
    refine (Major_any s w hs hm).mono ?_
    rintro e w1 ⟨rfl, hb1⟩
    have hm1 := hm.below hb1 hm.pos
    have HB1 := Lib.hid hb1
    clear hb1
    go_wp2_with fail
    refine (IsPath_any s w1 hs hm1).mono ?_
    rintro e w2 ⟨rfl, hb2⟩
    have HB2 : Hid (Below w.heap.size w w2) := Lib.hid (HB1.out.trans (hb2.mono HB1.out.size))
    rw [HP.out]
    clear hb2
    go_wp2_with fail
    go_ret3
    exact ⟨rfl, HB2.out⟩
  | true =>
    obtain ⟨i, hi1, hi2, hi3, hi4⟩ := slash_path s hp
    obtain ⟨hd, hhd⟩ : ∃ hd, s.extract 0 i = hd := ⟨_, rfl⟩
    have HE := Lib.hid (show lineV s = (hd, majN s, 0) by unfold lineV; rw [hp, hi1, ← hhd]; rfl)
    have HM := Lib.hid (show majE s = 0 by unfold majE; rw [hp]; rfl)
    have HL := Lib.hid (fun W => LastSlash_any s W hs)
    rw [hi1] at HL
    rw [HE.out]
    have HP := Lib.hid hp
    have HH := Lib.hid hhd
    have g1 : (0 : Int) ≤ (i : Int) := by omega
    have g2 : (i : Int) ≤ s.size := by omega
    have g3 : i ≤ s.size := by omega
    clear hp hi1 hi3 hi4 hhd
    go_enter Tryz.func144, Tryz.ntmps144
    go_wp2_with fail
    refine (Major_any s w hs hm).mono ?_
    rintro e w1 ⟨rfl, hb1⟩
    rw [HM.out]
    have hm1 := hm.below hb1 hm.pos
    have HB1 := Lib.hid hb1
    clear hb1
    go_wp2_with fail
    refine (IsPath_any s w1 hs hm1).mono ?_
    rintro e w2 ⟨rfl, hb2⟩
    have HB2 : Hid (Below w.heap.size w w2) := Lib.hid (HB1.out.trans (hb2.mono HB1.out.size))
    rw [HP.out]
    clear hb2
    go_wp2_with fail
    (with_reducible refine (HL.out _).mono ?_)
    rintro e w3 ⟨rfl, rfl⟩
    go_wp2_with fail
    go_ret3
    exact ⟨by rw [← HH.out]; rfl, HB2.out⟩
def pathB (s : ByteArray) (m : Int) : ByteArray := s ++ ⟨#[47, 118]⟩ ++ ⟨(decL m).toArray⟩
def pathV (s : ByteArray) (m : Int) : ByteArray × Int := if partB m = true then if pathOk (pathB s m) = true then (pathB s m, 0) else (⟨#[]⟩, 4) else (⟨#[]⟩, 2)
end Go.Proofs.YtenfkejbndifdaaGreatDoor

namespace Go.Proofs.YtenfkejbndifdaaGreatDoor
set_option linter.unusedVariables false
set_option linter.unusedSimpArgs false
open Go

abbrev ReqL := ByteArray × List (Int × Int)
abbrev SelL := ByteArray × (Int × Int × Int)
structure RelL where
  path : ByteArray
  ver : Int × Int × Int
  reqs : List ReqL
  ar : ByteArray
  ifc : ByteArray
  cert : ByteArray
  yk : Bool
instance : Inhabited RelL := ⟨⟨⟨#[]⟩, (0, 0, 0), [], ⟨#[]⟩, ⟨#[]⟩, ⟨#[]⟩, false⟩⟩
def ltB (a b : ByteArray) : Bool := Op.bytesLess a.toList b.toList
def firstE (n : Nat) (f : Nat → Int) : Int := (((List.range n).map f).find? fun e => decide (e ≠ 0)).getD 0
theorem firstE_at {n : Nat} {f : Nat → Int} {k : Nat} (hk : k < n) (h : ∀ j, j < k → f j = 0) (h2 : f k ≠ 0) : firstE n f = f k := by
  unfold firstE
  have e : (List.range n).map f = (List.range k).map f ++ (f k :: ((List.range n).drop (k + 1)).map f) := by
    have e1 : List.range n = List.range k ++ (k :: (List.range n).drop (k + 1)) := by
      have h1 : (List.range n).take k = List.range k := by rw [List.take_range, Nat.min_eq_left (Nat.le_of_lt hk)]
      conv => lhs; rw [← List.take_append_drop k (List.range n), h1, List.drop_eq_getElem_cons (by simpa using hk)]
      simp
    conv => lhs; rw [e1]
    rw [List.map_append, List.map_cons]
  have : ((List.range n).map f).find? (fun e => decide (e ≠ 0)) = some (f k) := by
    rw [List.find?_eq_some_iff_append]
    refine ⟨by simpa using h2, (List.range k).map f, _, e, fun a ha => ?_⟩
    obtain ⟨j, hj, rfl⟩ := List.mem_map.1 ha
    simp [h j (List.mem_range.1 hj)]
  rw [this]
  rfl
theorem firstE_none {n : Nat} {f : Nat → Int} (h : ∀ j, j < n → f j = 0) : firstE n f = 0 := by
  unfold firstE
  have : ((List.range n).map f).find? (fun e => decide (e ≠ 0)) = none := List.find?_eq_none.2 fun a ha => by
    obtain ⟨j, hj, rfl⟩ := List.mem_map.1 ha
    simp [h j (List.mem_range.1 hj)]
  rw [this]
  rfl
theorem firstE_zero {n : Nat} {f : Nat → Int} (h : firstE n f = 0) : ∀ j, j < n → f j = 0 := by
  intro j
  induction j using Nat.strongRecOn with
  | _ j ih =>
    intro hj
    by_cases h2 : f j = 0
    · exact h2
    · rw [firstE_at hj (fun i hi => ih i hi (by omega)) h2] at h
      exact absurd h h2
def reqE (q : ReqL) (before : Option ByteArray) : Int :=
  if (lineV q.1).2.2 ≠ 0 then 4 else if q.2 = [] ∨ q.2 ≠ canon q.2 then 1 else match before with
    | none => 0
    | some b => if ltB b q.1 = true then 0 else 1
def beforeQ (l : List ReqL) (k : Nat) : Option ByteArray := if k = 0 then none else some (l.getD (k - 1) default).1
def checkReqs (l : List ReqL) : Int := if 16 < l.length then 7 else firstE l.length fun k => reqE (l.getD k default) (beforeQ l k)
def digB (s : ByteArray) : Bool := decide (s.size = 0) || decide (s.size = 32)
def relE (r : RelL) : Int :=
  if (lineV r.path).2.2 ≠ 0 then 4
  else if (validB r.ver.1 r.ver.2.1 r.ver.2.2 && decide (r.ver.1 = (lineV r.path).2.1)) = false then 2
  else if checkReqs r.reqs ≠ 0 then checkReqs r.reqs
  else if (digB r.ar && (digB r.ifc && digB r.cert)) = true then 0 else 1
def cmpS (a b : ByteArray) : Int := if ltB a b = true then -1 else if ltB b a = true then 1 else 0
def cmpR (a b : RelL) : Int := if cmpS a.path b.path ≠ 0 then cmpS a.path b.path else cmpV a.ver.1 a.ver.2.1 a.ver.2.2 b.ver.1 b.ver.2.1 b.ver.2.2
def keyL (r : RelL) : SelL := (r.path, r.ver)
def relE2 (b r : RelL) : Int := if keyL b = keyL r then 5 else if 0 < cmpR b r then 1 else 0
def idxErr (X : List RelL) (k : Nat) : Int := if relE (X.getD k default) ≠ 0 then relE (X.getD k default) else if k = 0 then 0 else relE2 (X.getD (k - 1) default) (X.getD k default)
def checkX (X : List RelL) : Int := if 256 < X.length then 7 else firstE X.length (idxErr X)
def findR (X : List RelL) (y : SelL) : Option RelL := X.find? fun r => decide (keyL r = y)
def incrS (s : List SelL) : Prop := s.Pairwise fun a b => ltB a.1 b.1 = true
end Go.Proofs.YtenfkejbndifdaaGreatDoor
