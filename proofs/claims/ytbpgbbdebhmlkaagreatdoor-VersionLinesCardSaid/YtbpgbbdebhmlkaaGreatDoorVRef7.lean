/- Contracts of the reference's Line and Path. -/
import Derived.Test.YtbpgbbdebhmlkaaGreatDoorVRef5
import Derived.Test.YtbpgbbdebhmlkaaGreatDoorVLine
import Derived.Test.YtbpgbbdebhmlkaaGreatDoorSegs
namespace Go.Proofs.YtbpgbbdebhmlkaaGreatDoor
open Go Go.RowKit

set_option maxRecDepth 100000 in
set_option maxHeartbeats 4000000 in
theorem rPath_any (s : ByteArray) (m : Int) (w : World) (hs : s.size ≤ 900000) : Calls Tryz.prog 19 #[.string s, .int .i64 m] w fun e w' =>
    e = .returned (.tuple #[.string (pathV s m).1, .int .i64 (pathV s m).2]) ∧ Below w.heap.size w w' := by
  cases hp : partB m with
  | false =>
    have HE := Lib.hid (show pathV s m = (⟨#[]⟩, 2) by unfold pathV; rw [hp]; rfl)
    rw [HE.out]
    have HPT := Lib.hid (rpart_any m w)
    rw [hp] at HPT
    clear hp
    go_enter Tryz.func19, Tryz.ntmps19
    go_wp2_with fail
    (with_reducible refine HPT.out.mono ?_)
    rintro e w1 ⟨rfl, rfl⟩
    go_wp2_with fail
    go_ret2
    exact ⟨rfl, Below.refl _ _⟩
  | true =>
    obtain ⟨h1, h2⟩ := part_yes hp
    have hz := pathB_size s m (by omega)
    obtain ⟨p, hpp⟩ : ∃ p, pathB s m = p := ⟨_, rfl⟩
    have HE := Lib.hid (show pathV s m = if pathOk p = true then (p, 0) else (⟨#[]⟩, 4) by unfold pathV; rw [hp, hpp]; rfl)
    have HI := Lib.hid (decimal_any m w (by omega) (by omega))
    have HPA := Lib.hid (rpart_any m w)
    rw [hp] at HPA
    obtain ⟨dm, hdm⟩ : ∃ dm : ByteArray, (⟨(decL m).toArray⟩ : ByteArray) = dm := ⟨_, rfl⟩
    have hdl : dm.size ≤ 3 := by rw [← hdm, Lib.size_eq]; exact decL_len m (by omega)
    rw [hdm] at HI
    have HPP : Hid (s ++ ⟨#[47, 118]⟩ ++ dm = p) := Lib.hid (by rw [← hpp, ← hdm]; rfl)
    rw [hpp] at hz
    have ha0 : (s ++ (⟨#[47, 118]⟩ : ByteArray)).size = s.size + 2 := by rw [size_app]; rfl
    have hno1 : ¬ 9223372036854775807 < s.size + (⟨#[47, 118]⟩ : ByteArray).size := by have : (⟨#[47, 118]⟩ : ByteArray).size = 2 := rfl; omega
    have hno2 : ¬ 9223372036854775807 < s.size + 2 := by omega
    have hno3 : ¬ 9223372036854775807 < (s ++ (⟨#[47, 118]⟩ : ByteArray)).size + dm.size := by omega
    have hno4 : ¬ 9223372036854775807 < s.size + 2 + dm.size := by omega
    have hno5 : ¬ 9223372036854775805 < s.size := by omega
    have HPT := Lib.hid (fun W => rIsPath_any p W)
    clear hp hpp hdm ha0
    cases hq : pathOk p with
    | false =>
      have HEE := Lib.hid (show pathV s m = (⟨#[]⟩, 4) by rw [HE.out, hq]; rfl)
      rw [HEE.out]
      rw [hq] at HPT
      clear hq
      go_enter Tryz.func19, Tryz.ntmps19
      go_wp2_with fail
      (with_reducible refine HPA.out.mono ?_)
      rintro e w0 ⟨rfl, rfl⟩
      go_wp2_with fail
      (with_reducible refine HI.out.mono ?_)
      rintro e w1 ⟨rfl, hb1⟩
      have HB1 := Lib.hid hb1
      clear hb1
      go_wp2_with fail
      rw [HPP.out]
      (with_reducible refine (HPT.out _).mono ?_)
      rintro e w2 ⟨rfl, hb2⟩
      have HB2 : Hid (Below w.heap.size w w2) := Lib.hid (HB1.out.trans (hb2.mono HB1.out.size))
      clear hb2
      go_wp2_with fail
      go_ret2
      exact ⟨rfl, HB2.out⟩
    | true =>
      have HEE := Lib.hid (show pathV s m = (p, 0) by rw [HE.out, hq]; rfl)
      rw [HEE.out]
      rw [hq] at HPT
      clear hq
      go_enter Tryz.func19, Tryz.ntmps19
      go_wp2_with fail
      (with_reducible refine HPA.out.mono ?_)
      rintro e w0 ⟨rfl, rfl⟩
      go_wp2_with fail
      (with_reducible refine HI.out.mono ?_)
      rintro e w1 ⟨rfl, hb1⟩
      have HB1 := Lib.hid hb1
      clear hb1
      go_wp2_with fail
      rw [HPP.out]
      (with_reducible refine (HPT.out _).mono ?_)
      rintro e w2 ⟨rfl, hb2⟩
      have HB2 : Hid (Below w.heap.size w w2) := Lib.hid (HB1.out.trans (hb2.mono HB1.out.size))
      clear hb2
      go_wp2_with fail
      go_ret2
      exact ⟨rfl, HB2.out⟩
set_option maxRecDepth 100000 in
set_option maxHeartbeats 4000000 in
theorem rLine_any (s : ByteArray) (w : World) (hs : s.size ≤ 1000000) : Calls Tryz.prog 17 #[.string s] w fun e w' =>
    e = .returned (.tuple #[.string (lineV s).1, .int .i64 (lineV s).2.1, .int .i64 (lineV s).2.2]) ∧ Below w.heap.size w w' := by
  have HIP := Lib.hid (fun W => rIsPath_any s W)
  have HMJ := Lib.hid (fun W => rMajor_any s W)
  cases hp : pathOk s with
  | false =>
    have HE := Lib.hid (show lineV s = (⟨#[]⟩, 0, 4) by unfold lineV; rw [hp]; rfl)
    rw [HE.out]
    rw [hp] at HIP
    clear hp
    go_enter Tryz.func17, Tryz.ntmps17
    go_wp2_with fail
    (with_reducible refine (HIP.out _).mono ?_)
    rintro e w1 ⟨rfl, hb1⟩
    have HB1 := Lib.hid hb1
    clear hb1
    go_wp2_with fail
    go_ret3
    exact ⟨rfl, HB1.out⟩
  | true =>
    obtain ⟨i, hi1, hi2, hi3, hi4⟩ := slash_path s hp
    obtain ⟨hd, hhd⟩ : ∃ hd, s.extract 0 i = hd := ⟨_, rfl⟩
    have HE := Lib.hid (show lineV s = (hd, majN s, 0) by unfold lineV; rw [hp, hi1, ← hhd]; rfl)
    rw [show majE s = 0 by unfold majE; rw [hp]; rfl] at HMJ
    rw [HE.out]
    rw [hp] at HIP
    have HH := Lib.hid hhd
    have hget : ∀ j (hj : j < s.size), s.data.toList[j]? = some s[j] := fun j hj => by
      have : j < s.data.toList.length := by rw [← Lib.size_eq]; exact hj
      rw [List.getElem?_eq_getElem this]; simp; rfl
    have HI := Lib.hid (show ((s[i]).toNat : Int) = 47 by
      rw [hget i hi2] at hi3
      rw [Option.some.inj hi3]; rfl)
    have HJ := Lib.hid (show ∀ j (hj : j < s.size), i < j → ¬ ((s[j]).toNat : Int) = 47 from fun j hj hij h => hi4 j hij (by
      rw [hget j hj]
      have : s[j] = 47 := UInt8.toNat_inj.1 (by have : (47 : UInt8).toNat = 47 := rfl; omega)
      rw [this]))
    have HI2 := Lib.hid hi2
    have hsz : (1 : Int) ≤ s.size := by omega
    have hsz2 : (s.size : Int) ≤ 1000000 := by omega
    obtain ⟨mj, hmj⟩ : ∃ mj, majN s = mj := ⟨_, rfl⟩
    rw [hmj] at HMJ ⊢
    clear hp hi1 hi3 hi4 hhd hget hmj
    go_enter Tryz.func17, Tryz.ntmps17
    go_wp2_with fail
    (with_reducible refine (HIP.out _).mono ?_)
    rintro e w1 ⟨rfl, hb1⟩
    have HB1 := Lib.hid hb1
    clear hb1
    go_wp2_with fail
    (with_reducible refine (HMJ.out _).mono ?_)
    rintro e w2 ⟨rfl, hb2⟩
    have HB2 : Hid (Below w.heap.size w w2) := Lib.hid (HB1.out.trans (hb2.mono HB1.out.size))
    clear hb2
    go_wp2_with fail
    go_loop [7] (fun e => ∃ k : Nat, i ≤ k ∧ k < s.size ∧ e = .int .i64 k) (fun e => (intOf e).toNat)
    case atStart => exact ⟨s.size - 1, by have := HI2.out; omega, by have := HI2.out; omega, by have := HI2.out; congr 1; omega⟩
    case round =>
      obtain ⟨k, hk1, hk2, rfl⟩ := hrel
      have hk0 : (0 : Int) ≤ (k : Int) := by omega
      have hk3 : (k : Int) < (s.size : Int) := by omega
      by_cases hik : i = k
      · subst hik
        have h47 : ((((s[i]).toNat : Int)) != 47) = false := by rw [HI.out]; rfl
        have g1 : (0 : Int) ≤ (i : Int) := by omega
        have g2 : (i : Int) ≤ s.size := by omega
        have g3 : i ≤ s.size := by omega
        go_wp2_with fail
        go_ret3
        exact ⟨by rw [← HH.out]; rfl, HB2.out⟩
      · have h47 : ((((s[k]).toNat : Int)) != 47) = true := by
          have := HJ.out k hk2 (by omega)
          simpa using this
        have hk4 : (1 : Int) ≤ (k : Int) := by omega
        go_wp2_with fail
        go_round
        case rel => exact ⟨k - 1, by omega, by omega, by congr 1; omega⟩
        case measure => simp [intOf]; omega
end Go.Proofs.YtbpgbbdebhmlkaaGreatDoor
