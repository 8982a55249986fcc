/- Contracts of package version's Line and Path. -/
import Derived.Test.YtbpgbbdebhmlkaaDoorVFormat
import Derived.Test.YtbpgbbdebhmlkaaDoorMajor
namespace Go.Proofs.YtbpgbbdebhmlkaaDoor
open Go Go.RowKit

/-- the place of the last slash. -/
def slashI (s : ByteArray) : Int := Lib.lastIndexByte s 47
theorem segsL_many (l : List UInt8) (h : ∀ b ∈ l, b ≠ 47) : (segsL l).length = 1 := by rw [segsL_one l h]; rfl
theorem slash_path (s : ByteArray) (h : pathOk s = true) : ∃ i : Nat, slashI s = i ∧ i < s.size ∧ s.data.toList[i]? = some 47 ∧ ∀ j, i < j → s.data.toList[j]? ≠ some 47 := by
  have ebang : ∀ j, j < s.size → s.data.toList[j]? = some (s.data[j]!) := fun j hj => by
    have h1 : j < s.data.toList.length := by rw [← Lib.size_eq]; exact hj
    have h2 : j < s.data.size := hj
    rw [List.getElem?_eq_getElem h1, getElem!_pos s.data j h2, Array.getElem_toList]
  have h47 : ∀ j, j < s.size → (((s.data[j]!).toNat : Int) = 47 ↔ s.data.toList[j]? = some 47) := fun j hj => by
    rw [ebang j hj]
    constructor
    · intro e
      have : s.data[j]! = 47 := UInt8.toNat_inj.1 (by have : (47 : UInt8).toNat = 47 := rfl; omega)
      rw [this]
    · intro e
      rw [Option.some.inj e]; rfl
  rcases Lib.lastIndexByte_spec s 47 with ⟨_, hn⟩ | ⟨i, hi, e, hc, hn⟩
  · exfalso
    unfold pathOk at h
    simp only [Bool.and_eq_true, decide_eq_true_eq] at h
    have h2 := h.2.1
    unfold segB at h2
    rw [List.length_map, segsL_many] at h2
    · omega
    · intro b hb e
      subst e
      obtain ⟨j, hj, he⟩ := List.getElem_of_mem hb
      have hj2 : j < s.size := by rw [Lib.size_eq]; exact hj
      exact hn j hj2 ((h47 j hj2).2 (by rw [List.getElem?_eq_getElem hj, he]))
  · refine ⟨i, e, hi, (h47 i hi).1 hc, fun j hj he => ?_⟩
    have hj2 : j < s.size := by
      have := (List.getElem?_eq_some_iff.1 he).1
      rw [Lib.size_eq]; exact this
    exact hn j hj hj2 ((h47 j hj2).2 he)
/-- the name and the major number of a path, and the error. -/
def lineV (s : ByteArray) : ByteArray × Int × Int := if pathOk s then (s.extract 0 (slashI s).toNat, majN s, 0) else (⟨#[]⟩, 0, 4)
theorem LastSlash_any (s : ByteArray) (w : World) (hs : s.size ≤ 1000000) : Calls Tryd.prog 33 #[.string s, .string ⟨#[47]⟩] w fun e w' => e = .returned (.int .i64 (slashI s)) ∧ w = w' :=
  flip (Tryd.strings_LastIndex_one s ⟨#[47]⟩ rfl (by omega) w)

set_option maxRecDepth 100000 in
set_option maxHeartbeats 4000000 in
theorem Line_any (s : ByteArray) (w : World) (hs : s.size ≤ 1000000) (hm : MaxOk w) : Calls Tryd.prog 15 #[.string s] w fun e w' =>
    e = .returned (.tuple #[.string (lineV s).1, .int .i64 (lineV s).2.1, .int .i64 (lineV s).2.2]) ∧ Below w.heap.size w w' := by
  cases hp : pathOk s with
  | false =>
    have HE := Lib.hid (show lineV s = (⟨#[]⟩, 0, 4) by unfold lineV; rw [hp]; rfl)
    have HM := Lib.hid (show majE s = 4 by unfold majE; rw [hp]; rfl)
    rw [HE.out]
    have HP := Lib.hid hp
    clear hp
    go_enter Tryd.func15, Tryd.ntmps15
    go_wp2_with fail
    refine (Major_any s w hs hm).mono ?_
    rintro e w1 ⟨rfl, hb1⟩
    have hm1 := hm.below hb1 hm.pos
    have HB1 := Lib.hid hb1
    clear hb1
    go_wp2_with fail
    refine (IsPath_any s w1 hs hm1).mono ?_
    rintro e w2 ⟨rfl, hb2⟩
    have HB2 : Hid (Below w.heap.size w w2) := Lib.hid (HB1.out.trans (hb2.mono HB1.out.size))
    rw [HP.out]
    clear hb2
    go_wp2_with fail
    go_ret3
    exact ⟨rfl, HB2.out⟩
  | true =>
    obtain ⟨i, hi1, hi2, hi3, hi4⟩ := slash_path s hp
    obtain ⟨hd, hhd⟩ : ∃ hd, s.extract 0 i = hd := ⟨_, rfl⟩
    have HE := Lib.hid (show lineV s = (hd, majN s, 0) by unfold lineV; rw [hp, hi1, ← hhd]; rfl)
    have HM := Lib.hid (show majE s = 0 by unfold majE; rw [hp]; rfl)
    have HL := Lib.hid (fun W => LastSlash_any s W hs)
    rw [hi1] at HL
    rw [HE.out]
    have HP := Lib.hid hp
    have HH := Lib.hid hhd
    have g1 : (0 : Int) ≤ (i : Int) := by omega
    have g2 : (i : Int) ≤ s.size := by omega
    have g3 : i ≤ s.size := by omega
    clear hp hi1 hi3 hi4 hhd
    go_enter Tryd.func15, Tryd.ntmps15
    go_wp2_with fail
    refine (Major_any s w hs hm).mono ?_
    rintro e w1 ⟨rfl, hb1⟩
    rw [HM.out]
    have hm1 := hm.below hb1 hm.pos
    have HB1 := Lib.hid hb1
    clear hb1
    go_wp2_with fail
    refine (IsPath_any s w1 hs hm1).mono ?_
    rintro e w2 ⟨rfl, hb2⟩
    have HB2 : Hid (Below w.heap.size w w2) := Lib.hid (HB1.out.trans (hb2.mono HB1.out.size))
    rw [HP.out]
    clear hb2
    go_wp2_with fail
    (with_reducible refine (HL.out _).mono ?_)
    rintro e w3 ⟨rfl, rfl⟩
    go_wp2_with fail
    go_ret3
    exact ⟨by rw [← HH.out]; rfl, HB2.out⟩
/-- the path of a line, and the error. -/
def pathB (s : ByteArray) (m : Int) : ByteArray := s ++ ⟨#[47, 118]⟩ ++ ⟨(decL m).toArray⟩
def pathV (s : ByteArray) (m : Int) : ByteArray × Int := if partB m = true then if pathOk (pathB s m) = true then (pathB s m, 0) else (⟨#[]⟩, 4) else (⟨#[]⟩, 2)
theorem size_app (x y : ByteArray) : (x ++ y).size = x.size + y.size := by
  rw [Lib.size_eq, ByteArray.data_append, Array.toList_append, List.length_append, ← Lib.size_eq, ← Lib.size_eq]
theorem pathB_size (s : ByteArray) (m : Int) (h : m ≤ 999) : (pathB s m).size ≤ s.size + 5 := by
  unfold pathB
  rw [size_app, size_app]
  have h1 : (⟨#[47, 118]⟩ : ByteArray).size = 2 := rfl
  have h2 : (⟨(decL m).toArray⟩ : ByteArray).size = (decL m).length := by rw [Lib.size_eq]
  have := decL_len m h
  omega

set_option maxRecDepth 100000 in
set_option maxHeartbeats 4000000 in
theorem Path_any (s : ByteArray) (m : Int) (w : World) (hs : s.size ≤ 900000) (hm : MaxOk w) (ht : TabOk w) : Calls Tryd.prog 16 #[.string s, .int .i64 m] w fun e w' =>
    e = .returned (.tuple #[.string (pathV s m).1, .int .i64 (pathV s m).2]) ∧ Below w.heap.size w w' := by
  cases hp : partB m with
  | false =>
    have HE := Lib.hid (show pathV s m = (⟨#[]⟩, 2) by unfold pathV; rw [hp]; rfl)
    rw [HE.out]
    rcases part_no hp with h1 | ⟨h1, h2⟩
    all_goals
      clear hp
      go_enter Tryd.func16, Tryd.ntmps16
      go_wp2_with fail
      go_ret2
      exact ⟨rfl, Below.refl _ _⟩
  | true =>
    obtain ⟨h1, h2⟩ := part_yes hp
    have hz := pathB_size s m (by omega)
    obtain ⟨p, hpp⟩ : ∃ p, pathB s m = p := ⟨_, rfl⟩
    have HE := Lib.hid (show pathV s m = if pathOk p = true then (p, 0) else (⟨#[]⟩, 4) by unfold pathV; rw [hp, hpp]; rfl)
    have HI := Lib.hid (Itoa_any m w (by omega) (by omega) ht)
    obtain ⟨dm, hdm⟩ : ∃ dm : ByteArray, (⟨(decL m).toArray⟩ : ByteArray) = dm := ⟨_, rfl⟩
    have hdl : dm.size ≤ 3 := by rw [← hdm, Lib.size_eq]; exact decL_len m (by omega)
    rw [hdm] at HI
    have HPP : Hid (s ++ ⟨#[47, 118]⟩ ++ dm = p) := Lib.hid (by rw [← hpp, ← hdm]; rfl)
    rw [hpp] at hz
    have ha0 : (s ++ (⟨#[47, 118]⟩ : ByteArray)).size = s.size + 2 := by rw [size_app]; rfl
    have hno1 : ¬ 9223372036854775807 < s.size + (⟨#[47, 118]⟩ : ByteArray).size := by have : (⟨#[47, 118]⟩ : ByteArray).size = 2 := rfl; omega
    have hno2 : ¬ 9223372036854775807 < s.size + 2 := by omega
    have hno3 : ¬ 9223372036854775807 < (s ++ (⟨#[47, 118]⟩ : ByteArray)).size + dm.size := by omega
    have hno4 : ¬ 9223372036854775807 < s.size + 2 + dm.size := by omega
    have hno5 : ¬ 9223372036854775805 < s.size := by omega
    have HPT := Lib.hid (fun W (h : MaxOk W) => IsPath_any p W (by omega) h)
    clear hp hpp hdm ha0
    cases hq : pathOk p with
    | false =>
      have HEE := Lib.hid (show pathV s m = (⟨#[]⟩, 4) by rw [HE.out, hq]; rfl)
      rw [HEE.out]
      rw [hq] at HPT
      clear hq
      go_enter Tryd.func16, Tryd.ntmps16
      go_wp2_with fail
      (with_reducible refine HI.out.mono ?_)
      rintro e w1 ⟨rfl, hb1⟩
      have hm1 := hm.below hb1 hm.pos
      have HB1 := Lib.hid hb1
      clear hb1
      go_wp2_with fail
      rw [HPP.out]
      (with_reducible refine (HPT.out _ hm1).mono ?_)
      rintro e w2 ⟨rfl, hb2⟩
      have HB2 : Hid (Below w.heap.size w w2) := Lib.hid (HB1.out.trans (hb2.mono HB1.out.size))
      clear hb2
      go_wp2_with fail
      go_ret2
      exact ⟨rfl, HB2.out⟩
    | true =>
      have HEE := Lib.hid (show pathV s m = (p, 0) by rw [HE.out, hq]; rfl)
      rw [HEE.out]
      rw [hq] at HPT
      clear hq
      go_enter Tryd.func16, Tryd.ntmps16
      go_wp2_with fail
      (with_reducible refine HI.out.mono ?_)
      rintro e w1 ⟨rfl, hb1⟩
      have hm1 := hm.below hb1 hm.pos
      have HB1 := Lib.hid hb1
      clear hb1
      go_wp2_with fail
      rw [HPP.out]
      (with_reducible refine (HPT.out _ hm1).mono ?_)
      rintro e w2 ⟨rfl, hb2⟩
      have HB2 : Hid (Below w.heap.size w w2) := Lib.hid (HB1.out.trans (hb2.mono HB1.out.size))
      clear hb2
      go_wp2_with fail
      go_ret2
      exact ⟨rfl, HB2.out⟩
end Go.Proofs.YtbpgbbdebhmlkaaDoor
