/- The law MvsMerges returns true. -/
import Derived.Test.YtenfkejbndifdaaGreatDoorVM
namespace Go.Proofs.YtenfkejbndifdaaGreatDoor
set_option linter.unusedVariables false
set_option linter.unusedSimpArgs false
open Go Go.RowKit

theorem mergeV_bd {ls : List (List ReqL)} : (mergeV ls).1.length ≤ 1000000 ∧ ∀ q ∈ (mergeV ls).1, q.2.length ≤ 1000000 := by
  have key : (mergeV ls).1 = [] ∨ (mergeV ls).2 = 0 := by
    unfold mergeV
    split
    · exact .inl rfl
    · split
      · exact .inl rfl
      · exact .inr rfl
  rcases key with h | h
  · rw [h]; exact ⟨Nat.zero_le _, fun q hq => by cases hq⟩
  · have h2 : mergeV ls = ((mergeV ls).1, 0) := Prod.ext rfl h
    obtain ⟨hu, _, _⟩ := merge_up h2
    exact ⟨by have := (reqs_ok hu.1).len; omega, fun q hq => by have := good_len (hu.q hq).good; omega⟩
theorem reduceV_bd {X : List RelL} {s : List SelL} : (reduceV X s).1.length ≤ 1000000 ∧ ∀ q ∈ (reduceV X s).1, q.2.length ≤ 1000000 := by
  have key : (reduceV X s).1 = [] ∨ ((reduceV X s).1 = redStep (givesB X s) s.length (ownL s) ∧ s.length ≤ 16) := by
    unfold reduceV
    split
    · exact .inl rfl
    · rename_i h1
      split
      · exact .inl rfl
      · split
        · exact .inl rfl
        · split
          · exact .inl rfl
          · exact .inr ⟨rfl, Nat.le_of_not_lt fun h => h1 (.inr (.inl h))⟩
  rcases key with h | ⟨h, h16⟩
  · rw [h]; exact ⟨Nat.zero_le _, fun q hq => by cases hq⟩
  · rw [h]
    have hs := redStep_sub (givesB X s) s.length (ownL s)
    have hl := hs.length_le
    have hol : (ownL s).length = s.length := by unfold ownL; rw [List.length_map]
    refine ⟨by omega, fun q hq => ?_⟩
    have hm := hs.subset hq
    unfold ownL at hm
    obtain ⟨y, _, rfl⟩ := List.mem_map.1 hm
    show ([(plc y.2, 1000000)] : List (Int × Int)).length ≤ 1000000
    simp
set_option maxRecDepth 100000 in
set_option maxHeartbeats 16000000 in
theorem MvsMerges_any (lv : Value) (ls : List (List ReqL)) (a : Option Addr) (c : Nat) (iv : Value) (X : List RelL) (sv : Value) (s : List SelL) (w : World) (hm : MaxOk w) (hL : ListsOf w.heap.size lv ls w ∧ ls.length ≤ maxLen ∧ ∀ l ∈ ls, l.length ≤ maxLen)
    (h0 : RelsOf w.heap.size (.slice a X.length c) X w ∧ X.length ≤ maxLen ∧ ∀ x ∈ X, x.reqs.length ≤ maxLen) (h1 : SelsOf w.heap.size sv s w ∧ s.length ≤ maxLen ∧ ∀ y ∈ s, SelBd y) :
    Calls Tryz.prog 6 #[lv, .agg #[.slice a X.length c, iv], sv] w fun e w' => e = .returned (.bool true) ∧ Below w.heap.size w w' := by
  obtain ⟨hL, hll, hlm⟩ := hL
  obtain ⟨hR, hX, hXr⟩ := h0
  obtain ⟨hS, hsl, hsb⟩ := h1
  have HM := Lib.hid hm
  have HR := Lib.hid hR
  have HL := Lib.hid hL
  have HS := Lib.hid hS
  have HSB := Lib.hid hsb
  obtain ⟨la, lc, rfl⟩ : ∃ la lc, lv = .slice la ls.length lc := by obtain ⟨a, c, e, _⟩ := hL; exact ⟨a, c, e⟩
  obtain ⟨sa, sc, rfl⟩ : ∃ la lc, sv = .slice la s.length lc := by obtain ⟨a, c, e, _⟩ := hS; exact ⟨a, c, e⟩
  have HAW := Lib.hid (fun W (hb : RowKit.Below w.heap.size w W) => awake34_any W (hm.below hb hm.pos))
  have HFEW := Lib.hid (fun W (hb : RowKit.Below w.heap.size w W) => few34_any a c iv (.slice none 0 0) X [] W hX hXr (hR.on hb) (by simp) ⟨_, _, rfl, fun i q hq => by simp at hq⟩)
  have HCF := Lib.hid (fun W (hb : RowKit.Below w.heap.size w W) (h5 : ls.length ≤ 1000000000) => has_lst 26 #[] (enters_of Tryz.func26 (by kernel_rfl) rfl) FewQ (.slice la ls.length lc) ls W h5 (hL.on hb) (fewL_pred ls W (fun x hx => Nat.le_trans (hlm x hx) (by decide))))
  clear hm hR hL hS hsb
  have HB0 := Lib.hid (LawB.start w (.slice a X.length c) iv)
  go_enter Tryz.func6, Tryz.ntmps6
  go_upto_region 1 with fail
  generalize w.alloc (.cells #[.slice a X.length c, iv] 25) = W at *
  go_wp2_with fail
  refine (HAW.out _ HB0.out.bel).mono ?_
  rintro e w1 ⟨rfl, hb1⟩
  have HB1 := Lib.hid (HB0.out.below hb1)
  clear hb1 HAW
  by_cases h5 : 5 < ls.length
  case pos =>
    have e1 : decide ((5 : Int) < (ls.length : Int)) = true := decide_eq_true (by omega)
    have e2 : decide (5 < ls.length) = true := decide_eq_true h5
    go_wp2_with fail
    go_ret
    exact ⟨rfl, HB1.out.bel⟩
  have e1 : decide ((5 : Int) < (ls.length : Int)) = false := decide_eq_false (by omega)
  have e2 : decide (5 < ls.length) = false := decide_eq_false h5
  have c0 := HB1.out.c0
  have c1 := HB1.out.c1
  go_wp2_with fail
  refine (HFEW.out _ HB1.out.bel).mono ?_
  rintro e w2 ⟨fb, rfl, hfb, hb2⟩
  have HB2 := Lib.hid (HB1.out.below hb2)
  have HFB := Lib.hid hfb
  clear hb2 hfb HFEW c0 c1
  cases fb with
  | false =>
    go_wp2_with fail
    go_ret
    exact ⟨rfl, HB2.out.bel⟩
  | true =>
  by_cases h20 : 20 < s.length
  case pos =>
    have e3 : decide ((20 : Int) < (s.length : Int)) = true := decide_eq_true (by omega)
    have e4 : decide (20 < s.length) = true := decide_eq_true h20
    go_wp2_with fail
    go_ret
    exact ⟨rfl, HB2.out.bel⟩
  have e3 : decide ((20 : Int) < (s.length : Int)) = false := decide_eq_false (by omega)
  have e4 : decide (20 < s.length) = false := decide_eq_false h20
  have HCC := Lib.hid (HCF.out w2 HB2.out.bel (by omega))
  clear HCF
  go_wp2_with fail
  refine HCC.out.mono ?_
  rintro e w3 ⟨bc, rfl, hbc, hb3⟩
  have HB3 := Lib.hid (HB2.out.below hb3)
  have HBC := Lib.hid hbc
  clear hb3 hbc HCC
  cases bc with
  | true =>
    go_wp2_with fail
    go_ret
    exact ⟨rfl, HB3.out.bel⟩
  | false =>
  have HLB : Hid (∀ l ∈ ls, l.length ≤ 1000000 ∧ ReqsBd l) := Lib.hid (fun l hl => by
    have h := HBC.out (by trivial) l hl
    exact ⟨by have := h.len; omega, h.bd⟩)
  have HRB := Lib.hid (HFB.out (by trivial)).1.bd
  have hX2 : X.length ≤ 20 := (HFB.out (by trivial)).1.len
  have HM1 := Lib.hid (fun W (hb : RowKit.Below w.heap.size w W) => Merge_any (.slice la ls.length lc) ls W (HM.out.below hb HM.out.pos) (by omega) HLB.out (HL.out.on hb))
  have HM2 := Lib.hid (fun W (hb : RowKit.Below w.heap.size w W) => rMerge_any (.slice la ls.length lc) ls W (by omega) HLB.out (HL.out.on hb))
  have HD1 := Lib.hid (fun W (hb : RowKit.Below w.heap.size w W) => Reduce_any (.slice a X.length c) iv (.slice sa s.length sc) X s W (HM.out.below hb HM.out.pos) (by omega) HRB.out (HR.out.on hb) (by omega) HSB.out (HS.out.on hb))
  have HD2 := Lib.hid (fun W (hb : RowKit.Below w.heap.size w W) => rReduce_any (.slice a X.length c) iv (.slice sa s.length sc) X s W (by omega) HRB.out (HR.out.on hb) (by omega) (HS.out.on hb))
  have HMB := Lib.hid (@mergeV_bd ls)
  have HDB := Lib.hid (@reduceV_bd X s)
  unfold MergeR at HM1
  unfold MergeRr at HM2
  unfold ReduceR at HD1
  unfold ReduceRr at HD2
  generalize mergeV ls = MV at *
  generalize reduceV X s = DV at *
  obtain ⟨m, E⟩ := MV
  obtain ⟨d, F⟩ := DV
  simp only at HM1 HM2 HD1 HD2 HMB HDB
  clear HFB HBC HLB h5 h20 e1 e2 e3 e4
  have c0 := HB3.out.c0
  have c1 := HB3.out.c1
  go_wp2_with fail
  refine (HM1.out _ HB3.out.bel).mono ?_
  rintro e w4 ⟨hb, v4, rfl, hl4, _⟩
  have HB4 := Lib.hid (HB3.out.below hb)
  have HV4 := Lib.hid hl4
  obtain ⟨a4, c4c, rfl⟩ : ∃ x y, v4 = .slice x m.length y := by obtain ⟨x, y, e, _⟩ := hl4; exact ⟨x, y, e⟩
  clear hb hl4 c0 c1 HM1
  have c0 := HB4.out.c0
  have c1 := HB4.out.c1
  go_wp2_with fail
  refine (HM2.out _ HB4.out.bel).mono ?_
  rintro e w5 ⟨hb, v5, rfl, hl5⟩
  have HB5 := Lib.hid (HB4.out.below hb)
  have HV4 := Lib.hid (HV4.out.on hb)
  have HV5 := Lib.hid hl5
  obtain ⟨a5, c5c, rfl⟩ : ∃ x y, v5 = .slice x m.length y := by obtain ⟨x, y, e, _⟩ := hl5; exact ⟨x, y, e⟩
  clear hb hl5 c0 c1 HM2
  have c0 := HB5.out.c0
  have c1 := HB5.out.c1
  go_wp2_with fail
  refine (HD1.out _ HB5.out.bel).mono ?_
  rintro e w6 ⟨hb, v6, rfl, hl6, _⟩
  have HB6 := Lib.hid (HB5.out.below hb)
  have HV4 := Lib.hid (HV4.out.on hb)
  have HV5 := Lib.hid (HV5.out.on hb)
  have HV6 := Lib.hid hl6
  obtain ⟨a6, c6c, rfl⟩ : ∃ x y, v6 = .slice x d.length y := by obtain ⟨x, y, e, _⟩ := hl6; exact ⟨x, y, e⟩
  clear hb hl6 c0 c1 HD1
  have c0 := HB6.out.c0
  have c1 := HB6.out.c1
  go_wp2_with fail
  refine (HD2.out _ HB6.out.bel).mono ?_
  rintro e w7 ⟨hb, v7, rfl, hl7⟩
  have HB7 := Lib.hid (HB6.out.below hb)
  have HV4 := Lib.hid (HV4.out.on hb)
  have HV5 := Lib.hid (HV5.out.on hb)
  have HV6 := Lib.hid (HV6.out.on hb)
  have HV7 := Lib.hid hl7
  obtain ⟨a7, c7c, rfl⟩ : ∃ x y, v7 = .slice x d.length y := by obtain ⟨x, y, e, _⟩ := hl7; exact ⟨x, y, e⟩
  clear hb hl7 c0 c1 HD2
  have HQ1 := Lib.hid (fun W (hb : Below w7.heap.size w7 W) => sameReqs_any (.slice a4 m.length c4c) (.slice a5 m.length c5c) m m W HMB.out.1 HMB.out.1 HMB.out.2 HMB.out.2 (HV4.out.on hb) (HV5.out.on hb))
  have HQ2 := Lib.hid (fun W (hb : Below w7.heap.size w7 W) => sameReqs_any (.slice a6 d.length c6c) (.slice a7 d.length c7c) d d W HDB.out.1 HDB.out.1 HDB.out.2 HDB.out.2 (HV6.out.on hb) (HV7.out.on hb))
  simp only [decide_true] at HQ1 HQ2
  go_wp2_with fail
  refine (HQ1.out _ (Below.refl _ _)).mono ?_
  rintro e w8 ⟨rfl, hb8⟩
  have HB8 := Lib.hid (HB7.out.below hb8)
  have HQ3 := Lib.hid (HQ2.out _ hb8)
  clear hb8 HQ1 HQ2
  go_wp2_with fail
  refine HQ3.out.mono ?_
  rintro e w9 ⟨rfl, hb9⟩
  have HB9 := Lib.hid (HB8.out.below hb9)
  clear hb9 HQ3
  go_wp2_with fail
  go_ret
  exact ⟨rfl, HB9.out.bel⟩
end Go.Proofs.YtenfkejbndifdaaGreatDoor
