/- Contract of the constraint's reader: span. -/
import Derived.Test.YtdhihdiifgcfdaaGreatDoorCRead
import Derived.Maps.Range
namespace Go.Proofs.YtdhihdiifgcfdaaGreatDoor
set_option linter.unusedVariables false
set_option linter.unusedSimpArgs false
open Go Go.RowKit

theorem pre_yes {l : List UInt8} {c : UInt8} (h : l.head? = some c) : Lib.hasPrefix l [c] = true ∧ Lib.trimPrefix l [c] = l.tail := by
  cases l with
  | nil => cases h
  | cons x r =>
    have : x = c := by simpa using h
    subst this
    have h1 : Lib.hasPrefix (x :: r) [x] = true := by simp [Lib.hasPrefix]
    exact ⟨h1, by unfold Lib.trimPrefix; rw [if_pos h1]; rfl⟩
theorem pre_no {l : List UInt8} {c : UInt8} (h : l.head? ≠ some c) : Lib.hasPrefix l [c] = false ∧ Lib.trimPrefix l [c] = l := by
  have h1 : Lib.hasPrefix l [c] = false := by
    cases l with
    | nil => simp [Lib.hasPrefix]
    | cons x r =>
      have : ¬ c = x := fun e => h (by simp [e])
      simp [Lib.hasPrefix, List.isPrefixOf, this]
  exact ⟨h1, by unfold Lib.trimPrefix; rw [h1]; rfl⟩
theorem MaxOk.setO {w : World} (h : MaxOk w) {B : Nat} (hB : 0 < B) (j : Nat) (u : Value) : MaxOk (w.setCell ⟨B, j, none⟩ u) := by
  obtain ⟨k, hk⟩ := h
  exact ⟨k, (World.cell?_of_block (a := ⟨0, 0, none⟩) (Below.heap_setCell w ⟨B, j, none⟩ u 0 (by show 0 ≠ B; omega))).trans hk⟩
theorem MaxOk.grown {w w' : World} {R : Nat} {m : Int} {sy ot : Bool} (h : MaxOk w) (hg : w.grownBy w' (some R)) (hR : RdrAt w' R m sy ot) : MaxOk w' := by
  have hp := h.pos
  by_cases hr : R = 0
  · subst hr
    exact ⟨m, hR.cells.1⟩
  · obtain ⟨k, hk⟩ := h
    exact ⟨k, hg.cell hk (by simp; omega)⟩
theorem RdrAt.setO {W : World} {R : Nat} {m : Int} {sy ot : Bool} (h : RdrAt W R m sy ot) {B : Nat} (j : Nat) (hB : R ≠ B) (u : Value) : RdrAt (W.setCell ⟨B, j, none⟩ u) R m sy ot :=
  (Below.heap_setCell W ⟨B, j, none⟩ u R hB).trans h
theorem gbN {w w1 : World} {row : Option Nat} (h : w.grownBy w1 row) {B : Nat} (hB : w.heap.size ≤ B) (j : Nat) (u : Value) : w.grownBy (w1.setCell ⟨B, j, none⟩ u) row :=
  ⟨h.os, h.tape, h.output, by simpa [World.setCell] using h.size, fun i hi hne => (Below.heap_setCell w1 _ u i (by show i ≠ B; omega)).trans (h.block i hi hne)⟩
theorem str_mk (l : List UInt8) : (⟨l.toArray⟩ : ByteArray).data.toList = l := by simp
theorem str_size (l : List UInt8) : (⟨l.toArray⟩ : ByteArray).size = l.length := by rw [Lib.size_eq, str_mk]
theorem str_empty {f : ByteArray} (h : f.data.toList = []) : f.toList = [] ∧ f.toList.isEmpty = true := by rw [ByteArray.toList_eq, h]; exact ⟨rfl, rfl⟩
theorem str_full {f : ByteArray} (h : f.data.toList ≠ []) : f.toList ≠ [] ∧ f.toList.isEmpty = false := by
  rw [ByteArray.toList_eq]
  exact ⟨h, by cases hf : f.data.toList with | nil => exact absurd hf h | cons x r => rfl⟩
/-- a box of two cells. -/
theorem box2 {W : World} {B t : Nat} {x y : Value} (h : W.heap[B]? = some (.cells #[x, y] t (0, 0))) : (W.cell? ⟨B, 0, none⟩ = some x ∧ W.cell? ⟨B, 1, none⟩ = some y) ∧ W.frozen? ⟨B, 0, none⟩ = false ∧ W.frozen? ⟨B, 1, none⟩ = false :=
  ⟨⟨by rw [Lib.cell_of_heap h]; rfl, by rw [Lib.cell_of_heap h]; rfl⟩, frozen_of_row W B 0 _ _ h, frozen_of_row W B 1 _ _ h⟩
theorem box2_new (W : World) (x y : Value) (t : Nat) : (W.alloc (.cells #[x, y] t)).heap[W.heap.size]? = some (.cells #[x, y] t (0, 0)) := heap_alloc_new W _
/-- what place leaves behind. -/
def PlaceR (R : Nat) (m : Int) (sy ot : Bool) (l : List UInt8) (w : World) (e : Ending) (w' : World) : Prop :=
  e = .returned (.int .i64 (plV l)) ∧ RdrAt w' R m (sy || synB l) (ot || othB m l) ∧ w.grownBy w' (some R)
/-- the world in which the two places of a span are read. -/
abbrev spanW (w : World) (R n : Nat) (b : Bool) : World := (((w.alloc (.cells #[.int .i64 0, .int .i64 0] 49)).drewN n).setCell ⟨R, 1, none⟩ (.bool b)).alloc (.cells #[.int .i64 0, .int .i64 1000000] 49)
theorem spanW_ok (w : World) (R n : Nat) (m : Int) (b : Bool) (hR : RdrAt w R m false false) (hm : MaxOk w) : RdrAt (spanW w R n b) R m b false ∧ MaxOk (spanW w R n b) ∧ w.grownBy (spanW w R n b) (some R) ∧
    (spanW w R n b).heap[w.heap.size]? = some (.cells #[.int .i64 0, .int .i64 0] 49 (0, 0)) ∧ (spanW w R n b).heap[w.heap.size + 1]? = some (.cells #[.int .i64 0, .int .i64 1000000] 49 (0, 0)) ∧ w.heap.size + 1 < (spanW w R n b).heap.size := by
  have hlt := hR.lt
  have h1 : RdrAt (spanW w R n b) R m b false := (RdrAt.set1 (W := (w.alloc (.cells #[.int .i64 0, .int .i64 0] 49)).drewN n) (hR.alloc _) b).alloc _
  have h2 : w.grownBy (spanW w R n b) (some R) := gbA (gbS (gbDN (gbA (World.grownBy.refl w (some R)) _) n) 1 _) _
  have hs : (((w.alloc (.cells #[.int .i64 0, .int .i64 0] 49)).drewN n).setCell ⟨R, 1, none⟩ (.bool b)).heap.size = w.heap.size + 1 := by
    rw [World.size_setCell]
    show (w.alloc _).heap.size = _
    simp
  refine ⟨h1, hm.grown h2 h1, h2, ?_, ?_, ?_⟩
  · rw [Below.heap_alloc _ _ _ (by rw [hs]; omega), Below.heap_setCell _ _ _ _ (by show _ ≠ R; omega)]
    exact box2_new w _ _ _
  · rw [← hs]
    exact box2_new _ _ _ _
  · rw [World.size_alloc, hs]; omega
set_option maxRecDepth 100000 in
set_option maxHeartbeats 16000000 in
theorem span_any (R : Nat) (m : Int) (s : ByteArray) (w : World) (hs : s.size ≤ 1000000) (hm : MaxOk w) (hR : RdrAt w R m false false) :
    Calls Tryz.prog 51 #[.pointer (some ⟨R, 0, none⟩), .string s] w fun e w' => e = .returned (.agg #[.int .i64 (spanP m s.data.toList).1.1, .int .i64 (spanP m s.data.toList).1.2]) ∧ RdrAt w' R m (spanP m s.data.toList).2.1 (spanP m s.data.toList).2.2 ∧ w.grownBy w' (some R) := by
  obtain ⟨r, hr⟩ : ∃ r, spanP m s.data.toList = r := ⟨_, rfl⟩
  rw [hr]
  have HP : Hid (∀ (f : ByteArray) (W : World) (sy ot : Bool), f.size ≤ 1000000 → MaxOk W → RdrAt W R m sy ot → Calls Tryz.prog 82 #[.pointer (some ⟨R, 0, none⟩), .string f] W (PlaceR R m sy ot f.data.toList W)) := Lib.hid (fun f W sy ot h1 h2 h3 => place_any R m sy ot f W h1 h2 h3)
  have HR0 := Lib.hid (hR.alloc (.cells #[.int .i64 0, .int .i64 0] 49))
  have HM0 := Lib.hid (hm.alloc (.cells #[.int .i64 0, .int .i64 0] 49))
  have HG0 := Lib.hid (gbA (World.grownBy.refl w (some R)) (.cells #[.int .i64 0, .int .i64 0] 49))
  have HT1 := Lib.hid (fun W => Tryz.strings_CutPrefix s ⟨#[94]⟩ W)
  have HT2 := Lib.hid (fun W => Tryz.strings_CutPrefix s ⟨#[126]⟩ W)
  have hlt := hR.lt
  have hne : R ≠ w.heap.size := by omega
  have hne2 : R ≠ w.heap.size + 1 := by omega
  have HSW := Lib.hid (fun n b => spanW_ok w R n m b hR hm)
  clear hR hm
  change Hid (∀ W, Calls _ _ _ W fun e w' => e = .returned (.tuple #[.string ⟨(Lib.trimPrefix s.data.toList [94]).toArray⟩, .bool (Lib.hasPrefix s.data.toList [94])]) ∧ w' = W) at HT1
  change Hid (∀ W, Calls _ _ _ W fun e w' => e = .returned (.tuple #[.string ⟨(Lib.trimPrefix s.data.toList [126]).toArray⟩, .bool (Lib.hasPrefix s.data.toList [126])]) ∧ w' = W) at HT2
  by_cases h1 : s.data.toList.head? = some 94
  · obtain ⟨e1, e2⟩ := pre_yes h1
    rw [e1, e2] at HT1
    have HE := Lib.hid (show ((plV s.data.toList.tail, 1000000), synB s.data.toList.tail, othB m s.data.toList.tail) = r by rw [← hr]; unfold spanP; rw [if_pos h1])
    obtain ⟨f, hf⟩ : ∃ f : ByteArray, ⟨s.data.toList.tail.toArray⟩ = f := ⟨_, rfl⟩
    have hfl : s.data.toList.tail = f.data.toList := by rw [← hf]
    have hfs : f.size ≤ 1000000 := by rw [Lib.size_eq, ← hfl, List.length_tail, ← Lib.size_eq]; omega
    rw [hf] at HT1
    rw [hfl] at HE
    clear hr h1 e1 e2 hf hfl HT2
    have HP1 := Lib.hid (HP.out f _ _ _ hfs HM0.out HR0.out)
    rw [← HE.out]
    clear HE
    go_enter Tryz.func51, Tryz.ntmps51
    go_wp2_with fail
    (with_reducible refine (HT1.out _).mono ?_)
    rintro e w1 ⟨rfl, rfl⟩
    go_wp2_with fail
    (with_reducible refine HP1.out.mono ?_)
    rintro e w2 ⟨rfl, hR2, hg2⟩
    obtain ⟨⟨c0, c1⟩, f0, f1⟩ := box2 ((hg2.block w.heap.size (by simp) (by simp; omega)).trans (box2_new w (.int .i64 0) (.int .i64 0) 49))
    have HR2 := Lib.hid hR2
    have HG2 := Lib.hid (HG0.out.andThen hg2 (fun j hj => by cases hj; exact .inr rfl))
    clear hR2 hg2
    go_wp2_with fail
    refine bodyPost_ret (v := .agg #[.int .i64 (plV f.data.toList), .int .i64 1000000]) (by simp [results, Tryz.results51, go_sem, c0, c1]) rfl ⟨rfl, ?_, ?_⟩
    · exact (HR2.out.setO _ hne _).setO _ hne _
    · exact gbN (gbN HG2.out (Nat.le_refl _) _ _) (Nat.le_refl _) _ _
  · obtain ⟨e1, e2⟩ := pre_no h1
    rw [e1, e2] at HT1
    have hsm : (⟨s.data.toList.toArray⟩ : ByteArray) = s := Lib.mk_data s
    rw [hsm] at HT1
    by_cases h2 : s.data.toList.head? = some 126
    · obtain ⟨e3, e4⟩ := pre_yes h2
      rw [e3, e4] at HT2
      have HE := Lib.hid (show ((plV s.data.toList.tail, plV s.data.toList.tail / 1000 * 1000 + 1000), synB s.data.toList.tail, othB m s.data.toList.tail) = r by rw [← hr]; unfold spanP; rw [if_neg h1, if_pos h2])
      obtain ⟨f, hf⟩ : ∃ f : ByteArray, ⟨s.data.toList.tail.toArray⟩ = f := ⟨_, rfl⟩
      have hfl : s.data.toList.tail = f.data.toList := by rw [← hf]
      have hfs : f.size ≤ 1000000 := by rw [Lib.size_eq, ← hfl, List.length_tail, ← Lib.size_eq]; omega
      rw [hf] at HT2
      rw [hfl] at HE
      clear hr h1 h2 e1 e2 e3 e4 hf hfl hsm
      have HP1 := Lib.hid (HP.out f _ _ _ hfs HM0.out HR0.out)
      have hbd := plV_bd f.data.toList
      rw [← HE.out]
      clear HE
      go_enter Tryz.func51, Tryz.ntmps51
      go_wp2_with fail
      (with_reducible refine (HT1.out _).mono ?_)
      rintro e w1 ⟨rfl, rfl⟩
      go_wp2_with fail
      (with_reducible refine (HT2.out _).mono ?_)
      rintro e w1 ⟨rfl, rfl⟩
      go_wp2_with fail
      (with_reducible refine HP1.out.mono ?_)
      rintro e w2 ⟨rfl, hR2, hg2⟩
      obtain ⟨⟨c0, c1⟩, f0, f1⟩ := box2 ((hg2.block w.heap.size (by simp) (by simp; omega)).trans (box2_new w (.int .i64 0) (.int .i64 0) 49))
      have HR2 := Lib.hid hR2
      have HG2 := Lib.hid (HG0.out.andThen hg2 (fun j hj => by cases hj; exact .inr rfl))
      clear hR2 hg2
      obtain ⟨hq0, hq1⟩ := hbd
      go_wp2_with fail
      refine bodyPost_ret (v := .agg #[.int .i64 (plV f.data.toList), .int .i64 (plV f.data.toList / 1000 * 1000 + 1000)]) (by simp [results, Tryz.results51, go_sem, c0, c1]) rfl ⟨rfl, ?_, ?_⟩
      · exact (HR2.out.setO _ hne _).setO _ hne _
      · exact gbN (gbN HG2.out (Nat.le_refl _) _ _) (Nat.le_refl _) _ _
    · obtain ⟨e3, e4⟩ := pre_no h2
      rw [e3, e4, hsm] at HT2
      have HCU : Hid (∀ W, MaxOk W → Calls Tryz.prog 83 #[.string s, .string ⟨#[46, 46]⟩] W fun e w' => e = .returned (.tuple #[.string ⟨(Lib.cut s.data.toList [46, 46]).1.toArray⟩, .string ⟨(Lib.cut s.data.toList [46, 46]).2.1.toArray⟩, .bool (Lib.cut s.data.toList [46, 46]).2.2]) ∧ ∃ n, w' = W.drewN n) := Lib.hid (fun W hW => by
        obtain ⟨k, hk⟩ := hW
        exact Tryz.strings_Cut s ⟨#[46, 46]⟩ k W (by omega) hk)
      by_cases h3 : 0 ≤ Lib.index s.data.toList [46, 46]
      · have hcut : Lib.cut s.data.toList [46, 46] = (s.data.toList.take (Lib.index s.data.toList [46, 46]).toNat, s.data.toList.drop ((Lib.index s.data.toList [46, 46]).toNat + 2), true) := by unfold Lib.cut; rw [if_pos h3]; rfl
        rw [hcut] at HCU
        simp only at HCU
        obtain ⟨fa, hfa⟩ : ∃ f : ByteArray, ⟨(s.data.toList.take (Lib.index s.data.toList [46, 46]).toNat).toArray⟩ = f := ⟨_, rfl⟩
        obtain ⟨fb, hfb⟩ : ∃ f : ByteArray, ⟨(s.data.toList.drop ((Lib.index s.data.toList [46, 46]).toNat + 2)).toArray⟩ = f := ⟨_, rfl⟩
        have hal : s.data.toList.take (Lib.index s.data.toList [46, 46]).toNat = fa.data.toList := by rw [← hfa]
        have hbl : s.data.toList.drop ((Lib.index s.data.toList [46, 46]).toNat + 2) = fb.data.toList := by rw [← hfb]
        have has : fa.size ≤ 1000000 := by rw [Lib.size_eq, ← hal, List.length_take]; have := Lib.size_eq s; omega
        have hbs : fb.size ≤ 1000000 := by rw [Lib.size_eq, ← hbl, List.length_drop]; have := Lib.size_eq s; omega
        rw [hfa, hfb] at HCU
        have HE0 : Hid (spanP m s.data.toList = r) := Lib.hid hr
        have HE := Lib.hid (show ((if fa.data.toList = [] then 0 else plV fa.data.toList, if fb.data.toList = [] then 1000000 else plV fb.data.toList),
            (decide (fa.data.toList = []) && decide (fb.data.toList = [])) || ((!decide (fa.data.toList = []) && synB fa.data.toList) || (!decide (fb.data.toList = []) && synB fb.data.toList)), (!decide (fa.data.toList = []) && othB m fa.data.toList) || (!decide (fb.data.toList = []) && othB m fb.data.toList)) = r by
          rw [← hr]; unfold spanP; rw [if_neg h1, if_neg h2, if_pos h3]; simp only [hal, hbl])
        clear hr h1 h2 h3 e1 e2 e3 e4 hsm hcut hfa hfb hal hbl HE0
        rw [← HE.out]
        clear HE
        have hR1 := HR0.out
        obtain ⟨r0, r1, r2⟩ := hR1.cells
        have rf1 := hR1.free 1
        by_cases ha : fa.data.toList = []
        · obtain ⟨a1, a2⟩ := str_empty ha
          by_cases hb : fb.data.toList = []
          · obtain ⟨b1, b2⟩ := str_empty hb
            rw [ha, hb]
            show Calls _ _ _ _ fun e w' => e = .returned (.agg #[.int .i64 0, .int .i64 1000000]) ∧ RdrAt w' R m true false ∧ _
            clear ha hb
            go_enter Tryz.func51, Tryz.ntmps51
            go_wp2_with fail
            (with_reducible refine (HT1.out _).mono ?_)
            rintro e w1 ⟨rfl, rfl⟩
            go_wp2_with fail
            (with_reducible refine (HT2.out _).mono ?_)
            rintro e w1 ⟨rfl, rfl⟩
            go_wp2_with fail
            (with_reducible refine (HCU.out _ HM0.out).mono ?_)
            rintro e w1 ⟨rfl, n, rfl⟩
            go_wp2_with fail
            obtain ⟨k1, k2, k3, k4, k5, k6⟩ := HSW.out n true
            refine bodyPost_ret (v := .agg #[.int .i64 0, .int .i64 1000000]) (by simp [results, Tryz.results51, go_sem, r1]) rfl ⟨rfl, ?_, ?_⟩
            · exact (((RdrAt.set1 (W := (w.alloc (.cells #[.int .i64 0, .int .i64 0] 49)).drewN n) HR0.out true).setO _ hne _).setO _ hne _).alloc _
            · exact gbA (gbN (gbN (gbS (gbDN HG0.out n) _ _) (Nat.le_refl _) _ _) (Nat.le_refl _) _ _) _
          · obtain ⟨b1, b2⟩ := str_full hb
            have e1 : (if fb.data.toList = [] then (1000000 : Int) else plV fb.data.toList) = plV fb.data.toList := if_neg hb
            have e2 : decide (fb.data.toList = []) = false := by simp [hb]
            rw [ha, e1, e2]
            show Calls _ _ _ _ fun e w' => e = .returned (.agg #[.int .i64 0, .int .i64 (plV fb.data.toList)]) ∧ RdrAt w' R m (synB fb.data.toList) (othB m fb.data.toList) ∧ _
            clear ha hb e1 e2
            go_enter Tryz.func51, Tryz.ntmps51
            go_wp2_with fail
            (with_reducible refine (HT1.out _).mono ?_)
            rintro e w1 ⟨rfl, rfl⟩
            go_wp2_with fail
            (with_reducible refine (HT2.out _).mono ?_)
            rintro e w1 ⟨rfl, rfl⟩
            go_wp2_with fail
            (with_reducible refine (HCU.out _ HM0.out).mono ?_)
            rintro e w1 ⟨rfl, n, rfl⟩
            go_wp2_with fail
            obtain ⟨k1, k2, k3, k4, k5, k6⟩ := HSW.out n false
            (with_reducible refine (HP.out fb _ false false hbs k2 k1).mono ?_)
            rintro e w2 ⟨rfl, hR2, hg2⟩
            obtain ⟨⟨c0, c1⟩, f0, f1⟩ := box2 ((hg2.block w.heap.size (by omega) (by simp; omega)).trans k4)
            obtain ⟨⟨d0, d1⟩, g0, g1⟩ := box2 ((hg2.block (w.heap.size + 1) k6 (by simp; omega)).trans k5)
            have HR2 := Lib.hid hR2
            have HG2 := Lib.hid (k3.andThen hg2 (fun j hj => by cases hj; exact .inr rfl))
            clear hR2 hg2 k1 k2 k3 k4 k5 k6
            go_wp2_with fail
            refine bodyPost_ret (v := .agg #[.int .i64 0, .int .i64 (plV fb.data.toList)]) (by simp [results, Tryz.results51, go_sem, c0, c1, d0, d1]) rfl ⟨rfl, ?_, ?_⟩
            · exact ((HR2.out.setO _ hne2 _).setO _ hne _).setO _ hne _
            · exact gbN (gbN (gbN HG2.out (Nat.le_add_right _ _) _ _) (Nat.le_refl _) _ _) (Nat.le_refl _) _ _
        · obtain ⟨a1, a2⟩ := str_full ha
          have e1 : (if fa.data.toList = [] then (0 : Int) else plV fa.data.toList) = plV fa.data.toList := if_neg ha
          have e2 : decide (fa.data.toList = []) = false := by simp [ha]
          rw [e1, e2]
          clear e1 e2
          by_cases hb : fb.data.toList = []
          · obtain ⟨b1, b2⟩ := str_empty hb
            rw [hb]
            show Calls _ _ _ _ fun e w' => e = .returned (.agg #[.int .i64 (plV fa.data.toList), .int .i64 1000000]) ∧ RdrAt w' R m (synB fa.data.toList || false) (othB m fa.data.toList || false) ∧ _
            rw [Bool.or_false, Bool.or_false]
            clear ha hb
            go_enter Tryz.func51, Tryz.ntmps51
            go_wp2_with fail
            (with_reducible refine (HT1.out _).mono ?_)
            rintro e w1 ⟨rfl, rfl⟩
            go_wp2_with fail
            (with_reducible refine (HT2.out _).mono ?_)
            rintro e w1 ⟨rfl, rfl⟩
            go_wp2_with fail
            (with_reducible refine (HCU.out _ HM0.out).mono ?_)
            rintro e w1 ⟨rfl, n, rfl⟩
            go_wp2_with fail
            obtain ⟨k1, k2, k3, k4, k5, k6⟩ := HSW.out n false
            (with_reducible refine (HP.out fa _ false false has k2 k1).mono ?_)
            rintro e w2 ⟨rfl, hR2, hg2⟩
            obtain ⟨⟨c0, c1⟩, f0, f1⟩ := box2 ((hg2.block w.heap.size (by omega) (by simp; omega)).trans k4)
            obtain ⟨⟨d0, d1⟩, g0, g1⟩ := box2 ((hg2.block (w.heap.size + 1) k6 (by simp; omega)).trans k5)
            have HR2 := Lib.hid hR2
            have HG2 := Lib.hid (k3.andThen hg2 (fun j hj => by cases hj; exact .inr rfl))
            clear hR2 hg2 k1 k2 k3 k4 k5 k6
            go_wp2_with fail
            refine bodyPost_ret (v := .agg #[.int .i64 (plV fa.data.toList), .int .i64 1000000]) (by simp [results, Tryz.results51, go_sem, c0, c1, d0, d1]) rfl ⟨rfl, ?_, ?_⟩
            · exact ((HR2.out.setO _ hne2 _).setO _ hne _).setO _ hne _
            · exact gbN (gbN (gbN HG2.out (Nat.le_add_right _ _) _ _) (Nat.le_refl _) _ _) (Nat.le_refl _) _ _
          · obtain ⟨b1, b2⟩ := str_full hb
            have e1 : (if fb.data.toList = [] then (1000000 : Int) else plV fb.data.toList) = plV fb.data.toList := if_neg hb
            have e2 : decide (fb.data.toList = []) = false := by simp [hb]
            rw [e1, e2]
            show Calls _ _ _ _ fun e w' => e = .returned (.agg #[.int .i64 (plV fa.data.toList), .int .i64 (plV fb.data.toList)]) ∧ RdrAt w' R m (synB fa.data.toList || synB fb.data.toList) (othB m fa.data.toList || othB m fb.data.toList) ∧ _
            clear ha hb e1 e2
            go_enter Tryz.func51, Tryz.ntmps51
            go_wp2_with fail
            (with_reducible refine (HT1.out _).mono ?_)
            rintro e w1 ⟨rfl, rfl⟩
            go_wp2_with fail
            (with_reducible refine (HT2.out _).mono ?_)
            rintro e w1 ⟨rfl, rfl⟩
            go_wp2_with fail
            (with_reducible refine (HCU.out _ HM0.out).mono ?_)
            rintro e w1 ⟨rfl, n, rfl⟩
            go_wp2_with fail
            obtain ⟨k1, k2, k3, k4, k5, k6⟩ := HSW.out n false
            (with_reducible refine (HP.out fa _ false false has k2 k1).mono ?_)
            rintro e w2 ⟨rfl, hR2, hg2⟩
            have kb := (hg2.block w.heap.size (by omega) (by simp; omega)).trans k4
            have kd := (hg2.block (w.heap.size + 1) k6 (by simp; omega)).trans k5
            obtain ⟨⟨d0, d1⟩, g0, g1⟩ := box2 kd
            have HR2 := Lib.hid (hR2.setO (B := w.heap.size + 1) 0 hne2 (.int .i64 (plV fa.data.toList)))
            have HM2 := Lib.hid (MaxOk.setO (k2.grown hg2 hR2) (B := w.heap.size + 1) (Nat.succ_pos _) 0 (.int .i64 (plV fa.data.toList)))
            have HG2 := Lib.hid (gbN (k3.andThen hg2 (fun j hj => by cases hj; exact .inr rfl)) (B := w.heap.size + 1) (Nat.le_add_right _ _) 0 (.int .i64 (plV fa.data.toList)))
            have HKB := Lib.hid ((Below.heap_setCell w2 ⟨w.heap.size + 1, 0, none⟩ (.int .i64 (plV fa.data.toList)) w.heap.size (by simp)).trans kb)
            have HKD := Lib.hid (heap_setCell_same w2 (w.heap.size + 1) 0 _ _ (.int .i64 (plV fa.data.toList)) kd)
            clear hR2 hg2 k1 k2 k3 k4 k5 k6 kb kd
            go_wp2_with fail
            (with_reducible refine (HP.out fb _ _ _ hbs HM2.out HR2.out).mono ?_)
            rintro e w4 ⟨rfl, hR4, hg4⟩
            clear d0 d1 g0 g1
            have hb1 := (Array.getElem?_eq_some_iff.1 HKB.out).1
            have hb2 := (Array.getElem?_eq_some_iff.1 HKD.out).1
            obtain ⟨⟨c0, c1⟩, f0, f1⟩ := box2 ((hg4.block w.heap.size hb1 (by simp; omega)).trans HKB.out)
            obtain ⟨⟨d0, d1⟩, g0, g1⟩ := box2 ((hg4.block (w.heap.size + 1) hb2 (by simp; omega)).trans HKD.out)
            have HR4 := Lib.hid hR4
            have HG4 := Lib.hid (HG2.out.andThen hg4 (fun j hj => by cases hj; exact .inr rfl))
            clear hR4 hg4 hb1 hb2
            go_wp2_with fail
            refine bodyPost_ret (v := .agg #[.int .i64 (plV fa.data.toList), .int .i64 (plV fb.data.toList)]) (by simp [results, Tryz.results51, go_sem, c0, c1, d0, d1]) rfl ⟨rfl, ?_, ?_⟩
            · exact ((HR4.out.setO _ hne2 _).setO _ hne _).setO _ hne _
            · exact gbN (gbN (gbN HG4.out (Nat.le_add_right _ _) _ _) (Nat.le_refl _) _ _) (Nat.le_refl _) _ _
      · have hcut : Lib.cut s.data.toList [46, 46] = (s.data.toList, [], false) := by unfold Lib.cut; rw [if_neg h3]
        rw [hcut] at HCU
        simp only [hsm] at HCU
        have HE := Lib.hid (show ((plV s.data.toList, plV s.data.toList + 1), synB s.data.toList, othB m s.data.toList) = r by rw [← hr]; unfold spanP; rw [if_neg h1, if_neg h2, if_neg h3])
        have hbd := plV_bd s.data.toList
        clear hr h1 h2 h3 e1 e2 e3 e4 hsm hcut
        rw [← HE.out]
        clear HE
        go_enter Tryz.func51, Tryz.ntmps51
        go_wp2_with fail
        (with_reducible refine (HT1.out _).mono ?_)
        rintro e w1 ⟨rfl, rfl⟩
        go_wp2_with fail
        (with_reducible refine (HT2.out _).mono ?_)
        rintro e w1 ⟨rfl, rfl⟩
        go_wp2_with fail
        (with_reducible refine (HCU.out _ HM0.out).mono ?_)
        rintro e w1 ⟨rfl, n, rfl⟩
        go_wp2_with fail
        have hRb := (HR0.out.drewN n).alloc (.cells #[.int .i64 0, .int .i64 1000000] 49)
        have hMb : MaxOk (((w.alloc (.cells #[.int .i64 0, .int .i64 0] 49)).drewN n).alloc (.cells #[.int .i64 0, .int .i64 1000000] 49)) := by
          have := HM0.out.alloc (.cells #[.int .i64 0, .int .i64 1000000] 49)
          exact this
        have HGb : Hid (w.grownBy (((w.alloc (.cells #[.int .i64 0, .int .i64 0] 49)).drewN n).alloc (.cells #[.int .i64 0, .int .i64 1000000] 49)) (some R)) := Lib.hid (gbA (gbDN HG0.out n) _)
        (with_reducible refine (HP.out s _ _ _ hs hMb hRb).mono ?_)
        rintro e w2 ⟨rfl, hR2, hg2⟩
        have hb0 : (((w.alloc (.cells #[.int .i64 0, .int .i64 0] 49)).drewN n).alloc (.cells #[.int .i64 0, .int .i64 1000000] 49)).heap[w.heap.size]? = some (.cells #[.int .i64 0, .int .i64 0] 49 (0, 0)) := by
          rw [Below.heap_alloc _ _ _ (by show _ < (w.alloc _).heap.size; simp)]
          exact box2_new w _ _ _
        obtain ⟨⟨c0, c1⟩, f0, f1⟩ := box2 ((hg2.block w.heap.size (by show _ < ((w.alloc _).drewN n |>.alloc _).heap.size; rw [World.size_alloc]; show _ < (w.alloc _).heap.size + 1; simp; omega) (by simp; omega)).trans hb0)
        have HR2 := Lib.hid hR2
        have HG2 := Lib.hid (HGb.out.andThen hg2 (fun j hj => by cases hj; exact .inr rfl))
        clear hR2 hg2 hRb hMb hb0
        obtain ⟨hq0, hq1⟩ := hbd
        go_wp2_with fail
        refine bodyPost_ret (v := .agg #[.int .i64 (plV s.data.toList), .int .i64 (plV s.data.toList + 1)]) (by simp [results, Tryz.results51, go_sem, c0, c1]) rfl ⟨rfl, ?_, ?_⟩
        · exact (HR2.out.setO _ hne _).setO _ hne _
        · exact gbN (gbN HG2.out (Nat.le_refl _) _ _) (Nat.le_refl _) _ _
end Go.Proofs.YtdhihdiifgcfdaaGreatDoor
