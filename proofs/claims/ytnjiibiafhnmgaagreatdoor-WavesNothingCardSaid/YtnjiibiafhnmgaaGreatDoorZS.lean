/- The example of the chapter of waves holds. The library's Contains and Equal at what names releases. Contract of slices.Concat at strings. -/
import Derived.Test.YtnjiibiafhnmgaaGreatDoorZP
import Derived.Test.YtnjiibiafhnmgaaGreatDoorZR
import Derived.Test.YtnjiibiafhnmgaaGreatDoorZQ
import Derived.Test.YtnjiibiafhnmgaaGreatDoorYJ
import Derived.Test.YtnjiibiafhnmgaaGreatDoorYI
import Derived.Test.YtnjiibiafhnmgaaGreatDoorQShelf
import Derived.Shelf.SlicesQ.Contains
import Derived.Shelf.SlicesQ.Equal
import Derived.Laws.StructEq
import Derived.Shelf.Spec.SlicesGrow
namespace Go.Proofs.YtnjiibiafhnmgaaGreatDoor
open Go Go.RowKit

theorem edges_onW {w w' : World} {v : Value} {es : List (Int × Int)} (h : EdgesOf w.heap.size v es w) (hb : Below w.heap.size w w') : EdgesOf w'.heap.size v es w' := (h.below hb (Nat.le_refl _)).mono hb.size
theorem wx_bd : ∀ x ∈ wX, RelBd x := fun x hx => by
  have h : (wX.all fun x => decide (x.path.size ≤ 1000000) && (decide (x.reqs.length ≤ 1000000) && x.reqs.all fun q => decide (q.1.size ≤ 1000000) && decide (q.2.length ≤ 1000000))) = true := by decide +kernel
  have h1 := List.all_eq_true.1 h x hx
  simp only [Bool.and_eq_true, decide_eq_true_eq, List.all_eq_true] at h1
  exact ⟨h1.1, h1.2.1, fun q hq => h1.2.2 q hq⟩
theorem ws_bd {s : List SelL} (h : ∀ y ∈ s, y = wS wA 0 ∨ y = wS wA 1 ∨ y = wS wB 0 ∨ y = wS wB 1 ∨ y = wS wC 0) : ∀ y ∈ s, SelBd y := fun y hy => by
  rcases h y hy with rfl | rfl | rfl | rfl | rfl <;> exact ⟨of_decide_eq_true (by decide +kernel), ⟨by decide, by decide⟩, ⟨by decide, by decide⟩, ⟨by decide, by decide⟩⟩
theorem wf_bd : ∀ y ∈ wF, SelBd y := ws_bd (fun y hy => by simp only [wF, List.mem_cons, List.not_mem_nil, or_false] at hy; rcases hy with rfl | rfl <;> simp)
theorem wt_bd : ∀ y ∈ wT, SelBd y := ws_bd (fun y hy => by simp only [wT, List.mem_cons, List.not_mem_nil, or_false] at hy; rcases hy with rfl | rfl | rfl <;> simp)
theorem wm_bd : ∀ y ∈ [wS wA 0, wS wB 0, wS wC 0], SelBd y := ws_bd (fun y hy => by simp only [List.mem_cons, List.not_mem_nil, or_false] at hy; rcases hy with rfl | rfl | rfl <;> simp)
theorem row1W {W : World} {g : Nat} {t : TypeId} {a : ByteArray} (h : W.heap[g]? = some (.cells #[.string a] t (0, 0))) : RowOf Value.string W.heap.size (.slice (some ⟨g, 0, none⟩) 1 1) [a] W := row_blk [a] h
theorem row2W {W : World} {g : Nat} {t : TypeId} {a b : ByteArray} (h : W.heap[g]? = some (.cells #[.string a, .string b] t (0, 0))) : RowOf Value.string W.heap.size (.slice (some ⟨g, 0, none⟩) 2 2) [a, b] W := row_blk [a, b] h
def HeldW (bx bg : Nat) (v iv nv ev : Value) (W : World) : Prop := W.cell? ⟨bx, 0, none⟩ = some v ∧ W.cell? ⟨bx, 1, none⟩ = some iv ∧ W.cell? ⟨bg, 0, none⟩ = some nv ∧ W.cell? ⟨bg, 1, none⟩ = some ev
theorem wex_grpV : grpV wX wF wT = [[wC], [wA, wB]] := by unfold grpV; rw [if_pos wex_err, wex_grp]
theorem wex_wavV : wavV wX wF wT = [[wC], [wA, wB]] := by unfold wavV; rw [if_pos wex_err, wex_wav]
theorem wex_btwV : btwV wX wF wT [wC] = 0 := by
  unfold btwV
  rw [if_neg (fun h => h wex_err), wex_mov, if_neg (by decide +kernel)]
theorem wex_btwS : btwS wX wF wT [wC] = [wS wA 0, wS wB 0, wS wC 0] := by
  unfold btwS
  rw [if_pos wex_btwV, wex_bet]
theorem wex_graphV : graphV wX wF wT = (([wA, wB, wC], wEs), 0) := by
  unfold graphV
  rw [if_pos wex_err, wex_err, wex_mov, wex_wavE]
theorem sm_small : ∀ i, (([[wC], [wA, wB]] : List (List ByteArray)).getD i []).length ≤ 1000000000 := fun i => by
  match i with
  | 0 => decide
  | 1 => decide
  | i + 2 => simp
theorem wp_small : ∀ p ∈ ([[wC], [wA, wB]] : List (List ByteArray)).flatten, p.size ≤ maxLen := fun p hp => by
  have h : ([[wC], [wA, wB]] : List (List ByteArray)).flatten.all (fun p => decide (p.size ≤ maxLen)) = true := by decide +kernel
  exact of_decide_eq_true (List.all_eq_true.1 h p hp)
theorem wp_small2 : ∀ p ∈ ([[wA, wB], [wC]] : List (List ByteArray)).flatten, p.size ≤ maxLen := fun p hp => by
  have h : ([[wA, wB], [wC]] : List (List ByteArray)).flatten.all (fun p => decide (p.size ≤ maxLen)) = true := by decide +kernel
  exact of_decide_eq_true (List.all_eq_true.1 h p hp)
set_option maxRecDepth 100000 in
set_option maxHeartbeats 16000000 in
theorem awake44_any (w : World) (hm : MaxOk w) : Calls Tryz.prog 10 #[] w fun e w' => e = .returned (.bool true) ∧ Below w.heap.size w w' := by
  have HEX := Lib.hid (example44_any w)
  have HM := Lib.hid hm
  clear hm
  go_enter Tryz.func10, Tryz.ntmps10
  go_wp2_with fail
  refine HEX.out.mono ?_
  rintro e w1 ⟨gs1, gq1, gs2, gs3, gq2, gr, gf, gt, rfl, hx, hb1⟩
  have HB := Lib.hid hb1
  have HIN : Hid (InW (.slice (some ⟨gr, 0, none⟩) 5 5) (.slice none 0 0) (.slice (some ⟨gf, 0, none⟩) 2 2) (.slice (some ⟨gt, 0, none⟩) 3 3) wX wF wT w1) := Lib.hid ⟨HM.out.below hb1 HM.out.pos, by decide, wx_bd, hx.rels, by decide, wf_bd, hx.sf, by decide, wt_bd, hx.st⟩
  clear hx hb1 HEX HM
  go_upto_region 2 with fail
  have hbx := belQ w1 (.cells #[.slice (some ⟨gr, 0, none⟩) 5 5, .slice none 0 0] 25)
  have hnx := World.alloc_heap_new w1 (.cells #[.slice (some ⟨gr, 0, none⟩) 5 5, .slice none 0 0] 25)
  replace HB := Lib.hid (HB.out.trans (hbx.mono HB.out.size))
  replace HIN := Lib.hid (HIN.out.on hbx)
  have HBX := Lib.hid hnx
  clear hbx hnx
  generalize w1.alloc (.cells #[.slice (some ⟨gr, 0, none⟩) 5 5, .slice none 0 0] 25) = w2 at *
  generalize w1.heap.size = bx at *
  go_upto_region 3 with fail
  have hbx := belQ w2 (.cells #[.string ⟨#[99, 47, 118, 49]⟩] 9)
  have hnx := World.alloc_heap_new w2 (.cells #[.string ⟨#[99, 47, 118, 49]⟩] 9)
  have zHR1 := World.size_alloc w2 (.cells #[.string ⟨#[99, 47, 118, 49]⟩] 9)
  replace HB := Lib.hid (HB.out.trans (hbx.mono HB.out.size))
  replace HIN := Lib.hid (HIN.out.on hbx)
  replace HBX := Lib.hid ((hbx.block _ (Array.getElem?_eq_some_iff.1 HBX.out).1).trans HBX.out)
  have HR1 := Lib.hid hnx
  clear hbx hnx
  generalize w2.alloc (.cells #[.string ⟨#[99, 47, 118, 49]⟩] 9) = w3 at *
  generalize w2.heap.size = b1 at *
  have hbx := belQ w3 (.cells #[.string ⟨#[97, 47, 118, 49]⟩, .string ⟨#[98, 47, 118, 49]⟩] 9)
  have hnx := World.alloc_heap_new w3 (.cells #[.string ⟨#[97, 47, 118, 49]⟩, .string ⟨#[98, 47, 118, 49]⟩] 9)
  have zHR2 := World.size_alloc w3 (.cells #[.string ⟨#[97, 47, 118, 49]⟩, .string ⟨#[98, 47, 118, 49]⟩] 9)
  replace HB := Lib.hid (HB.out.trans (hbx.mono HB.out.size))
  replace HIN := Lib.hid (HIN.out.on hbx)
  replace HBX := Lib.hid ((hbx.block _ (Array.getElem?_eq_some_iff.1 HBX.out).1).trans HBX.out)
  replace HR1 := Lib.hid ((hbx.block _ (Array.getElem?_eq_some_iff.1 HR1.out).1).trans HR1.out)
  have HR2 := Lib.hid hnx
  clear hbx hnx
  generalize w3.alloc (.cells #[.string ⟨#[97, 47, 118, 49]⟩, .string ⟨#[98, 47, 118, 49]⟩] 9) = w4 at *
  rw [zHR1] at HR2
  rw [zHR1] at zHR2
  clear zHR1
  generalize b1 + 1 = b2 at *
  have hbx := belQ w4 (.cells #[.slice (some ⟨b1, 0, none⟩) 1 1, .slice (some ⟨b2, 0, none⟩) 2 2] 29)
  have hnx := World.alloc_heap_new w4 (.cells #[.slice (some ⟨b1, 0, none⟩) 1 1, .slice (some ⟨b2, 0, none⟩) 2 2] 29)
  replace HB := Lib.hid (HB.out.trans (hbx.mono HB.out.size))
  replace HIN := Lib.hid (HIN.out.on hbx)
  replace HBX := Lib.hid ((hbx.block _ (Array.getElem?_eq_some_iff.1 HBX.out).1).trans HBX.out)
  replace HR1 := Lib.hid ((hbx.block _ (Array.getElem?_eq_some_iff.1 HR1.out).1).trans HR1.out)
  replace HR2 := Lib.hid ((hbx.block _ (Array.getElem?_eq_some_iff.1 HR2.out).1).trans HR2.out)
  have HR3 := Lib.hid hnx
  clear hbx hnx
  generalize w4.alloc (.cells #[.slice (some ⟨b1, 0, none⟩) 1 1, .slice (some ⟨b2, 0, none⟩) 2 2] 29) = w5 at *
  rw [zHR2] at HR3
  clear zHR2
  generalize b2 + 1 = b3 at *
  have HW : Hid (NamesOf w5.heap.size (.slice (some ⟨b3, 0, none⟩) 2 2) [[wC], [wA, wB]] w5) := Lib.hid (names_two HR3.out (row1W HR1.out) (row2W HR2.out))
  clear HR1 HR2 HR3
  have c0 := blk0 HBX.out
  have c1 := blk1 HBX.out
  have hco := HIN.out.groups
  rw [wex_grpV, wex_err] at hco
  have HCO := Lib.hid hco
  clear hco
  go_wp2_with fail
  refine HCO.out.mono ?_
  rintro e w6 ⟨lv, rfl, hnx, hbx⟩
  replace HB := Lib.hid (HB.out.trans (hbx.mono HB.out.size))
  replace HIN := Lib.hid (HIN.out.on hbx)
  replace HBX := Lib.hid ((hbx.block _ (Array.getElem?_eq_some_iff.1 HBX.out).1).trans HBX.out)
  replace HW := Lib.hid (names_on HW.out hbx)
  have HL := Lib.hid hnx
  obtain ⟨la, lc, rfl⟩ : ∃ a c, lv = .slice a 2 c := by obtain ⟨a, c, e, _⟩ := hnx; exact ⟨a, c, e⟩
  clear hnx hbx HCO c0 c1
  have c0 := blk0 HBX.out
  have c1 := blk1 HBX.out
  have hco := HIN.out.waves
  rw [wex_wavV, wex_err] at hco
  have HCO := Lib.hid hco
  clear hco
  go_wp2_with fail
  refine HCO.out.mono ?_
  rintro e w7 ⟨mv, rfl, hnx, hbx⟩
  replace HB := Lib.hid (HB.out.trans (hbx.mono HB.out.size))
  replace HIN := Lib.hid (HIN.out.on hbx)
  replace HBX := Lib.hid ((hbx.block _ (Array.getElem?_eq_some_iff.1 HBX.out).1).trans HBX.out)
  replace HW := Lib.hid (names_on HW.out hbx)
  replace HL := Lib.hid (names_on HL.out hbx)
  have HMM := Lib.hid hnx
  obtain ⟨ma, mc, rfl⟩ : ∃ a c, mv = .slice a 2 c := by obtain ⟨a, c, e, _⟩ := hnx; exact ⟨a, c, e⟩
  clear hnx hbx HCO c0 c1
  have c0 := blk0 HBX.out
  have c1 := blk1 HBX.out
  have hbq := belQ w7 (.cells #[.string ⟨#[99, 47, 118, 49]⟩] 9)
  have hrq := row1W (World.alloc_heap_new w7 (.cells #[.string ⟨#[99, 47, 118, 49]⟩] 9))
  have hco := (HIN.out.on hbq).btw (M := [wC]) (by decide) (fun p hp => by rw [List.mem_singleton.1 hp]; exact of_decide_eq_true (by decide +kernel)) hrq
  unfold BtwR at hco
  rw [wex_btwV, wex_btwS] at hco
  have HCO := Lib.hid hco
  have HBQ := Lib.hid hbq
  clear hco hbq hrq
  go_wp2_with fail
  refine HCO.out.mono ?_
  rintro e w8 ⟨sv, rfl, hnx, hby⟩
  have hbx := HBQ.out.trans (hby.mono HBQ.out.size)
  replace HB := Lib.hid (HB.out.trans (hbx.mono HB.out.size))
  replace HIN := Lib.hid (HIN.out.on hbx)
  replace HBX := Lib.hid ((hbx.block _ (Array.getElem?_eq_some_iff.1 HBX.out).1).trans HBX.out)
  replace HW := Lib.hid (names_on HW.out hbx)
  replace HL := Lib.hid (names_on HL.out hbx)
  replace HMM := Lib.hid (names_on HMM.out hbx)
  have HS := Lib.hid hnx
  obtain ⟨sa, sc, rfl⟩ : ∃ a c, sv = .slice a 3 c := by obtain ⟨a, c, e, _⟩ := hnx; exact ⟨a, c, e⟩
  clear hnx hbx hby HBQ HCO c0 c1
  have c0 := blk0 HBX.out
  have c1 := blk1 HBX.out
  have hco := HIN.out.graph
  unfold GraphR at hco
  rw [wex_graphV] at hco
  have HCO := Lib.hid hco
  clear hco
  go_wp2_with fail
  refine HCO.out.mono ?_
  rintro e w9 ⟨nv, ev, rfl, hnr, hnx, hbx⟩
  replace HB := Lib.hid (HB.out.trans (hbx.mono HB.out.size))
  replace HIN := Lib.hid (HIN.out.on hbx)
  replace HBX := Lib.hid ((hbx.block _ (Array.getElem?_eq_some_iff.1 HBX.out).1).trans HBX.out)
  replace HW := Lib.hid (names_on HW.out hbx)
  replace HL := Lib.hid (names_on HL.out hbx)
  replace HMM := Lib.hid (names_on HMM.out hbx)
  replace HS := Lib.hid (HS.out.on hbx)
  obtain ⟨ea, ec, rfl⟩ : ∃ a c, ev = .slice a 3 c := by obtain ⟨a, c, e, _⟩ := hnx; exact ⟨a, c, e⟩
  clear hnx hbx HCO c0 c1
  obtain ⟨na, nn, nc, rfl⟩ : ∃ a n c, nv = .slice a n c := by obtain ⟨a, c, e, _⟩ := rowOf_open hnr; exact ⟨a, _, c, e⟩
  clear hnr
  go_upto_region 7 with fail
  have hbx := belQ w9 (.cells #[.slice na nn nc, .slice ea 3 ec] 32)
  have hnx := World.alloc_heap_new w9 (.cells #[.slice na nn nc, .slice ea 3 ec] 32)
  replace HB := Lib.hid (HB.out.trans (hbx.mono HB.out.size))
  replace HIN := Lib.hid (HIN.out.on hbx)
  replace HBX := Lib.hid ((hbx.block _ (Array.getElem?_eq_some_iff.1 HBX.out).1).trans HBX.out)
  replace HW := Lib.hid (names_on HW.out hbx)
  replace HL := Lib.hid (names_on HL.out hbx)
  replace HMM := Lib.hid (names_on HMM.out hbx)
  replace HS := Lib.hid (HS.out.on hbx)
  have HBG := Lib.hid hnx
  clear hbx hnx
  generalize w9.alloc (.cells #[.slice na nn nc, .slice ea 3 ec] 32) = w10 at *
  generalize w9.heap.size = bg at *
  have hco := Same44_any (.slice la 2 lc) (.slice (some ⟨b3, 0, none⟩) 2 2) [[wC], [wA, wB]] [[wC], [wA, wB]] w10 HL.out HW.out (by decide) (by decide) sm_small sm_small
  rw [decide_eq_true rfl] at hco
  have HCO := Lib.hid hco
  clear hco
  have c0 := blk0 HBX.out
  have c1 := blk1 HBX.out
  have c2 := blk1 HBG.out
  go_wp2_with fail
  refine HCO.out.mono ?_
  rintro e w11 ⟨rfl, hbx⟩
  replace HB := Lib.hid (HB.out.trans (hbx.mono HB.out.size))
  replace HIN := Lib.hid (HIN.out.on hbx)
  replace HBX := Lib.hid ((hbx.block _ (Array.getElem?_eq_some_iff.1 HBX.out).1).trans HBX.out)
  replace HW := Lib.hid (names_on HW.out hbx)
  replace HL := Lib.hid (names_on HL.out hbx)
  replace HMM := Lib.hid (names_on HMM.out hbx)
  replace HS := Lib.hid (HS.out.on hbx)
  replace HBG := Lib.hid ((hbx.block _ (Array.getElem?_eq_some_iff.1 HBG.out).1).trans HBG.out)
  clear hbx HCO c0 c1 c2
  have hco := Same44_any (.slice ma 2 mc) (.slice (some ⟨b3, 0, none⟩) 2 2) [[wC], [wA, wB]] [[wC], [wA, wB]] w11 HMM.out HW.out (by decide) (by decide) sm_small sm_small
  rw [decide_eq_true rfl] at hco
  have HCO := Lib.hid hco
  clear hco
  have c0 := blk0 HBX.out
  have c1 := blk1 HBX.out
  have c2 := blk1 HBG.out
  go_wp2_with fail
  refine HCO.out.mono ?_
  rintro e w12 ⟨rfl, hbx⟩
  replace HB := Lib.hid (HB.out.trans (hbx.mono HB.out.size))
  replace HIN := Lib.hid (HIN.out.on hbx)
  replace HBX := Lib.hid ((hbx.block _ (Array.getElem?_eq_some_iff.1 HBX.out).1).trans HBX.out)
  replace HW := Lib.hid (names_on HW.out hbx)
  replace HL := Lib.hid (names_on HL.out hbx)
  replace HMM := Lib.hid (names_on HMM.out hbx)
  replace HS := Lib.hid (HS.out.on hbx)
  replace HBG := Lib.hid ((hbx.block _ (Array.getElem?_eq_some_iff.1 HBG.out).1).trans HBG.out)
  clear hbx HCO c0 c1 c2
  have hco := HIN.out.cons (s := [wS wA 0, wS wB 0, wS wC 0]) (by decide) wm_bd HS.out
  rw [wex_cons] at hco
  have HCO := Lib.hid hco
  clear hco
  have c0 := blk0 HBX.out
  have c1 := blk1 HBX.out
  have c2 := blk1 HBG.out
  go_wp2_with fail
  refine HCO.out.mono ?_
  rintro e w13 ⟨rfl, hbx⟩
  replace HB := Lib.hid (HB.out.trans (hbx.mono HB.out.size))
  replace HIN := Lib.hid (HIN.out.on hbx)
  replace HBX := Lib.hid ((hbx.block _ (Array.getElem?_eq_some_iff.1 HBX.out).1).trans HBX.out)
  replace HW := Lib.hid (names_on HW.out hbx)
  replace HL := Lib.hid (names_on HL.out hbx)
  replace HMM := Lib.hid (names_on HMM.out hbx)
  replace HS := Lib.hid (HS.out.on hbx)
  replace HBG := Lib.hid ((hbx.block _ (Array.getElem?_eq_some_iff.1 HBG.out).1).trans HBG.out)
  clear hbx HCO c0 c1 c2
  have hco := HIN.out.check (L := [[wC], [wA, wB]]) (by decide) (by decide) wp_small HW.out
  rw [wex_plan] at hco
  have HCO := Lib.hid hco
  clear hco
  have c0 := blk0 HBX.out
  have c1 := blk1 HBX.out
  have c2 := blk1 HBG.out
  go_wp2_with fail
  refine HCO.out.mono ?_
  rintro e w14 ⟨rfl, hbx⟩
  replace HB := Lib.hid (HB.out.trans (hbx.mono HB.out.size))
  replace HIN := Lib.hid (HIN.out.on hbx)
  replace HBX := Lib.hid ((hbx.block _ (Array.getElem?_eq_some_iff.1 HBX.out).1).trans HBX.out)
  replace HW := Lib.hid (names_on HW.out hbx)
  replace HL := Lib.hid (names_on HL.out hbx)
  replace HMM := Lib.hid (names_on HMM.out hbx)
  replace HS := Lib.hid (HS.out.on hbx)
  replace HBG := Lib.hid ((hbx.block _ (Array.getElem?_eq_some_iff.1 HBG.out).1).trans HBG.out)
  clear hbx HCO c0 c1 c2
  have HBX0 := HBX
  have HBG0 := HBG
  have c2 := blk1 HBG0.out
  have z1 := World.size_alloc w14 (.cells #[.string ⟨#[97, 47, 118, 49]⟩, .string ⟨#[98, 47, 118, 49]⟩] 9)
  have z2 := World.size_alloc (w14.alloc (.cells #[.string ⟨#[97, 47, 118, 49]⟩, .string ⟨#[98, 47, 118, 49]⟩] 9)) (.cells #[.string ⟨#[99, 47, 118, 49]⟩] 9)
  have hbx := belQ w14 (.cells #[.string ⟨#[97, 47, 118, 49]⟩, .string ⟨#[98, 47, 118, 49]⟩] 9)
  have hnx := World.alloc_heap_new w14 (.cells #[.string ⟨#[97, 47, 118, 49]⟩, .string ⟨#[98, 47, 118, 49]⟩] 9)
  replace HB := Lib.hid (HB.out.trans (hbx.mono HB.out.size))
  replace HIN := Lib.hid (HIN.out.on hbx)
  replace HBX := Lib.hid ((hbx.block _ (Array.getElem?_eq_some_iff.1 HBX.out).1).trans HBX.out)
  replace HW := Lib.hid (names_on HW.out hbx)
  replace HL := Lib.hid (names_on HL.out hbx)
  replace HMM := Lib.hid (names_on HMM.out hbx)
  replace HS := Lib.hid (HS.out.on hbx)
  replace HBG := Lib.hid ((hbx.block _ (Array.getElem?_eq_some_iff.1 HBG.out).1).trans HBG.out)
  have HR4 := Lib.hid hnx
  clear hbx hnx
  have hbx := belQ (w14.alloc (.cells #[.string ⟨#[97, 47, 118, 49]⟩, .string ⟨#[98, 47, 118, 49]⟩] 9)) (.cells #[.string ⟨#[99, 47, 118, 49]⟩] 9)
  have hnx := World.alloc_heap_new (w14.alloc (.cells #[.string ⟨#[97, 47, 118, 49]⟩, .string ⟨#[98, 47, 118, 49]⟩] 9)) (.cells #[.string ⟨#[99, 47, 118, 49]⟩] 9)
  replace HB := Lib.hid (HB.out.trans (hbx.mono HB.out.size))
  replace HIN := Lib.hid (HIN.out.on hbx)
  replace HBX := Lib.hid ((hbx.block _ (Array.getElem?_eq_some_iff.1 HBX.out).1).trans HBX.out)
  replace HW := Lib.hid (names_on HW.out hbx)
  replace HL := Lib.hid (names_on HL.out hbx)
  replace HMM := Lib.hid (names_on HMM.out hbx)
  replace HS := Lib.hid (HS.out.on hbx)
  replace HBG := Lib.hid ((hbx.block _ (Array.getElem?_eq_some_iff.1 HBG.out).1).trans HBG.out)
  replace HR4 := Lib.hid ((hbx.block _ (Array.getElem?_eq_some_iff.1 HR4.out).1).trans HR4.out)
  have HR5 := Lib.hid hnx
  clear hbx hnx
  rw [z1] at HR5
  have hbx := belQ ((w14.alloc (.cells #[.string ⟨#[97, 47, 118, 49]⟩, .string ⟨#[98, 47, 118, 49]⟩] 9)).alloc (.cells #[.string ⟨#[99, 47, 118, 49]⟩] 9)) (.cells #[.slice (some ⟨w14.heap.size, 0, none⟩) 2 2, .slice (some ⟨w14.heap.size + 1, 0, none⟩) 1 1] 29)
  have hnx := World.alloc_heap_new ((w14.alloc (.cells #[.string ⟨#[97, 47, 118, 49]⟩, .string ⟨#[98, 47, 118, 49]⟩] 9)).alloc (.cells #[.string ⟨#[99, 47, 118, 49]⟩] 9)) (.cells #[.slice (some ⟨w14.heap.size, 0, none⟩) 2 2, .slice (some ⟨w14.heap.size + 1, 0, none⟩) 1 1] 29)
  replace HB := Lib.hid (HB.out.trans (hbx.mono HB.out.size))
  replace HIN := Lib.hid (HIN.out.on hbx)
  replace HBX := Lib.hid ((hbx.block _ (Array.getElem?_eq_some_iff.1 HBX.out).1).trans HBX.out)
  replace HW := Lib.hid (names_on HW.out hbx)
  replace HL := Lib.hid (names_on HL.out hbx)
  replace HMM := Lib.hid (names_on HMM.out hbx)
  replace HS := Lib.hid (HS.out.on hbx)
  replace HBG := Lib.hid ((hbx.block _ (Array.getElem?_eq_some_iff.1 HBG.out).1).trans HBG.out)
  replace HR4 := Lib.hid ((hbx.block _ (Array.getElem?_eq_some_iff.1 HR4.out).1).trans HR4.out)
  replace HR5 := Lib.hid ((hbx.block _ (Array.getElem?_eq_some_iff.1 HR5.out).1).trans HR5.out)
  have HR6 := Lib.hid hnx
  clear hbx hnx
  rw [z2, z1] at HR6
  have hco := HIN.out.check (L := [[wA, wB], [wC]]) (by decide) (by decide) wp_small2 (names_two HR6.out (row2W HR4.out) (row1W HR5.out))
  rw [wex_plan2] at hco
  clear z1 z2 HR4 HR5 HR6
  have HCO := Lib.hid hco
  clear hco
  have c0 := blk0 HBX0.out
  have c1 := blk1 HBX0.out
  go_wp2_with fail
  refine HCO.out.mono ?_
  rintro e w18 ⟨rfl, hbx⟩
  replace HB := Lib.hid (HB.out.trans (hbx.mono HB.out.size))
  replace HIN := Lib.hid (HIN.out.on hbx)
  replace HBX := Lib.hid ((hbx.block _ (Array.getElem?_eq_some_iff.1 HBX.out).1).trans HBX.out)
  replace HW := Lib.hid (names_on HW.out hbx)
  replace HL := Lib.hid (names_on HL.out hbx)
  replace HMM := Lib.hid (names_on HMM.out hbx)
  replace HS := Lib.hid (HS.out.on hbx)
  replace HBG := Lib.hid ((hbx.block _ (Array.getElem?_eq_some_iff.1 HBG.out).1).trans HBG.out)
  go_wp2_with fail
  go_ret
  exact ⟨rfl, HB.out⟩
end Go.Proofs.YtnjiibiafhnmgaaGreatDoor

namespace Go.Proofs.YtnjiibiafhnmgaaGreatDoor
set_option linter.unusedVariables false
set_option linter.unusedSimpArgs false
open Go Go.RowKit Go.Shelf Go.Lib

set_option maxRecDepth 100000 in
theorem sel_neq : NeqAt Tryz.prog 53 (fun x => .agg (selC x).toArray) (fun x y => decide (x = y)) := by
  refine ⟨fun x y w => ?_, GuardAt.agg _ (by kernel_rfl)⟩
  have hS : Tryz.prog.underlying 53 = some (.struct (Tryz.prog.fieldsOf 53)) := by kernel_rfl
  have hp : Tryz.prog.stoodInHeld 53 = false := by kernel_rfl
  simp only [selC]
  rw [run_neq_struct, show (10000 : Nat) = 9999 + 1 from rfl, run_equalIn_agg w 9999 53 _ _ hS hp]
  clear hS hp
  obtain ⟨d, hd⟩ : ∃ d, (9999 : Nat) = d + 9 := ⟨9990, rfl⟩
  rw [hd]
  clear hd
  have u9 := Tryz.underlying9
  have a9 := Tryz.isAgg9
  have z9 := Tryz.sizeOf9
  have a4 := Tryz.isAgg51
  have z4 := Tryz.sizeOf51
  have hv := ver_equal
  simp only [Program.fieldsOf, Tryz.underlying53]
  go_simp
  obtain ⟨xp, x1, x2, x3⟩ := x
  obtain ⟨yp, y1, y2, y3⟩ := y
  by_cases h0 : xp.toList = yp.toList
  · have h0' := bytes_inj h0
    subst h0'
    by_cases h1 : x1 = y1 <;> by_cases h2 : x2 = y2 <;> by_cases h3 : x3 = y3 <;> simp [h1, h2, h3]
  · have h0' : ¬ xp = yp := fun e => h0 (by rw [e])
    simp [h0, h0']
theorem sels_cells {B b off cap : Nat} {es : List SelL} {w : World} (h : SelsOf B (.slice (some ⟨b, off, none⟩) es.length cap) es w) : ∀ j, j < es.length → ∀ i v, (selC es[j]!)[i]? = some v → w.cell? ⟨b, off + j * 4 + i, none⟩ = some v := by
  obtain ⟨ao, c, e, h⟩ := h
  cases e
  intro j hj i v hv
  rw [getElem!_pos es j hj] at hv
  obtain ⟨b', off', e, _, h1, h2, h3, h4⟩ := h j es[j] (by simp [hj])
  cases e
  match i, hv with
  | 0, hv => cases hv; exact h1
  | 1, hv => cases hv; exact h2
  | 2, hv => cases hv; exact h3
  | 3, hv => cases hv; exact h4
  | i + 4, hv => simp [selC] at hv
theorem allEq_eq : ∀ {l m : List SelL}, Lib.allEq (fun x y => decide (x = y)) l m = decide (l = m)
  | [], [] => rfl
  | [], _ :: _ => by simp [Lib.allEq]
  | _ :: _, [] => by simp [Lib.allEq]
  | x :: l, y :: m => by
    unfold Lib.allEq
    rw [allEq_eq]
    by_cases h1 : x = y <;> by_cases h2 : l = m <;> simp [h1, h2]
end Go.Proofs.YtnjiibiafhnmgaaGreatDoor

namespace Go.Proofs.YtnjiibiafhnmgaaGreatDoor
open Go Go.RowKit Go.Lib Go.Shelf

def growRenS : Ren := ⟨fun _ => 66, fun x => if x = 0 then 0 else if x = 3 then 3 else if x = 4 then 4 else if x = 9 then 9 else if x = 20 then 20 else if x = 22 then 29 else 9, fun x => x⟩
theorem growLaysS : Lays8.n4 Tryz.prog growRenS := {
  mixed := by kernel_rfl
  f4 := ⟨Tryz.f66.name, by decide, Tryz.func66.trans (congrArg some (by kernel_rfl))⟩
  t0 := Tryz.underlying0
  a0 := Tryz.isAgg0
  z0 := Tryz.sizeOf0
  v0 := Tryz.zeroValue0
  t3 := Tryz.underlying3
  a3 := Tryz.isAgg3
  z3 := Tryz.sizeOf3
  v3 := Tryz.zeroValue3
  t4 := Tryz.underlying4
  a4 := Tryz.isAgg4
  z4 := Tryz.sizeOf4
  v4 := Tryz.zeroValue4
  t9 := Tryz.underlying9
  a9 := Tryz.isAgg9
  z9 := Tryz.sizeOf9
  v9 := Tryz.zeroValue9
  t20 := Tryz.underlying20
  a20 := Tryz.isAgg20
  z20 := Tryz.sizeOf20
  v20 := Tryz.zeroValue20
  t22 := Tryz.underlying29
  a22 := Tryz.isAgg29
  z22 := Tryz.sizeOf29
  v22 := Tryz.zeroValue29 }
set_option maxRecDepth 100000 in
theorem grow_strs (n : Nat) (w : World) (hn : n ≤ 1000000000) : Calls Tryz.prog 66 #[.slice none 0 0, .int .i64 (n : Int)] w fun e w' => ∃ v, e = .returned v ∧ w'.ownsRow w.heap.size 9 1 v 0 [] ∧ Below w.heap.size w w' := by
  rcases Nat.eq_zero_or_pos n with h0 | h0
  · subst h0
    have h := Any8.slices_Grow_room growLaysS none 0 0 0 w (Nat.le_refl _) (by omega) (by omega) (by omega)
    refine Calls.mono (show Calls Tryz.prog 66 _ _ _ from h) ?_
    rintro e w' ⟨rfl, rfl⟩
    exact ⟨_, rfl, World.ownsRow_nil _ _ _ _, Below.refl _ _⟩
  · obtain ⟨i0, hi0, hz0, hz1, hz2⟩ := info_parts info_strW
    have h := Any8.slices_Grow_grow growLaysS i0 _ hi0 hz0 (by rw [hz1]; omega) none 0 0 n [] w (Nat.le_refl _) (by omega) (by rw [hz2]; omega) (by omega) (by simp) (fun _ => rfl) (fun a ha => by cases ha)
    refine Calls.mono (show Calls Tryz.prog 66 _ _ _ from h) ?_
    rintro e w' ⟨rfl, rfl⟩
    have hge := grownCap_ge w (0 + n) 0 9
    have hcm := grownCap_le_maxLen w (0 + n) 0 9 (by unfold maxLen; omega)
    refine ⟨_, rfl, ?_, (Below.refl w.heap.size w).drew.trans (belQ w.drew _)⟩
    obtain ⟨K, hK⟩ : ∃ K, grownCap w (0 + n) 0 9 = K := ⟨_, rfl⟩
    change World.ownsRow (w.drew.alloc (.cells (([] : List Value).toArray ++ Builtin.zeroCells (Value.string ⟨#[]⟩).cells (0 + n - 0) ++ Builtin.zeroCells (Value.string ⟨#[]⟩).cells (grownCap w (0 + n) 0 9 - (0 + n))) 9)) w.heap.size 9 1 (.slice (some ⟨w.heap.size, 0, none⟩) 0 (grownCap w (0 + n) 0 9)) 0 []
    rw [hK] at hge hcm ⊢
    have hzs : (Value.string ⟨#[]⟩).cells.size = 1 := by rfl
    refine ⟨rfl, .inr ⟨w.heap.size, K, _, rfl, Nat.le_refl _, World.alloc_heap_new w.drew _, Nat.zero_le _, hcm, ?_, rfl⟩⟩
    rw [Array.size_append, Array.size_append, size_zeroCells, size_zeroCells, hzs]
    simp only [List.size_toArray, List.length_nil]
    omega
set_option maxRecDepth 100000 in
set_option maxHeartbeats 8000000 in
theorem concat_strs (v : Value) (L : List (List ByteArray)) (w : World) (hll : L.length ≤ 1000000) (hf : L.flatten.length ≤ 1000000) (hL : NamesOf w.heap.size v L w) :
    Calls Tryz.prog 37 #[v] w fun e w' => ∃ v', e = .returned v' ∧ RowOf Value.string w'.heap.size v' L.flatten w' ∧ Below w.heap.size w w' := by
  have HNM := Lib.hid hL
  obtain ⟨la, lc, rfl⟩ : ∃ la lc, v = .slice la L.length lc := by obtain ⟨a, c, e, _⟩ := hL; exact ⟨a, c, e⟩
  clear hL
  obtain ⟨T, hT⟩ : ∃ T, L.flatten.length = T := ⟨_, rfl⟩
  have HTT := Lib.hid hT
  have HGW := Lib.hid (fun W => grow_strs T W (by omega))
  rw [hT] at hf
  clear hT
  have hln := len_names la L.length lc w
  go_enter Tryz.func37, Tryz.ntmps37
  go_wp2_with fail
  try rw [hln]
  clear hln
  go_wp2_with fail
  go_loopw [3, 11] (fun sz p wr => Hid (∃ i : Nat, i ≤ L.length ∧ p = .int .i64 (i : Int) ∧ sz = .int .i64 (((L.take i).flatten.length : Nat) : Int) ∧ wr = w)) (fun _ p _ => L.length - (intOf p).toNat)
  case atStart => exact Lib.hid ⟨0, Nat.zero_le _, rfl, by simp, rfl⟩
  case round =>
    obtain ⟨i, hi, rfl, rfl, hwr⟩ := hrel.out
    subst hwr
    clear hrel
    by_cases hlt : i < L.length
    case pos =>
      obtain ⟨b, off, r, e1, hc, hr⟩ := names_at HNM.out (Below.refl _ _) hlt
      subst e1
      have hfl := flat_le (L := L) (i + 1)
      rw [HTT.out] at hfl
      have HFS := Lib.hid (flat_take hlt)
      rw [HFS.out, List.length_append] at hfl
      obtain ⟨ra, rc, rfl, _⟩ := rowOf_open hr
      obtain ⟨m, hm⟩ : ∃ m, L[i].length = m := ⟨_, rfl⟩
      obtain ⟨t, ht⟩ : ∃ t, (L.take i).flatten.length = t := ⟨_, rfl⟩
      have HT : Hid ((L.take (i + 1)).flatten.length = t + m) := Lib.hid (by rw [HFS.out, List.length_append, hm, ht])
      rw [hm] at hc hfl
      rw [ht] at hfl ⊢
      clear hm ht hr
      have hi0 : (0 : Int) ≤ (i : Int) := Int.natCast_nonneg i
      have hi1 : (i : Int) < (L.length : Int) := Int.ofNat_lt.2 hlt
      have hw1 : wrap64 ((t : Int) + (m : Int)) = ((t + m : Nat) : Int) := by unfold wrap64; omega
      have hw2 : IntKind.i64.wrap ((t : Int) + (m : Int)) = ((t + m : Nat) : Int) := by rw [IntWalk.i64_in _ (by omega)]; omega
      have hn0 : ¬ (((t + m : Nat) : Int) < 0) := by omega
      have hd0 : decide (((t + m : Nat) : Int) < 0) = false := decide_eq_false hn0
      go_wp2_with fail
      go_roundw
      case rel => exact Lib.hid ⟨i + 1, hlt, by go_num, by rw [HT.out]; push_cast; rfl, by trivial⟩
      case measure => simp [intOf]; omega
    case neg =>
      have hii : i = L.length := Nat.le_antisymm hi (Nat.le_of_not_lt hlt)
      subst hii
      rw [List.take_length, HTT.out]
      go_wp2_with fail
      refine (HGW.out _).mono ?_
      rintro e w1 ⟨nv, rfl, hown, hb1⟩
      have HO1 := Lib.hid hown
      have HB1 := Lib.hid hb1
      obtain ⟨na, nn, nc, rfl⟩ : ∃ a n c, nv = .slice a n c := by obtain ⟨a, c, e⟩ := own_any hown; exact ⟨a, _, c, e⟩
      clear hown hb1 HGW
      have hln := len_names la L.length lc w1
      go_wp2_with fail
      try rw [hln]
      clear hln
      go_wp2_with fail
      obtain ⟨wo, hwo⟩ : ∃ wo, wr = wo := ⟨_, rfl⟩
      replace hwo := hwo.symm
      subst hwo
      go_loopw [6, 27] (fun ov p wx => Hid (∃ (i : Nat), i ≤ L.length ∧ p = .int .i64 (i : Int) ∧ wx.ownsRow wo.heap.size 9 1 ov (L.take i).flatten.length (strsC (L.take i).flatten) ∧ Below wo.heap.size wo wx)) (fun _ p _ => L.length - (intOf p).toNat)
      case atStart => exact Lib.hid ⟨0, Nat.zero_le _, rfl, HO1.out, HB1.out⟩
      case round =>
        obtain ⟨i, hi, rfl, ho, hb⟩ := hrel.out
        have HO := Lib.hid ho
        have HB := Lib.hid hb
        obtain ⟨oa, oc, rfl⟩ := own_any ho
        have hsz := hb.size
        clear hrel ho hb HO1
        by_cases hlt : i < L.length
        case neg =>
          have hii : i = L.length := Nat.le_antisymm hi (Nat.le_of_not_lt hlt)
          subst hii
          have HOF := HO.out
          rw [List.take_length] at HOF ⊢
          have HRF := Lib.hid (own_row HOF).2
          clear HOF
          go_wp2_with fail
          go_ret
          exact ⟨_, rfl, HRF.out, HB.out⟩
        case pos =>
          obtain ⟨b, off, r, rfl, hc, hr⟩ := names_at HNM.out HB.out hlt
          have hfl := flat_le (L := L) (i + 1)
          rw [HTT.out] at hfl
          have HFT := Lib.hid (flat_take hlt)
          rw [HFT.out, List.length_append] at hfl
          generalize L[i] = row at *
          have HRW := Lib.hid hr
          obtain ⟨ra, rc, rfl, _⟩ := rowOf_open hr
          clear hr
          have HFL : Hid ((L.take (i + 1)).flatten.length = (L.take i).flatten.length + row.length) := Lib.hid (by rw [HFT.out, List.length_append])
          generalize hK : (L.take i).flatten = K at *
          clear hK
          have hi0 : (0 : Int) ≤ (i : Int) := Int.natCast_nonneg i
          have hi1 : (i : Int) < (L.length : Int) := Int.ofNat_lt.2 hlt
          go_wp2_with (at_builtin; refine wpList_app_strs rfl _ _ rfl wo.heap.size (.slice oa K.length oc) K.length K (by rfl) HO.out (.slice ra row.length rc) row (by rfl) HRW.out (by omega) hsz ?_; intro v' wB hown' hgrow; have HOW := Lib.hid hown'; have HGR := Lib.hid hgrow; clear hown' hgrow; obtain ⟨da, dc, rfl⟩ : ∃ a c, v' = .slice a (K.length + row.length) c := own_any HOW.out)
          all_goals
            have HBE := Lib.hid (HB.out.grown HGR.out hsz (fun b hb => (own_lo HO.out b hb).1))
            have HOE : Hid (wB.ownsRow wo.heap.size 9 1 (.slice da (K.length + row.length) dc) (L.take (i + 1)).flatten.length (strsC (L.take (i + 1)).flatten)) := Lib.hid (by rw [HFL.out, HFT.out]; exact HOW.out)
            refine ⟨Lib.hid ⟨i + 1, hlt, by go_num, HOE.out, HBE.out⟩, ?_⟩
            simp [intOf]; omega
def selRenW : Ren := ⟨fun _ => 26, fun x => if x = 0 then 0 else if x = 3 then 3 else if x = 4 then 4 else if x = 22 then 26 else 53, fun x => x⟩
theorem selLaysW : SlLaysQ.n8 Tryz.prog selRenW := {
  mixed := by kernel_rfl
  f8 := ⟨Tryz.f26.name, by decide, Tryz.func26.trans (congrArg some (by kernel_rfl))⟩
  t0 := Tryz.underlying0
  a0 := Tryz.isAgg0
  z0 := Tryz.sizeOf0
  v0 := Tryz.zeroValue0
  t3 := Tryz.underlying3
  a3 := Tryz.isAgg3
  z3 := Tryz.sizeOf3
  v3 := Tryz.zeroValue3
  t4 := Tryz.underlying4
  a4 := Tryz.isAgg4
  z4 := Tryz.sizeOf4
  v4 := Tryz.zeroValue4
  t22 := Tryz.underlying26
  a22 := Tryz.isAgg26
  z22 := Tryz.sizeOf26
  v22 := Tryz.zeroValue26 }
set_option maxRecDepth 100000 in
theorem eq_selsW (v u : Value) (l m : List SelL) (w : World) (hl : l.length ≤ 1000000000) (hm : m.length ≤ 1000000000) (h1 : SelsOf w.heap.size v l w) (h2 : SelsOf w.heap.size u m w) :
    Calls Tryz.prog 26 #[v, u] w fun e w' => e = .returned (.bool (decide (l = m))) ∧ Below w.heap.size w w' := by
  have g1 := h1
  have g2 := h2
  obtain ⟨a1, c1, rfl, k1⟩ := h1
  obtain ⟨a2, c2, rfl, k2⟩ := h2
  by_cases hlm : l.length = m.length
  · by_cases hp : 0 < l.length
    · obtain ⟨b1, o1, rfl, _⟩ := k1 0 l[0] (by simp [hp])
      obtain ⟨b2, o2, rfl, _⟩ := k2 0 m[0] (by simp [show 0 < m.length by omega])
      refine (AnyQ.slices_Equal selLaysW 4 Tryz.isAgg53 Tryz.sizeOf53 selC (fun _ => rfl) _ sel_neq b1 o1 l.length c1 b2 o2 m.length c2 l m w (Nat.le_refl _) (Nat.le_refl _) (by omega) (by omega) (sels_cells g1) (sels_cells g2)).mono ?_
      rintro e w' ⟨rfl, q, rfl⟩
      refine ⟨?_, below_drewN_q (Below.refl _ _) _⟩
      rw [List.take_length, List.take_length, allEq_eq]
    · have e1 : l = [] := List.length_eq_zero_iff.1 (by omega)
      have e2 : m = [] := List.length_eq_zero_iff.1 (by omega)
      subst e1
      subst e2
      clear k1 k2 g1 g2 hlm hp hl hm
      go_enter Tryz.func26, Tryz.ntmps26
      go_wp2_with fail
      go_loopw [13] (fun q wr => q = .int .i64 0 ∧ wr = w) (fun _ _ => 0)
      case atStart => exact ⟨rfl, rfl⟩
      case round =>
        obtain ⟨rfl, rfl⟩ := hrel
        go_wp2_with fail
        go_ret
        exact ⟨by simp, Below.refl _ _⟩
  · have hne : ((l.length : Int) != (m.length : Int)) = true := by simp; omega
    have hd : decide (l = m) = false := decide_eq_false fun e => hlm (by rw [e])
    rw [hd]
    clear k1 k2 g1 g2
    go_enter Tryz.func26, Tryz.ntmps26
    go_wp2_with fail
    go_ret
    exact ⟨rfl, Below.refl _ _⟩
end Go.Proofs.YtnjiibiafhnmgaaGreatDoor

namespace Go.Proofs.YtnjiibiafhnmgaaGreatDoor
open Go Go.RowKit

theorem few_bdW {X : List RelL} {m : Nat} (h : FewR X m) : ∀ x ∈ X, RelBd x := fun x hx => by
  obtain ⟨h1, _, _, _, h5⟩ := h.all x hx
  exact ⟨by omega, by have := h5.len; omega, fun q hq => by have := h5.all q hq; omega⟩
theorem InW.of_few {v iv fv tv : Value} {X : List RelL} {f t : List SelL} {w W : World} (hm : MaxOk w) (hR : RelsOf w.heap.size v X w) (hF : SelsOf w.heap.size fv f w) (hfy : ∀ y ∈ f, SelBd y) (hT : SelsOf w.heap.size tv t w) (hty : ∀ y ∈ t, SelBd y)
    (h : FewR X 16 ∧ f.length ≤ 12 ∧ t.length ≤ 12) (hb : Below w.heap.size w W) : InW v iv fv tv X f t W :=
  ⟨hm.below hb hm.pos, by have := h.1.len; omega, few_bdW h.1, hR.on hb, h.2.1, hfy, hF.on hb, h.2.2, hty, hT.on hb⟩
theorem plan_flat {X : List RelL} {f t : List SelL} {L : List (List ByteArray)} (h : planV X f t L = 0) : L.flatten.length = (movesP f t).length ∧ (∀ p, p ∈ L.flatten ↔ p ∈ movesP f t) ∧ L.length ≤ (movesP f t).length := by
  obtain ⟨h0, hp⟩ := planV_zero.1 h
  have hi := movesP_inc (cons_parts (errW_parts h0).1).2.1 (cons_parts (errW_parts h0).2).2.1
  have hs := ((plan_first hi).2 ⟨hp.ne, hp.nod, hp.mem⟩).2
  have hl : L.flatten.length = (movesP f t).length := by rw [← hs, (sortL_perm L.flatten).length_eq]
  refine ⟨hl, hp.mem, ?_⟩
  rw [← hl]
  have key : ∀ L : List (List ByteArray), (∀ l ∈ L, l ≠ []) → L.length ≤ L.flatten.length := fun L => by
    induction L with
    | nil => intro _; simp
    | cons l L ih =>
      intro h
      rw [List.flatten_cons, List.length_append, List.length_cons]
      have h1 := List.length_pos_iff.2 (h l (by simp))
      have h2 := ih fun x hx => h x (by simp [hx])
      omega
  exact key L fun l hl => (hp.ne l hl).1
theorem moves_size {f t : List SelL} (hf : ∀ y ∈ f, SelBd y) (ht : ∀ y ∈ t, SelBd y) : ∀ p ∈ movesP f t, p.size ≤ maxLen := fun p hp => by
  rcases moves_mem hp with ⟨y, hy, rfl⟩ | ⟨y, hy, rfl⟩
  · exact (hf y hy).path
  · exact (ht y hy).path
theorem plan_small {v iv fv tv : Value} {X : List RelL} {f t : List SelL} {w : World} (hin : InW v iv fv tv X f t w) {L : List (List ByteArray)} (h : planV X f t L = 0) : L.length ≤ 24 ∧ L.flatten.length ≤ 24 ∧ ∀ p ∈ L.flatten, p.size ≤ maxLen := by
  obtain ⟨h1, h2, h3⟩ := plan_flat h
  have h4 := movesP_len f t
  have h5 := hin.fl
  have h6 := hin.tl
  exact ⟨by omega, by omega, fun p hp => moves_size hin.fy hin.ty p ((h2 p).1 hp)⟩
theorem btwV_zero {X : List RelL} {f t : List SelL} {M : List ByteArray} (h : errW X f t = 0) (hM : ∀ p ∈ M, p ∈ movesP f t) : btwV X f t M = 0 ∧ btwS X f t M = betV f t M := by
  have hv : btwV X f t M = 0 := by
    unfold btwV
    rw [if_neg (fun g => g h), if_neg]
    intro hc
    obtain ⟨p, hp, hq⟩ := List.any_eq_true.1 hc
    rw [decide_eq_true (hM p hp)] at hq
    cases hq
  refine ⟨hv, ?_⟩
  unfold btwS
  rw [if_pos hv]
end Go.Proofs.YtnjiibiafhnmgaaGreatDoor
