/- Contracts of the library's MaxFunc at Compare, and of package version's Latest. -/
import Derived.Test.YtbpgbbdebhmlkaaDoorVCompare
import Derived.Test.YtbpgbbdebhmlkaaDoorVClaims
import Derived.Shelf.Abstract
namespace Go.Proofs.YtbpgbbdebhmlkaaDoor
open Go Go.RowKit
attribute [local go_sem ↓] Go.wp_at_zero Go.wp_at_succ

abbrev V3 := Int × Int × Int
/-- the greater of two numbers, the first where they are equal. -/
def maxS (m x : V3) : V3 := if 0 < cmpV x.1 x.2.1 x.2.2 m.1 m.2.1 m.2.2 then x else m
/-- the greatest number of a list. -/
def maxV : List V3 → V3
  | [] => (0, 0, 0)
  | x :: r => r.foldl maxS x
theorem maxV_take (l : List V3) (k : Nat) (h1 : 1 ≤ k) (x : V3) (h : l[k]? = some x) : maxV (l.take (k + 1)) = maxS (maxV (l.take k)) x := by
  cases l with
  | nil => simp at h
  | cons y r =>
    obtain ⟨j, rfl⟩ : ∃ j, k = j + 1 := ⟨k - 1, by omega⟩
    have h2 : r[j]? = some x := by simpa using h
    show (r.take (j + 1)).foldl maxS y = maxS ((r.take j).foldl maxS y) x
    rw [List.take_add_one, h2, List.foldl_append]
    rfl
/-- a slice of numbers, in blocks below a bound. -/
def RowV (v : Value) (l : List V3) (w : World) : Prop :=
  (l = [] ∧ ∃ a c, v = .slice a 0 c) ∨ ∃ b off cap, v = .slice (some ⟨b, off, none⟩) l.length cap ∧ b < w.heap.size ∧ ∀ i x, l[i]? = some x → w.cell? ⟨b, off + i * 3, none⟩ = some (.int .i64 x.1) ∧ w.cell? ⟨b, off + i * 3 + 1, none⟩ = some (.int .i64 x.2.1) ∧ w.cell? ⟨b, off + i * 3 + 2, none⟩ = some (.int .i64 x.2.2)
theorem RowV.below {v : Value} {l : List V3} {w w' : World} (h : RowV v l w) (hb : Below w.heap.size w w') : RowV v l w' := by
  rcases h with h | ⟨b, off, cap, h1, h2, h3⟩
  · exact .inl h
  · refine .inr ⟨b, off, cap, h1, by have := hb.size; omega, fun i x hx => ?_⟩
    rw [hb.cell h2, hb.cell h2, hb.cell h2]
    exact h3 i x hx
theorem keepV {W w' : World} {b o B : Nat} {x0 x1 x2 m0 m1 m2 : Value} (h1 : b < W.heap.size) (h2 : B < W.heap.size) (e0 : W.cell? ⟨b, o, none⟩ = some x0) (e1 : W.cell? ⟨b, o + 1, none⟩ = some x1) (e2 : W.cell? ⟨b, o + 2, none⟩ = some x2)
    (k0 : W.cell? ⟨B, 0, none⟩ = some m0) (k1 : W.cell? ⟨B, 1, none⟩ = some m1) (k2 : W.cell? ⟨B, 2, none⟩ = some m2) (h : Below W.heap.size W w') :
    w'.cell? ⟨b, o, none⟩ = some x0 ∧ w'.cell? ⟨b, o + 1, none⟩ = some x1 ∧ w'.cell? ⟨b, o + 2, none⟩ = some x2 ∧ w'.cell? ⟨B, 0, none⟩ = some m0 ∧ w'.cell? ⟨B, 1, none⟩ = some m1 ∧ w'.cell? ⟨B, 2, none⟩ = some m2 :=
  ⟨(h.cell h1).trans e0, (h.cell h1).trans e1, (h.cell h1).trans e2, (h.cell h2).trans k0, (h.cell h2).trans k1, (h.cell h2).trans k2⟩

/-- what lies behind a round of MaxFunc. -/
def MSt (w wr : World) (m : V3) : Prop := Below w.heap.size w wr ∧ wr.heap[w.heap.size]? = some (.cells #[.int .i64 0, .int .i64 0, .int .i64 0] 23 (0, 0)) ∧ wr.heap[w.heap.size + 1]? = some (.cells #[.int .i64 m.1, .int .i64 m.2.1, .int .i64 m.2.2] 23 (0, 0))
theorem MSt.below {w wr w1 : World} {m : V3} (h : MSt w wr m) (hb : Below wr.heap.size wr w1) : MSt w w1 m := by
  obtain ⟨h1, h2, h3⟩ := h
  exact ⟨h1.trans (hb.mono h1.size), (hb.block _ (lt_of_block h2)).trans h2, (hb.block _ (lt_of_block h3)).trans h3⟩
theorem MSt.set {w wr : World} {m : V3} (h : MSt w wr m) (x y z : Int) : MSt w (((wr.setCell ⟨w.heap.size + 1, 0, none⟩ (.int .i64 x)).setCell ⟨w.heap.size + 1, 1, none⟩ (.int .i64 y)).setCell ⟨w.heap.size + 1, 2, none⟩ (.int .i64 z)) (x, y, z) := by
  obtain ⟨h1, h2, h3⟩ := h
  have hle : w.heap.size ≤ w.heap.size + 1 := Nat.le_succ _
  refine ⟨((h1.setCell (p := ⟨_, 0, none⟩) hle _).setCell (p := ⟨_, 1, none⟩) hle _).setCell (p := ⟨_, 2, none⟩) hle _, ?_, ?_⟩
  · rw [Below.heap_setCell _ _ _ _ (by show _ ≠ w.heap.size + 1; omega), Below.heap_setCell _ _ _ _ (by show _ ≠ w.heap.size + 1; omega), Below.heap_setCell _ _ _ _ (by show _ ≠ w.heap.size + 1; omega)]
    exact h2
  · simp [World.setCell, Array.getElem?_modify, h3]

set_option maxRecDepth 100000 in
set_option maxHeartbeats 8000000 in
theorem MaxFunc_any (b off cap : Nat) (l : List V3) (w : World) (h0 : l ≠ []) (hl : l.length ≤ 1000000) (hb : b < w.heap.size)
    (hc : ∀ i x, l[i]? = some x → w.cell? ⟨b, off + i * 3, none⟩ = some (.int .i64 x.1) ∧ w.cell? ⟨b, off + i * 3 + 1, none⟩ = some (.int .i64 x.2.1) ∧ w.cell? ⟨b, off + i * 3 + 2, none⟩ = some (.int .i64 x.2.2)) :
    Calls Tryd.prog 35 #[.slice (some ⟨b, off, none⟩) l.length cap, .func (.func 17) #[] #[]] w fun e w' =>
      e = .returned (.agg #[.int .i64 (maxV l).1, .int .i64 (maxV l).2.1, .int .i64 (maxV l).2.2]) ∧ Below w.heap.size w w' := by
  obtain ⟨y, hy⟩ : ∃ y, l[0]? = some y := ⟨_, List.getElem?_eq_getElem (List.length_pos_iff.2 h0)⟩
  obtain ⟨y0, y1, y2⟩ := y
  obtain ⟨c0, c1, c2⟩ := hc 0 _ hy
  simp only [Nat.zero_mul, Nat.add_zero] at c0 c1 c2
  have hn1 : 1 ≤ l.length := List.length_pos_iff.2 h0
  have HS : Hid (maxV (l.take 1) = (y0, y1, y2)) := Lib.hid (by
    cases l with
    | nil => simp at hy
    | cons z r => simp at hy; subst hy; rfl)
  have HC := Lib.hid hc
  have HB := Lib.hid hb
  obtain ⟨n, hn⟩ : ∃ n, l.length = n := ⟨_, rfl⟩
  have HN := Lib.hid hn
  rw [hn] at hl hn1 ⊢
  have hnn : (1 : Int) ≤ (n : Int) := by omega
  have hnl : (n : Int) ≤ 1000000 := by omega
  clear h0 hc hn hy
  go_enter Tryd.func35, Tryd.ntmps35
  go_wp2_with fail
  have HM0 : Hid (MSt w ((w.alloc (.cells #[.int .i64 0, .int .i64 0, .int .i64 0] 23)).alloc (.cells #[.int .i64 y0, .int .i64 y1, .int .i64 y2] 23)) (y0, y1, y2)) := Lib.hid (by
    refine ⟨(by repeat (first | exact Below.refl _ _ | refine Below.drew ?_ | refine Below.alloc ?_ (by simp <;> omega) _ | refine Below.setCell ?_ (by simp <;> omega) _)), ?_, ?_⟩
    · rw [Below.heap_alloc _ _ _ (by simp)]; exact heap_alloc_new _ _
    · have := heap_alloc_new (w.alloc (.cells #[.int .i64 0, .int .i64 0, .int .i64 0] 23)) (.cells #[.int .i64 y0, .int .i64 y1, .int .i64 y2] 23)
      rw [World.size_alloc] at this; exact this)
  go_loopw [6] (fun i wr => ∃ k : Nat, 1 ≤ k ∧ k ≤ n ∧ i = .int .i64 k ∧ Hid (MSt w wr (maxV (l.take k)))) (fun i _ => n - (intOf i).toNat)
  case atStart => exact ⟨1, Nat.le_refl _, hn1, rfl, Lib.hid (by rw [HS.out]; exact HM0.out)⟩
  case round =>
    clear HM0 c0 c1 c2
    obtain ⟨k, hk1, hk, rfl, HM⟩ := hrel
    by_cases hlt : k < n
    · obtain ⟨x, hx⟩ : ∃ x, l[k]? = some x := ⟨_, List.getElem?_eq_getElem (by have := HN.out; omega)⟩
      have HX := Lib.hid (maxV_take l k hk1 x hx)
      obtain ⟨c0, c1, c2⟩ := HC.out k x hx
      rw [← HM.out.1.cell (p := ⟨b, _, none⟩) HB.out] at c0 c1 c2
      obtain ⟨x0, x1, x2⟩ := x
      obtain ⟨⟨m0, m1, m2⟩, hm⟩ : ∃ m, maxV (l.take k) = m := ⟨_, rfl⟩
      rw [hm] at HM HX
      have e0 : wr.cell? ⟨w.heap.size + 1, 0, none⟩ = some (.int .i64 m0) := by rw [Lib.cell_of_heap HM.out.2.2]; rfl
      have e1 : wr.cell? ⟨w.heap.size + 1, 1, none⟩ = some (.int .i64 m1) := by rw [Lib.cell_of_heap HM.out.2.2]; rfl
      have e2 : wr.cell? ⟨w.heap.size + 1, 2, none⟩ = some (.int .i64 m2) := by rw [Lib.cell_of_heap HM.out.2.2]; rfl
      have hb1 : b < wr.heap.size := by have := HB.out; have := HM.out.1.size; omega
      have hb2 : w.heap.size + 1 < wr.heap.size := lt_of_block HM.out.2.2
      have hk0 : (0 : Int) ≤ (k : Int) := by omega
      have hkn : (k : Int) < (n : Int) := by omega
      simp only at c0 c1 c2
      clear hx hm
      by_cases hg : 0 < cmpV x0 x1 x2 m0 m1 m2
      · have HG := Lib.hid hg
        go_wp2_with fail
        go_region_held3 (fun w' => w'.cell? ⟨b, off + k * 3, none⟩ = some (.int .i64 x0) ∧ w'.cell? ⟨b, off + k * 3 + 1, none⟩ = some (.int .i64 x1) ∧ w'.cell? ⟨b, off + k * 3 + 2, none⟩ = some (.int .i64 x2) ∧ w'.cell? ⟨w.heap.size + 1, 0, none⟩ = some (.int .i64 m0) ∧ w'.cell? ⟨w.heap.size + 1, 1, none⟩ = some (.int .i64 m1) ∧ w'.cell? ⟨w.heap.size + 1, 2, none⟩ = some (.int .i64 m2))
          ((first | (refine keepV hb1 hb2 c0 c1 c2 e0 e1 e2 ?_; exact Below.trans (Below.drew (Below.refl _ _)) hbc) | (refine keepV hb1 hb2 c0 c1 c2 e0 e1 e2 ?_; exact Below.drew (Below.refl _ _)) | (refine keepV hb1 hb2 c0 c1 c2 e0 e1 e2 ?_; exact Below.refl _ _)))
          (first | (go_at_call 17; refine (Compare_any _ _ _ _ _ _ _).mono ?_; rintro e w1 ⟨rfl, hbc⟩))
        rename_i hHeld
        obtain ⟨d0, d1, d2, d3, d4, d5⟩ := hHeld
        have HM1 := Lib.hid (HM.out.below ((Below.drew (Below.refl _ _)).trans hbc))
        have f0 := Lib.frozen_of_heap HM1.out.2.2 0
        have f1 := Lib.frozen_of_heap HM1.out.2.2 1
        have f2 := Lib.frozen_of_heap HM1.out.2.2 2
        clear hbc
        go_wp2_with fail
        go_roundw
        case rel => exact ⟨k + 1, by omega, by omega, by go_num, Lib.hid (by rw [HX.out, show maxS (m0, m1, m2) (x0, x1, x2) = (x0, x1, x2) from if_pos HG.out]; exact HM1.out.set x0 x1 x2)⟩
        case measure => simp [intOf]; omega
      · have HG := Lib.hid hg
        have hg2 : cmpV x0 x1 x2 m0 m1 m2 ≤ 0 := by omega
        go_wp2_with fail
        go_region_held3 (fun w' => w'.cell? ⟨b, off + k * 3, none⟩ = some (.int .i64 x0) ∧ w'.cell? ⟨b, off + k * 3 + 1, none⟩ = some (.int .i64 x1) ∧ w'.cell? ⟨b, off + k * 3 + 2, none⟩ = some (.int .i64 x2) ∧ w'.cell? ⟨w.heap.size + 1, 0, none⟩ = some (.int .i64 m0) ∧ w'.cell? ⟨w.heap.size + 1, 1, none⟩ = some (.int .i64 m1) ∧ w'.cell? ⟨w.heap.size + 1, 2, none⟩ = some (.int .i64 m2))
          ((first | (refine keepV hb1 hb2 c0 c1 c2 e0 e1 e2 ?_; exact Below.trans (Below.drew (Below.refl _ _)) hbc) | (refine keepV hb1 hb2 c0 c1 c2 e0 e1 e2 ?_; exact Below.drew (Below.refl _ _)) | (refine keepV hb1 hb2 c0 c1 c2 e0 e1 e2 ?_; exact Below.refl _ _)))
          (first | (go_at_call 17; refine (Compare_any _ _ _ _ _ _ _).mono ?_; rintro e w1 ⟨rfl, hbc⟩))
        rename_i hHeld
        have HM1 := Lib.hid (HM.out.below ((Below.drew (Below.refl _ _)).trans hbc))
        clear hbc hHeld
        go_wp2_with fail
        go_roundw
        case rel => exact ⟨k + 1, by omega, by omega, by go_num, Lib.hid (by rw [HX.out, show maxS (m0, m1, m2) (x0, x1, x2) = (m0, m1, m2) from if_neg (by have := HG.out; simp only; omega)]; exact HM1.out)⟩
        case measure => simp [intOf]; omega
    · obtain rfl : k = n := by omega
      have HE := Lib.hid (show maxV (l.take k) = maxV l by rw [List.take_of_length_le (by have := HN.out; omega)])
      rw [HE.out] at HM
      obtain ⟨⟨m0, m1, m2⟩, hm⟩ : ∃ m, maxV l = m := ⟨_, rfl⟩
      rw [hm] at HM
      have HMM := Lib.hid hm
      have e0 : wr.cell? ⟨w.heap.size + 1, 0, none⟩ = some (.int .i64 m0) := by rw [Lib.cell_of_heap HM.out.2.2]; rfl
      have e1 : wr.cell? ⟨w.heap.size + 1, 1, none⟩ = some (.int .i64 m1) := by rw [Lib.cell_of_heap HM.out.2.2]; rfl
      have e2 : wr.cell? ⟨w.heap.size + 1, 2, none⟩ = some (.int .i64 m2) := by rw [Lib.cell_of_heap HM.out.2.2]; rfl
      have z0 : wr.cell? ⟨w.heap.size, 0, none⟩ = some (.int .i64 0) := by rw [Lib.cell_of_heap HM.out.2.1]; rfl
      have z1 : wr.cell? ⟨w.heap.size, 1, none⟩ = some (.int .i64 0) := by rw [Lib.cell_of_heap HM.out.2.1]; rfl
      have z2 : wr.cell? ⟨w.heap.size, 2, none⟩ = some (.int .i64 0) := by rw [Lib.cell_of_heap HM.out.2.1]; rfl
      have f0 := Lib.frozen_of_heap HM.out.2.1 0
      have f1 := Lib.frozen_of_heap HM.out.2.1 1
      have f2 := Lib.frozen_of_heap HM.out.2.1 2
      clear hm
      go_wp2_with fail
      rw [HMM.out]
      exact bodyPost_ret (v := .agg #[.int .i64 m0, .int .i64 m1, .int .i64 m2]) (by simp [results, Tryd.results35, go_sem, z0, z1, z2]) rfl ⟨rfl, ((HM.out.1.setCell (p := ⟨_, 0, none⟩) (Nat.le_refl _) _).setCell (p := ⟨_, 1, none⟩) (Nat.le_refl _) _).setCell (p := ⟨_, 2, none⟩) (Nat.le_refl _) _⟩
set_option maxRecDepth 100000 in
set_option maxHeartbeats 8000000 in
theorem Latest_any (v : Value) (l : List V3) (w : World) (hl : l.length ≤ 1000000) (hv : RowV v l w) : Calls Tryd.prog 18 #[v] w fun e w' =>
    e = .returned (.tuple #[.agg #[.int .i64 (maxV l).1, .int .i64 (maxV l).2.1, .int .i64 (maxV l).2.2], .bool (decide (l ≠ []))]) ∧ Below w.heap.size w w' := by
  by_cases h0 : l = []
  · obtain ⟨a, c, rfl⟩ : ∃ a c, v = .slice a 0 c := by
      rcases hv with ⟨_, h⟩ | ⟨b, off, cap, h, _⟩
      · exact h
      · exact ⟨_, _, by rw [h, h0]; rfl⟩
    subst h0
    have HE := Lib.hid (show maxV [] = (0, 0, 0) from rfl)
    rw [HE.out]
    clear hv
    go_enter Tryd.func18, Tryd.ntmps18
    go_wp2_with fail
    exact bodyPost_ret (v := .tuple #[.agg #[.int .i64 0, .int .i64 0, .int .i64 0], .bool false]) (by simp [results, Tryd.results18, go_sem]) rfl ⟨rfl, (by repeat (first | exact Below.refl _ _ | refine Below.drew ?_ | refine Below.alloc ?_ (by simp <;> omega) _ | refine Below.setCell ?_ (by simp <;> omega) _))⟩
  · obtain ⟨b, off, cap, rfl, hb, hc⟩ : ∃ b off cap, v = .slice (some ⟨b, off, none⟩) l.length cap ∧ b < w.heap.size ∧ ∀ i x, l[i]? = some x → w.cell? ⟨b, off + i * 3, none⟩ = some (.int .i64 x.1) ∧ w.cell? ⟨b, off + i * 3 + 1, none⟩ = some (.int .i64 x.2.1) ∧ w.cell? ⟨b, off + i * 3 + 2, none⟩ = some (.int .i64 x.2.2) := by
      rcases hv with ⟨h, _⟩ | h
      · exact absurd h h0
      · exact h
    have hd := Lib.hid (show decide (l ≠ []) = true from decide_eq_true h0)
    rw [hd.out]
    have HMX := Lib.hid (MaxFunc_any b off cap l (w.alloc (.cells #[.int .i64 0, .int .i64 0, .int .i64 0] 23)) h0 hl (by simp; omega) (fun i x hx => by
      have h1 := (Below.refl _ w).alloc (Nat.le_refl _) (.cells #[.int .i64 0, .int .i64 0, .int .i64 0] 23)
      rw [h1.cell hb, h1.cell hb, h1.cell hb]
      exact hc i x hx))
    have hne : (((l.length : Int)) == 0) = false := by
      have := List.length_pos_iff.2 h0
      rw [beq_eq_false_iff_ne]; omega
    obtain ⟨⟨m0, m1, m2⟩, hm⟩ : ∃ m, maxV l = m := ⟨_, rfl⟩
    rw [hm] at HMX ⊢
    clear hc h0 hm
    go_enter Tryd.func18, Tryd.ntmps18
    go_wp2_with fail
    (with_reducible refine HMX.out.mono ?_)
    rintro e w1 ⟨rfl, hb1⟩
    have hz := heap_alloc_new w (.cells #[.int .i64 0, .int .i64 0, .int .i64 0] 23)
    have hz1 : w1.heap[w.heap.size]? = some (.cells #[.int .i64 0, .int .i64 0, .int .i64 0] 23 (0, 0)) := (hb1.block _ (by simp)).trans hz
    have z0 : w1.cell? ⟨w.heap.size, 0, none⟩ = some (.int .i64 0) := by rw [Lib.cell_of_heap hz1]; rfl
    have z1 : w1.cell? ⟨w.heap.size, 1, none⟩ = some (.int .i64 0) := by rw [Lib.cell_of_heap hz1]; rfl
    have z2 : w1.cell? ⟨w.heap.size, 2, none⟩ = some (.int .i64 0) := by rw [Lib.cell_of_heap hz1]; rfl
    have f0 := Lib.frozen_of_heap hz1 0
    have f1 := Lib.frozen_of_heap hz1 1
    have f2 := Lib.frozen_of_heap hz1 2
    have HB1 : Hid (Below w.heap.size w w1) := Lib.hid (((Below.refl _ w).alloc (Nat.le_refl _) _).trans (hb1.mono (by simp)))
    clear hb1 hz hz1
    go_wp2_with fail
    exact bodyPost_ret (v := .tuple #[.agg #[.int .i64 m0, .int .i64 m1, .int .i64 m2], .bool true]) (by simp [results, Tryd.results18, go_sem, z0, z1, z2]) rfl ⟨rfl, ((HB1.out.setCell (p := ⟨_, 0, none⟩) (Nat.le_refl _) _).setCell (p := ⟨_, 1, none⟩) (Nat.le_refl _) _).setCell (p := ⟨_, 2, none⟩) (Nat.le_refl _) _⟩
end Go.Proofs.YtbpgbbdebhmlkaaDoor
