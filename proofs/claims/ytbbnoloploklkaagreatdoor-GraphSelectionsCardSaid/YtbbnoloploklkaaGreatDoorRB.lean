/- Contract of the graph law's awake. -/
import Derived.Test.YtbbnoloploklkaaGreatDoorRA
namespace Go.Proofs.YtbbnoloploklkaaGreatDoor
set_option linter.unusedVariables false
set_option linter.unusedSimpArgs false
open Go Go.RowKit

theorem Equal_ints (v u : Value) (xs ys : List Int) (w : World) (hx : RowOf intC w.heap.size v xs w) (hy : RowOf intC w.heap.size u ys w) (hxl : xs.length ≤ 1000000000) (hyl : ys.length ≤ 1000000000) :
    Calls Tryz.prog 114 #[v, u] w fun e w' => e = .returned (.bool (decide (xs = ys))) ∧ ∃ q, w' = w.drewN q := by
  have hd : ∀ (x y : List Int), (x == y) = decide (x = y) := fun x y => by
    by_cases h : x = y
    · subst h; simp
    · rw [decide_eq_false h]; simpa using h
  rcases hx with ⟨rfl, a1, c1, rfl⟩ | ⟨b1, o1, c1, rfl, hb1, hc1⟩
  · obtain ⟨a2, c2, rfl, _⟩ := rowOf_open hy
    refine (Tryz.slices_Equal_int_empty a1 a2 c1 ys.length c2 w (by omega)).mono ?_
    rintro e w' ⟨rfl, rfl⟩
    refine ⟨?_, 0, rfl⟩
    cases ys with
    | nil => rfl
    | cons y ys => simp
  · rcases hy with ⟨rfl, a2, c2, rfl⟩ | ⟨b2, o2, c2, rfl, hb2, hc2⟩
    · cases xs with
      | nil =>
        refine (Tryz.slices_Equal_int_empty (some ⟨b1, o1, none⟩) a2 c1 0 c2 w (by omega)).mono ?_
        rintro e w' ⟨rfl, rfl⟩
        exact ⟨rfl, 0, rfl⟩
      | cons x xs =>
        refine (Tryz.slices_Equal_int_lens (some ⟨b1, o1, none⟩) a2 (x :: xs).length c1 0 c2 w (by simp)).mono ?_
        rintro e w' ⟨rfl, rfl⟩
        exact ⟨by simp, 0, rfl⟩
    · have key : ∀ (l : List Int) (b o : Nat), (∀ i x, l[i]? = some x → w.cell? ⟨b, o + i, none⟩ = some (intC x)) → ∀ j, j < l.length → w.cell? ⟨b, o + j, none⟩ = some (.int .i64 (l.getD j 0)) := fun l b o h j hj => by
        rw [List.getD_eq_getElem?_getD, List.getElem?_eq_getElem hj]
        exact h j l[j] (by simp [hj])
      refine (Tryz.slices_Equal_int b1 o1 xs.length c1 b2 o2 ys.length c2 xs ys w (Nat.le_refl _) (Nat.le_refl _) (by omega) (by omega) (key xs b1 o1 hc1) (key ys b2 o2 hc2)).mono ?_
      rintro e w' ⟨rfl, q, rfl⟩
      rw [List.take_length, List.take_length, hd]
      exact ⟨rfl, q, rfl⟩

theorem info_strsA : (Tryz.prog.info? 9).map (fun i => (i.zero, i.size, i.bytes)) = some (some (Value.string ⟨#[]⟩), 1, 16) := by kernel_rfl
theorem make_strs (n : Nat) (hn : n ≤ 1000000) (w : World) : (Instr.makeSlice 75 (.int .i64 (n : Int)) (.int .i64 (n : Int))).run Tryz.prog w = .ok (.slice (some ⟨w.heap.size, 0, none⟩) n n) (w.alloc (.cells (Array.replicate n (.string ⟨#[]⟩)) 9)) := by
  have h := run_make_row' (P := Tryz.prog) 75 9 (.string ⟨#[]⟩) 16 Tryz.underlying75 info_strsA rfl .i64 .i64 n (by omega) (by omega) w
  rw [h, made_rep]
theorem alloc_get (w : World) (o : Obj) (k : Nat) : (w.alloc o).heap[k]? = if k = w.heap.size then some o else w.heap[k]? := by
  show (w.heap.push o)[k]? = _
  rw [Array.getElem?_push]
theorem rows_lit {W : World} {bt c : Nat} {S : List (List Nat)} (hb : bt < W.heap.size) (h : ∀ i l, S[i]? = some l → ∃ g, W.cell? ⟨bt, i, none⟩ = some (.slice (some ⟨g, 0, none⟩) l.length l.length) ∧ W.heap[g]? = some (.cells (l.map natC).toArray 3 (0, 0))) : RowsOf W.heap.size (.slice (some ⟨bt, 0, none⟩) S.length c) S W := by
  refine .inr ⟨bt, 0, c, rfl, hb, fun i l hl => ?_⟩
  obtain ⟨g, h1, h2⟩ := h i l hl
  refine ⟨_, by rw [Nat.zero_add]; exact h1, .inr ⟨g, 0, l.length, rfl, (Array.getElem?_eq_some_iff.1 h2).1, fun j x hx => ?_⟩⟩
  rw [Nat.zero_add, cell_of_row _ _ _ _ _ _ h2]
  simp [hx]
theorem row_lit {W : World} {b c : Nat} {l : List Nat} (h : W.heap[b]? = some (.cells (l.map natC).toArray 3 (0, 0))) : RowOf intC W.heap.size (.slice (some ⟨b, 0, none⟩) l.length c) (l.map fun n : Nat => (n : Int)) W := by
  refine .inr ⟨b, 0, c, by rw [List.length_map], (Array.getElem?_eq_some_iff.1 h).1, fun j x hx => ?_⟩
  rw [Nat.zero_add, cell_of_row _ _ _ _ _ _ h]
  rw [List.getElem?_map] at hx
  cases e : l[j]? with
  | none => rw [e] at hx; cases hx
  | some y => rw [e] at hx; cases hx; simp [e]

theorem rev0 : sucs 5 (es0.map swapE) = [[], [0, 2], [1], [2, 4], []] := by decide
theorem reach0 (l : List Nat) (h : ReachS 5 (es0.map swapE) ([3].map Int.ofNat) l) : l.length = 5 := by
  obtain ⟨h1, h2⟩ := h
  rw [rev0] at h2
  have r3 : Rch [[], [0, 2], [1], [2, 4], []] 3 3 := .refl _
  have r4 : Rch [[], [0, 2], [1], [2, 4], []] 3 4 := .step (by decide) (.refl _)
  have r2 : Rch [[], [0, 2], [1], [2, 4], []] 3 2 := .step (by decide) (.refl _)
  have r1 : Rch [[], [0, 2], [1], [2, 4], []] 3 1 := r2.trans (.step (by decide) (.refl _))
  have r0 : Rch [[], [0, 2], [1], [2, 4], []] 3 0 := r1.trans (.step (by decide) (.refl _))
  have hp : l.Perm (List.range 5) := by
    refine (List.perm_ext_iff_of_nodup (h1.imp fun h => Nat.ne_of_lt h) List.nodup_range).2 fun k => ?_
    rw [h2 k, List.mem_range]
    refine ⟨fun h => h.1, fun h => ⟨h, 3, by decide, ?_⟩⟩
    match k, h with
    | 0, _ => exact r0
    | 1, _ => exact r1
    | 2, _ => exact r2
    | 3, _ => exact r3
    | 4, _ => exact r4
    | k + 5, h => omega
  rw [hp.length_eq, List.length_range]

set_option maxRecDepth 100000 in
set_option maxHeartbeats 4000000 in
theorem awake_any (w : World) : Calls Tryz.prog 47 #[] w fun e w' => e = .returned (.bool true) ∧ Below w.heap.size w w' := by
  have hmk : ∀ w : World, (Instr.makeSlice 75 (.int .i64 5) (.int .i64 5)).run Tryz.prog w = .ok (.slice (some ⟨w.heap.size, 0, none⟩) 5 5) (w.alloc (.cells (Array.replicate 5 (.string ⟨#[]⟩)) 9)) := make_strs 5 (by decide)
  go_enter Tryz.func47, Tryz.ntmps47
  go_wp2_with fail
  clear hmk
  have hb0 : Below w.heap.size w (((w.alloc (.cells (Array.replicate 5 (.string ⟨#[]⟩)) 9)).alloc (.cells #[.int .i64 0, .int .i64 1, .int .i64 1, .int .i64 2, .int .i64 2, .int .i64 1, .int .i64 2, .int .i64 3, .int .i64 4, .int .i64 3] 84)).alloc (.cells #[.slice (some ⟨w.heap.size, 0, none⟩) 5 5, .slice (some ⟨w.heap.size + 1, 0, none⟩) 5 5] 78)) := (((Below.refl _ _).alloc (Nat.le_refl _) _).alloc (by simp) _).alloc (by simp; omega) _
  have hg : (((w.alloc (.cells (Array.replicate 5 (.string ⟨#[]⟩)) 9)).alloc (.cells #[.int .i64 0, .int .i64 1, .int .i64 1, .int .i64 2, .int .i64 2, .int .i64 1, .int .i64 2, .int .i64 3, .int .i64 4, .int .i64 3] 84)).alloc (.cells #[.slice (some ⟨w.heap.size, 0, none⟩) 5 5, .slice (some ⟨w.heap.size + 1, 0, none⟩) 5 5] 78)).heap[w.heap.size + 1 + 1]? = some (.cells #[.slice (some ⟨w.heap.size, 0, none⟩) 5 5, .slice (some ⟨w.heap.size + 1, 0, none⟩) 5 5] 78 (0, 0)) := by (simp only [alloc_get, World.size_alloc]; repeat (first | rw [if_pos trivial] | rw [if_neg (by omega)] | rw [if_pos (by omega)]))
  have he : (((w.alloc (.cells (Array.replicate 5 (.string ⟨#[]⟩)) 9)).alloc (.cells #[.int .i64 0, .int .i64 1, .int .i64 1, .int .i64 2, .int .i64 2, .int .i64 1, .int .i64 2, .int .i64 3, .int .i64 4, .int .i64 3] 84)).alloc (.cells #[.slice (some ⟨w.heap.size, 0, none⟩) 5 5, .slice (some ⟨w.heap.size + 1, 0, none⟩) 5 5] 78)).heap[w.heap.size + 1]? = some (.cells #[.int .i64 0, .int .i64 1, .int .i64 1, .int .i64 2, .int .i64 2, .int .i64 1, .int .i64 2, .int .i64 3, .int .i64 4, .int .i64 3] 84 (0, 0)) := by (simp only [alloc_get, World.size_alloc]; repeat (first | rw [if_pos trivial] | rw [if_neg (by omega)] | rw [if_pos (by omega)]))
  have hn : (((w.alloc (.cells (Array.replicate 5 (.string ⟨#[]⟩)) 9)).alloc (.cells #[.int .i64 0, .int .i64 1, .int .i64 1, .int .i64 2, .int .i64 2, .int .i64 1, .int .i64 2, .int .i64 3, .int .i64 4, .int .i64 3] 84)).alloc (.cells #[.slice (some ⟨w.heap.size, 0, none⟩) 5 5, .slice (some ⟨w.heap.size + 1, 0, none⟩) 5 5] 78)).heap[w.heap.size]? = some (.cells (Array.replicate 5 (.string ⟨#[]⟩)) 9 (0, 0)) := by (simp only [alloc_get, World.size_alloc]; repeat (first | rw [if_pos trivial] | rw [if_neg (by omega)] | rw [if_pos (by omega)]))
  have hs1 : (((w.alloc (.cells (Array.replicate 5 (.string ⟨#[]⟩)) 9)).alloc (.cells #[.int .i64 0, .int .i64 1, .int .i64 1, .int .i64 2, .int .i64 2, .int .i64 1, .int .i64 2, .int .i64 3, .int .i64 4, .int .i64 3] 84)).alloc (.cells #[.slice (some ⟨w.heap.size, 0, none⟩) 5 5, .slice (some ⟨w.heap.size + 1, 0, none⟩) 5 5] 78)).heap.size = w.heap.size + 3 := by simp
  generalize (((w.alloc (.cells (Array.replicate 5 (.string ⟨#[]⟩)) 9)).alloc (.cells #[.int .i64 0, .int .i64 1, .int .i64 1, .int .i64 2, .int .i64 2, .int .i64 1, .int .i64 2, .int .i64 3, .int .i64 4, .int .i64 3] 84)).alloc (.cells #[.slice (some ⟨w.heap.size, 0, none⟩) 5 5, .slice (some ⟨w.heap.size + 1, 0, none⟩) 5 5] 78)) = W1 at *
  have HN1 : RowOf Value.string W1.heap.size (.slice (some ⟨w.heap.size, 0, none⟩) 5 5) ns0 W1 := by
    refine .inr ⟨w.heap.size, 0, 5, rfl, by omega, fun i x hx => ?_⟩
    rw [Nat.zero_add, cell_of_row _ _ _ _ _ _ hn]
    obtain rfl : x = ⟨#[]⟩ := List.eq_of_mem_replicate (List.mem_of_getElem? hx)
    have hi := (List.getElem?_eq_some_iff.1 hx).1
    rw [ns0_len] at hi
    rw [Array.getElem?_replicate, if_pos hi]
  have HE1 : EdgesOf W1.heap.size (.slice (some ⟨w.heap.size + 1, 0, none⟩) 5 5) es0 W1 := by
    refine ⟨_, 5, rfl, fun i x hx => ⟨_, 0, rfl, by omega, ?_⟩⟩
    rw [Nat.zero_add, cell_of_row _ _ _ _ _ _ he, cell_of_row _ _ _ _ _ _ he]
    match i, hx with
    | 0, hx => cases hx; exact ⟨rfl, rfl⟩
    | 1, hx => cases hx; exact ⟨rfl, rfl⟩
    | 2, hx => cases hx; exact ⟨rfl, rfl⟩
    | 3, hx => cases hx; exact ⟨rfl, rfl⟩
    | 4, hx => cases hx; exact ⟨rfl, rfl⟩
    | i + 5, hx => simp [es0] at hx
  have HALL : Hid (∀ W : World, Below W1.heap.size W1 W → RowOf Value.string W.heap.size (.slice (some ⟨w.heap.size, 0, none⟩) 5 5) ns0 W ∧ EdgesOf W.heap.size (.slice (some ⟨w.heap.size + 1, 0, none⟩) 5 5) es0 W ∧ W.cell? ⟨w.heap.size + 1 + 1, 0, none⟩ = some (.slice (some ⟨w.heap.size, 0, none⟩) 5 5) ∧ W.cell? ⟨w.heap.size + 1 + 1, 1, none⟩ = some (.slice (some ⟨w.heap.size + 1, 0, none⟩) 5 5)) := Lib.hid fun W h =>
    ⟨(HN1.below h (Nat.le_refl _)).mono h.size, (HE1.below h (Nat.le_refl _)).mono h.size, cell_of_row _ _ 0 _ _ _ ((h.block _ (by omega)).trans hg), cell_of_row _ _ 1 _ _ _ ((h.block _ (by omega)).trans hg)⟩
  have HB0 := Lib.hid hb0
  have hval : validG ns0.length es0 = true := by rw [ns0_len]; exact val0
  have HVAL := Lib.hid hval
  have hnum : Numbered ns0.length es0 := by rw [ns0_len]; exact num0
  have HNUM := Lib.hid hnum
  clear hb0 hg he hn HN1 HE1 hval hnum
  obtain ⟨n1, e1, _, _⟩ := HALL.out W1 (Below.refl _ _)
  have hx := GValid_any (some ⟨w.heap.size, 0, none⟩) 5 5 _ es0 W1 (by decide) e1
  rw [val0] at hx
  refine hx.mono ?_
  rintro e w2 ⟨rfl, hb2⟩
  have HB2 := Lib.hid (hb2.mono (Nat.le_refl W1.heap.size))
  obtain ⟨n2, e2, c20, c21⟩ := HALL.out w2 HB2.out
  have hcomp := Components_yes _ _ ns0 es0 w2 e2 n2 HVAL.out HNUM.out
  rw [ns0_len, comps0] at hcomp
  have HCOMP := Lib.hid hcomp
  have hsz2 := hb2.size
  clear hx hb2 n1 e1 n2 e2 hcomp
  go_wp2_with fail
  refine HCOMP.out.mono ?_
  rintro e w3 ⟨v3, rfl, hr3, hb3⟩
  have hsz3 := hb3.size
  have HB3 := Lib.hid (HB2.out.trans (hb3.mono (by omega)))
  obtain ⟨va3, vc3, rfl⟩ := rows_shape hr3
  have HR3 := Lib.hid hr3
  clear hr3 hb3 HCOMP c20 c21
  go_wp2_with fail
  have hTW5 : (((((w3.alloc (.cells #[.int .i64 3] 3)).alloc (.cells #[.int .i64 1, .int .i64 2] 3)).alloc (.cells #[.int .i64 0] 3)).alloc (.cells #[.int .i64 4] 3)).alloc (.cells #[.slice (some ⟨w3.heap.size, 0, none⟩) 1 1, .slice (some ⟨w3.heap.size + 1, 0, none⟩) 2 2, .slice (some ⟨w3.heap.size + 1 + 1, 0, none⟩) 1 1, .slice (some ⟨w3.heap.size + 1 + 1 + 1, 0, none⟩) 1 1] 86)).heap[w3.heap.size + 1 + 1 + 1 + 1]? = some (.cells #[.slice (some ⟨w3.heap.size, 0, none⟩) 1 1, .slice (some ⟨w3.heap.size + 1, 0, none⟩) 2 2, .slice (some ⟨w3.heap.size + 1 + 1, 0, none⟩) 1 1, .slice (some ⟨w3.heap.size + 1 + 1 + 1, 0, none⟩) 1 1] 86 (0, 0)) := by (simp only [alloc_get, World.size_alloc]; repeat (first | rw [if_pos trivial] | rw [if_neg (by omega)] | rw [if_pos (by omega)]))
  have hTW50 : (((((w3.alloc (.cells #[.int .i64 3] 3)).alloc (.cells #[.int .i64 1, .int .i64 2] 3)).alloc (.cells #[.int .i64 0] 3)).alloc (.cells #[.int .i64 4] 3)).alloc (.cells #[.slice (some ⟨w3.heap.size, 0, none⟩) 1 1, .slice (some ⟨w3.heap.size + 1, 0, none⟩) 2 2, .slice (some ⟨w3.heap.size + 1 + 1, 0, none⟩) 1 1, .slice (some ⟨w3.heap.size + 1 + 1 + 1, 0, none⟩) 1 1] 86)).heap[w3.heap.size]? = some (.cells #[.int .i64 3] 3 (0, 0)) := by (simp only [alloc_get, World.size_alloc]; repeat (first | rw [if_pos trivial] | rw [if_neg (by omega)] | rw [if_pos (by omega)]))
  have hTW51 : (((((w3.alloc (.cells #[.int .i64 3] 3)).alloc (.cells #[.int .i64 1, .int .i64 2] 3)).alloc (.cells #[.int .i64 0] 3)).alloc (.cells #[.int .i64 4] 3)).alloc (.cells #[.slice (some ⟨w3.heap.size, 0, none⟩) 1 1, .slice (some ⟨w3.heap.size + 1, 0, none⟩) 2 2, .slice (some ⟨w3.heap.size + 1 + 1, 0, none⟩) 1 1, .slice (some ⟨w3.heap.size + 1 + 1 + 1, 0, none⟩) 1 1] 86)).heap[w3.heap.size + 1]? = some (.cells #[.int .i64 1, .int .i64 2] 3 (0, 0)) := by (simp only [alloc_get, World.size_alloc]; repeat (first | rw [if_pos trivial] | rw [if_neg (by omega)] | rw [if_pos (by omega)]))
  have hTW52 : (((((w3.alloc (.cells #[.int .i64 3] 3)).alloc (.cells #[.int .i64 1, .int .i64 2] 3)).alloc (.cells #[.int .i64 0] 3)).alloc (.cells #[.int .i64 4] 3)).alloc (.cells #[.slice (some ⟨w3.heap.size, 0, none⟩) 1 1, .slice (some ⟨w3.heap.size + 1, 0, none⟩) 2 2, .slice (some ⟨w3.heap.size + 1 + 1, 0, none⟩) 1 1, .slice (some ⟨w3.heap.size + 1 + 1 + 1, 0, none⟩) 1 1] 86)).heap[w3.heap.size + 1 + 1]? = some (.cells #[.int .i64 0] 3 (0, 0)) := by (simp only [alloc_get, World.size_alloc]; repeat (first | rw [if_pos trivial] | rw [if_neg (by omega)] | rw [if_pos (by omega)]))
  have hTW53 : (((((w3.alloc (.cells #[.int .i64 3] 3)).alloc (.cells #[.int .i64 1, .int .i64 2] 3)).alloc (.cells #[.int .i64 0] 3)).alloc (.cells #[.int .i64 4] 3)).alloc (.cells #[.slice (some ⟨w3.heap.size, 0, none⟩) 1 1, .slice (some ⟨w3.heap.size + 1, 0, none⟩) 2 2, .slice (some ⟨w3.heap.size + 1 + 1, 0, none⟩) 1 1, .slice (some ⟨w3.heap.size + 1 + 1 + 1, 0, none⟩) 1 1] 86)).heap[w3.heap.size + 1 + 1 + 1]? = some (.cells #[.int .i64 4] 3 (0, 0)) := by (simp only [alloc_get, World.size_alloc]; repeat (first | rw [if_pos trivial] | rw [if_neg (by omega)] | rw [if_pos (by omega)]))
  have hbW5 : Below w3.heap.size w3 (((((w3.alloc (.cells #[.int .i64 3] 3)).alloc (.cells #[.int .i64 1, .int .i64 2] 3)).alloc (.cells #[.int .i64 0] 3)).alloc (.cells #[.int .i64 4] 3)).alloc (.cells #[.slice (some ⟨w3.heap.size, 0, none⟩) 1 1, .slice (some ⟨w3.heap.size + 1, 0, none⟩) 2 2, .slice (some ⟨w3.heap.size + 1 + 1, 0, none⟩) 1 1, .slice (some ⟨w3.heap.size + 1 + 1 + 1, 0, none⟩) 1 1] 86)) := (((((Below.refl _ _).alloc (Nat.le_refl _) _).alloc (by simp) _).alloc (by simp; omega) _).alloc (by simp; omega) _).alloc (by simp; omega) _
  generalize (((((w3.alloc (.cells #[.int .i64 3] 3)).alloc (.cells #[.int .i64 1, .int .i64 2] 3)).alloc (.cells #[.int .i64 0] 3)).alloc (.cells #[.int .i64 4] 3)).alloc (.cells #[.slice (some ⟨w3.heap.size, 0, none⟩) 1 1, .slice (some ⟨w3.heap.size + 1, 0, none⟩) 2 2, .slice (some ⟨w3.heap.size + 1 + 1, 0, none⟩) 1 1, .slice (some ⟨w3.heap.size + 1 + 1 + 1, 0, none⟩) 1 1] 86)) = W5 at *
  have hLW5 : RowsOf W5.heap.size (.slice (some ⟨w3.heap.size + 1 + 1 + 1 + 1, 0, none⟩) 4 4) [[3], [1, 2], [0], [4]] W5 := rows_lit (S := [[3], [1, 2], [0], [4]]) (Array.getElem?_eq_some_iff.1 hTW5).1 (fun i l hl => by
    match i, hl with
    | 0, hl => cases hl; exact ⟨w3.heap.size, cell_of_row _ _ 0 _ _ _ hTW5, hTW50⟩
    | 1, hl => cases hl; exact ⟨w3.heap.size + 1, cell_of_row _ _ 1 _ _ _ hTW5, hTW51⟩
    | 2, hl => cases hl; exact ⟨w3.heap.size + 1 + 1, cell_of_row _ _ 2 _ _ _ hTW5, hTW52⟩
    | 3, hl => cases hl; exact ⟨w3.heap.size + 1 + 1 + 1, cell_of_row _ _ 3 _ _ _ hTW5, hTW53⟩
    | i + 4, hl => simp at hl)
  have hsz5 := hbW5.size
  have HB5 := Lib.hid (HB3.out.trans (hbW5.mono (by omega)))
  have hsame := Same_any _ _ _ _ W5 ((HR3.out.below hbW5 (Nat.le_refl _)).mono hsz5) hLW5 (by decide) (by decide) (fun i => by match i with | 0 => decide | 1 => decide | 2 => decide | 3 => decide | i + 4 => simp) (fun i => by match i with | 0 => decide | 1 => decide | 2 => decide | 3 => decide | i + 4 => simp)
  rw [decide_eq_true rfl] at hsame
  refine hsame.mono ?_
  rintro e w6 ⟨rfl, hb6⟩
  have hsz6 := hb6.size
  have HB6 := Lib.hid (HB5.out.trans (hb6.mono (by omega)))
  obtain ⟨n6, e6, c60, c61⟩ := HALL.out w6 HB6.out
  have hlev := Levels_yes _ _ ns0 es0 w6 e6 n6 HVAL.out HNUM.out
  rw [ns0_len, levels0] at hlev
  have HLEV := Lib.hid hlev
  clear hsame hb6 n6 e6 hlev hTW5 hTW50 hTW51 hTW52 hTW53 hbW5 hLW5
  go_wp2_with fail
  refine HLEV.out.mono ?_
  rintro e w7 ⟨v7, rfl, hr7, hb7⟩
  have hsz7 := hb7.size
  have HB7 := Lib.hid (HB6.out.trans (hb7.mono (by omega)))
  obtain ⟨va7, vc7, rfl⟩ := rows_shape hr7
  have HR7 := Lib.hid hr7
  clear hr7 hb7 HLEV c60 c61
  go_wp2_with fail
  have hTW8 : ((((w7.alloc (.cells #[.int .i64 3] 3)).alloc (.cells #[.int .i64 1, .int .i64 2, .int .i64 4] 3)).alloc (.cells #[.int .i64 0] 3)).alloc (.cells #[.slice (some ⟨w7.heap.size, 0, none⟩) 1 1, .slice (some ⟨w7.heap.size + 1, 0, none⟩) 3 3, .slice (some ⟨w7.heap.size + 1 + 1, 0, none⟩) 1 1] 86)).heap[w7.heap.size + 1 + 1 + 1]? = some (.cells #[.slice (some ⟨w7.heap.size, 0, none⟩) 1 1, .slice (some ⟨w7.heap.size + 1, 0, none⟩) 3 3, .slice (some ⟨w7.heap.size + 1 + 1, 0, none⟩) 1 1] 86 (0, 0)) := by (simp only [alloc_get, World.size_alloc]; repeat (first | rw [if_pos trivial] | rw [if_neg (by omega)] | rw [if_pos (by omega)]))
  have hTW80 : ((((w7.alloc (.cells #[.int .i64 3] 3)).alloc (.cells #[.int .i64 1, .int .i64 2, .int .i64 4] 3)).alloc (.cells #[.int .i64 0] 3)).alloc (.cells #[.slice (some ⟨w7.heap.size, 0, none⟩) 1 1, .slice (some ⟨w7.heap.size + 1, 0, none⟩) 3 3, .slice (some ⟨w7.heap.size + 1 + 1, 0, none⟩) 1 1] 86)).heap[w7.heap.size]? = some (.cells #[.int .i64 3] 3 (0, 0)) := by (simp only [alloc_get, World.size_alloc]; repeat (first | rw [if_pos trivial] | rw [if_neg (by omega)] | rw [if_pos (by omega)]))
  have hTW81 : ((((w7.alloc (.cells #[.int .i64 3] 3)).alloc (.cells #[.int .i64 1, .int .i64 2, .int .i64 4] 3)).alloc (.cells #[.int .i64 0] 3)).alloc (.cells #[.slice (some ⟨w7.heap.size, 0, none⟩) 1 1, .slice (some ⟨w7.heap.size + 1, 0, none⟩) 3 3, .slice (some ⟨w7.heap.size + 1 + 1, 0, none⟩) 1 1] 86)).heap[w7.heap.size + 1]? = some (.cells #[.int .i64 1, .int .i64 2, .int .i64 4] 3 (0, 0)) := by (simp only [alloc_get, World.size_alloc]; repeat (first | rw [if_pos trivial] | rw [if_neg (by omega)] | rw [if_pos (by omega)]))
  have hTW82 : ((((w7.alloc (.cells #[.int .i64 3] 3)).alloc (.cells #[.int .i64 1, .int .i64 2, .int .i64 4] 3)).alloc (.cells #[.int .i64 0] 3)).alloc (.cells #[.slice (some ⟨w7.heap.size, 0, none⟩) 1 1, .slice (some ⟨w7.heap.size + 1, 0, none⟩) 3 3, .slice (some ⟨w7.heap.size + 1 + 1, 0, none⟩) 1 1] 86)).heap[w7.heap.size + 1 + 1]? = some (.cells #[.int .i64 0] 3 (0, 0)) := by (simp only [alloc_get, World.size_alloc]; repeat (first | rw [if_pos trivial] | rw [if_neg (by omega)] | rw [if_pos (by omega)]))
  have hbW8 : Below w7.heap.size w7 ((((w7.alloc (.cells #[.int .i64 3] 3)).alloc (.cells #[.int .i64 1, .int .i64 2, .int .i64 4] 3)).alloc (.cells #[.int .i64 0] 3)).alloc (.cells #[.slice (some ⟨w7.heap.size, 0, none⟩) 1 1, .slice (some ⟨w7.heap.size + 1, 0, none⟩) 3 3, .slice (some ⟨w7.heap.size + 1 + 1, 0, none⟩) 1 1] 86)) := ((((Below.refl _ _).alloc (Nat.le_refl _) _).alloc (by simp) _).alloc (by simp; omega) _).alloc (by simp; omega) _
  generalize ((((w7.alloc (.cells #[.int .i64 3] 3)).alloc (.cells #[.int .i64 1, .int .i64 2, .int .i64 4] 3)).alloc (.cells #[.int .i64 0] 3)).alloc (.cells #[.slice (some ⟨w7.heap.size, 0, none⟩) 1 1, .slice (some ⟨w7.heap.size + 1, 0, none⟩) 3 3, .slice (some ⟨w7.heap.size + 1 + 1, 0, none⟩) 1 1] 86)) = W8 at *
  have hLW8 : RowsOf W8.heap.size (.slice (some ⟨w7.heap.size + 1 + 1 + 1, 0, none⟩) 3 3) [[3], [1, 2, 4], [0]] W8 := rows_lit (S := [[3], [1, 2, 4], [0]]) (Array.getElem?_eq_some_iff.1 hTW8).1 (fun i l hl => by
    match i, hl with
    | 0, hl => cases hl; exact ⟨w7.heap.size, cell_of_row _ _ 0 _ _ _ hTW8, hTW80⟩
    | 1, hl => cases hl; exact ⟨w7.heap.size + 1, cell_of_row _ _ 1 _ _ _ hTW8, hTW81⟩
    | 2, hl => cases hl; exact ⟨w7.heap.size + 1 + 1, cell_of_row _ _ 2 _ _ _ hTW8, hTW82⟩
    | i + 3, hl => simp at hl)
  have hsz8 := hbW8.size
  have HB8 := Lib.hid (HB7.out.trans (hbW8.mono (by omega)))
  have hsame := Same_any _ _ _ _ W8 ((HR7.out.below hbW8 (Nat.le_refl _)).mono hsz8) hLW8 (by decide) (by decide) (fun i => by match i with | 0 => decide | 1 => decide | 2 => decide | i + 3 => simp) (fun i => by match i with | 0 => decide | 1 => decide | 2 => decide | i + 3 => simp)
  rw [decide_eq_true rfl] at hsame
  refine hsame.mono ?_
  rintro e w9 ⟨rfl, hb9⟩
  have hsz9 := hb9.size
  have HB9 := Lib.hid (HB8.out.trans (hb9.mono (by omega)))
  obtain ⟨n9, e9, c90, c91⟩ := HALL.out w9 HB9.out
  have hpath := Path_yes _ _ ns0 es0 0 3 w9 e9 n9 HVAL.out (by rw [ns0_len]; decide) (by rw [ns0_len]; decide)
  rw [ns0_len, path0] at hpath
  have HPATH := Lib.hid hpath
  clear hsame hb9 n9 e9 hpath hTW8 hTW80 hTW81 hTW82 hbW8 hLW8
  go_wp2_with fail
  refine HPATH.out.mono ?_
  rintro e w10 ⟨v10, rfl, ho10, hb10⟩
  have hsz10 := hb10.size
  have HB10 := Lib.hid (HB9.out.trans (hb10.mono (by omega)))
  obtain ⟨g10, k10, rfl, _, _, _⟩ := own_shape ho10 (by decide)
  have HR10 := Lib.hid (rowOf_cast (own_row ho10).2)
  clear ho10 hb10 HPATH c90 c91
  go_wp2_with fail
  have hT11 : (w10.alloc (.cells #[.int .i64 0, .int .i64 1, .int .i64 2, .int .i64 3] 3)).heap[w10.heap.size]? = some (.cells #[.int .i64 0, .int .i64 1, .int .i64 2, .int .i64 3] 3 (0, 0)) := by (simp only [alloc_get, World.size_alloc]; repeat (first | rw [if_pos trivial] | rw [if_neg (by omega)] | rw [if_pos (by omega)]))
  have hbb : Below w10.heap.size w10 (w10.alloc (.cells #[.int .i64 0, .int .i64 1, .int .i64 2, .int .i64 3] 3)) := bel_alloc _ _
  generalize w10.alloc (.cells #[.int .i64 0, .int .i64 1, .int .i64 2, .int .i64 3] 3) = W11 at *
  have HB11 := Lib.hid (HB10.out.trans (hbb.mono (by omega)))
  have heq := Equal_ints _ _ _ _ W11 ((HR10.out.below hbb (Nat.le_refl _)).mono hbb.size) (row_lit (c := 4) (l := [0, 1, 2, 3]) hT11) (by decide) (by decide)
  have hsz11 := hbb.size
  rw [decide_eq_true rfl] at heq
  refine heq.mono ?_
  rintro e w12 ⟨rfl, q12, rfl⟩
  have HB12 : Hid (Below W1.heap.size W1 (W11.drewN q12)) := Lib.hid (below_drewN HB11.out q12)
  obtain ⟨n12, e12, c120, c121⟩ := HALL.out _ HB12.out
  have hcyc := Cycle_yes _ _ ns0 es0 (W11.drewN q12) e12 n12 HVAL.out
  rw [ns0_len, cyc0] at hcyc
  have HCYC := Lib.hid hcyc
  have hsz12 : (W11.drewN q12).heap.size = W11.heap.size := rfl
  generalize W11.drewN q12 = w12 at *
  clear heq n12 e12 hcyc hT11 hbb
  go_wp2_with fail
  refine HCYC.out.mono ?_
  rintro e w13 ⟨v13, rfl, ho13, hb13, _⟩
  have hsz13 := hb13.size
  have HB13 := Lib.hid (HB12.out.trans (hb13.mono (by omega)))
  obtain ⟨g13, k13, rfl, _, _, _⟩ := own_shape ho13 (by decide)
  have HR13 := Lib.hid (rowOf_cast (own_row ho13).2)
  clear ho13 hb13 HCYC c120 c121
  go_wp2_with fail
  have hT14 : (w13.alloc (.cells #[.int .i64 1, .int .i64 2] 3)).heap[w13.heap.size]? = some (.cells #[.int .i64 1, .int .i64 2] 3 (0, 0)) := by (simp only [alloc_get, World.size_alloc]; repeat (first | rw [if_pos trivial] | rw [if_neg (by omega)] | rw [if_pos (by omega)]))
  have hbb : Below w13.heap.size w13 (w13.alloc (.cells #[.int .i64 1, .int .i64 2] 3)) := bel_alloc _ _
  generalize w13.alloc (.cells #[.int .i64 1, .int .i64 2] 3) = W14 at *
  have HB14 := Lib.hid (HB13.out.trans (hbb.mono (by omega)))
  have heq := Equal_ints _ _ _ _ W14 ((HR13.out.below hbb (Nat.le_refl _)).mono hbb.size) (row_lit (c := 2) (l := [1, 2]) hT14) (by decide) (by decide)
  have hsz14 := hbb.size
  rw [decide_eq_true rfl] at heq
  refine heq.mono ?_
  rintro e w15 ⟨rfl, q15, rfl⟩
  have HB15 : Hid (Below W1.heap.size W1 (W14.drewN q15)) := Lib.hid (below_drewN HB14.out q15)
  obtain ⟨n15, e15, c150, c151⟩ := HALL.out _ HB15.out
  have hrev := Reverse_any _ _ ns0 es0 (W14.drewN q15) (by decide) e15 n15
  have er1 : revN ns0 es0 = ns0 := if_pos HVAL.out
  have er2 : revE ns0.length es0 = es0.map swapE := if_pos HVAL.out
  rw [er1, er2, ns0_len] at hrev
  have HREV := Lib.hid hrev
  have hsz15 : (W14.drewN q15).heap.size = W14.heap.size := rfl
  generalize W14.drewN q15 = w15 at *
  clear heq n15 e15 hrev hT14 hbb er1 er2
  go_wp2_with fail
  refine HREV.out.mono ?_
  rintro e w16 ⟨a16, c16, v16, rfl, hn16, he16, hb16⟩
  have hsz16 := hb16.size
  have HB16 := Lib.hid (HB15.out.trans (hb16.mono (by omega)))
  have hT17 : (w16.alloc (.cells #[.int .i64 3] 3)).heap[w16.heap.size]? = some (.cells #[.int .i64 3] 3 (0, 0)) := by (simp only [alloc_get, World.size_alloc]; repeat (first | rw [if_pos trivial] | rw [if_neg (by omega)] | rw [if_pos (by omega)]))
  have hbb : Below w16.heap.size w16 (w16.alloc (.cells #[.int .i64 3] 3)) := bel_alloc _ _
  have hreach := Reach_yes a16 5 c16 v16 (.slice (some ⟨w16.heap.size, 0, none⟩) 1 1) (es0.map swapE) [3] (w16.alloc (.cells #[.int .i64 3] 3)) ((he16.below hbb (Nat.le_refl _)).mono hbb.size) (by decide) (row_lit (c := 1) (l := [3]) hT17) (by decide) (by decide)
  have HREACH := Lib.hid hreach
  have HBB := Lib.hid hbb
  obtain ⟨va16, vl16, vc16, rfl⟩ : ∃ a l c, v16 = .slice a l c := by obtain ⟨x, y, h, _⟩ := he16; exact ⟨_, _, _, h⟩
  clear hn16 he16 hb16 hT17 hbb hreach HREV c150 c151
  go_wp2_with fail
  refine HREACH.out.mono ?_
  rintro e w18 ⟨v18, l18, rfl, hrs, ho18, hb18⟩
  obtain ⟨a18, c18, rfl⟩ := own_any ho18
  have HL18 := Lib.hid (reach0 l18 hrs)
  have HB18 := Lib.hid (HB16.out.trans ((HBB.out.trans (hb18.mono HBB.out.size)).mono (by omega)))
  rw [HL18.out]
  clear hrs ho18 hb18 HREACH
  go_wp2_with fail
  go_ret
  exact ⟨rfl, HB0.out.trans (HB18.out.mono (by omega))⟩
end Go.Proofs.YtbbnoloploklkaaGreatDoor
