/- slices.Sort and slices.Compact at a row of the call's own. Contract of the graph's newSuccessors. Contracts of the graph's Valid; slices. -/
import Derived.Test.YtnjiibiafhnmgaaGreatDoorYE
import Derived.Test.YtnjiibiafhnmgaaGreatDoorYF
import Derived.Test.YtnjiibiafhnmgaaGreatDoorQShelf
import Derived.Test.YtnjiibiafhnmgaaGreatDoorYH
import Derived.Deep.OwnRows
import Derived.Outline
import Derived.Shelf.GgClosure.Gives
namespace Go.Proofs.YtnjiibiafhnmgaaGreatDoor
set_option linter.unusedVariables false
set_option linter.unusedSimpArgs false
open Go Go.RowKit Go.Sort


theorem sort_row (B : Nat) (v : Value) (l : List Int) (w : World) (h : w.ownsRow B 3 1 v l.length (l.map intC)) (hl : l.length ≤ 1000000000) :
    Calls Tryz.prog 83 #[v] w fun e w' => e = .returned (.tuple #[]) ∧ w.grownBy w' v.ownBlock ∧ w'.ownsRow B 3 1 v (l.mergeSort fun x y => decide (x ≤ y)).length ((l.mergeSort fun x y => decide (x ≤ y)).map intC) := by
  have hlen : (l.mergeSort fun x y => decide (x ≤ y)).length = l.length := List.length_mergeSort l
  rcases h.2 with ⟨rfl, h0⟩ | ⟨g, cap, cur, rfl, hb, hg, hc, hcm, hcs, ht⟩
  · obtain rfl : l = [] := List.length_eq_zero_iff.1 h0
    refine (Tryz.slices_Sort_int_none none 0 w).mono ?_
    rintro e w' ⟨rfl, rfl⟩
    exact ⟨rfl, World.grownBy.refl _ _, by simpa using World.ownsRow_nil _ _ _ _⟩
  · refine (Tryz.slices_Sort_int g 0 cap l w (holds_of_blockI hg (by simpa using ht)) (Array.getElem?_eq_some_iff.1 hg).1 (by omega)).mono ?_
    rintro e w' ⟨rfl, n, os, rfl⟩
    refine ⟨rfl, grownBy_sortedI _, ?_⟩
    rw [hlen]
    exact ownsRow_sortedI hlen hb hg hc hcm hcs

theorem compact_row (B : Nat) (v : Value) (l : List Int) (w : World) (h : w.ownsRow B 3 1 v l.length (l.map intC)) (hl : l.length ≤ 1000000000) :
    Calls Tryz.prog 138 #[v] w fun e w' => ∃ v', e = .returned v' ∧ v'.ownBlock = v.ownBlock ∧ (∃ a m c, v' = .slice a m c) ∧ w.grownBy w' v.ownBlock ∧ w'.ownsRow B 3 1 v' (Lib.compact l).length ((Lib.compact l).map intC) := by
  rcases h.2 with ⟨rfl, h0⟩ | ⟨g, cap, cur, rfl, hb, hg, hc, hcm, hcs, ht⟩
  · obtain rfl : l = [] := List.length_eq_zero_iff.1 h0
    refine (Tryz.slices_Compact_int_empty none 0 w).mono ?_
    rintro e w' ⟨rfl, rfl⟩
    exact ⟨_, rfl, rfl, ⟨_, _, _, rfl⟩, World.grownBy.refl _ _, World.ownsRow_nil _ _ _ _⟩
  · have hlc : (Lib.compact l).length ≤ l.length := Lib.compact_length_le l
    refine (Tryz.slices_Compact_int g 0 cap l w (holds_of_blockI hg (by simpa using ht)) (by omega) hc).mono ?_
    rintro e w' ⟨rfl, q, rfl⟩
    have e1 : ∀ d : Array Int, putRow (Value.int .i64) (Sort.ahead w q) g 0 d = grow (putRow (Value.int .i64) (Sort.ahead w q) g 0 d) #[] := fun d => (grow_empty _).symm
    rw [e1]
    have hpl : (Lib.compact l ++ List.replicate (l.length - (Lib.compact l).length) 0).length = l.length := by simp; omega
    have hown := ownsRow_sortedI (n := q) (os := #[]) (base := B) (ss := l) hpl hb hg hc hcm hcs
    refine ⟨_, rfl, rfl, ⟨_, _, _, rfl⟩, grownBy_sortedI _, ?_⟩
    rcases hown.2 with ⟨h1, _⟩ | ⟨g2, cap2, cur2, h1, h2, h3, h4, h5, h6, h7⟩
    · cases h1
    · cases h1
      refine ⟨by simp, .inr ⟨g, cap, cur2, rfl, h2, h3, by omega, h5, h6, ?_⟩⟩
      have h8 := congrArg (List.take (Lib.compact l).length) h7
      rw [List.take_take, Nat.mul_one, Nat.min_eq_left hlc, List.map_append, List.take_append_of_le_length (by simp), List.take_of_length_le (l := List.map _ _) (by simp)] at h8
      rw [Nat.mul_one]
      exact h8
end Go.Proofs.YtnjiibiafhnmgaaGreatDoor

namespace Go.Proofs.YtnjiibiafhnmgaaGreatDoor
set_option linter.unusedVariables false
set_option linter.unusedSimpArgs false
open Go Go.RowKit Go.Sort

def EdgesOf (B : Nat) (v : Value) (es : List (Int × Int)) (W : World) : Prop :=
  ∃ ao cap, v = .slice ao es.length cap ∧ ∀ i x, es[i]? = some x → ∃ b off, ao = some ⟨b, off, none⟩ ∧ b < B ∧ W.cell? ⟨b, off + i * 2, none⟩ = some (intC x.1) ∧ W.cell? ⟨b, off + i * 2 + 1, none⟩ = some (intC x.2)
theorem EdgesOf.below {B B' : Nat} {v : Value} {es : List (Int × Int)} {W W' : World} (h : EdgesOf B v es W) (hb : Below B' W W') (hB : B ≤ B') : EdgesOf B v es W' := by
  obtain ⟨ao, cap, rfl, h⟩ := h
  refine ⟨ao, cap, rfl, fun i x hx => ?_⟩
  obtain ⟨b, off, rfl, hlt, h1, h2⟩ := h i x hx
  exact ⟨b, off, rfl, hlt, (hb.cell (p := ⟨b, off + i * 2, none⟩) (by simp; omega)).trans h1, (hb.cell (p := ⟨b, off + i * 2 + 1, none⟩) (by simp; omega)).trans h2⟩
theorem EdgesOf.mono {B B' : Nat} {v : Value} {es : List (Int × Int)} {W : World} (h : EdgesOf B v es W) (hB : B ≤ B') : EdgesOf B' v es W := by
  obtain ⟨ao, cap, rfl, h⟩ := h
  refine ⟨ao, cap, rfl, fun i x hx => ?_⟩
  obtain ⟨b, off, rfl, hlt, h1, h2⟩ := h i x hx
  exact ⟨b, off, rfl, by omega, h1, h2⟩

theorem made_rep (z : Value) (n : Nat) : madeCells #[z] n = Array.replicate n z := by
  have := toList_madeCells_one z n
  rw [← Array.toList_replicate] at this
  exact Array.toList_inj.1 this
theorem info_ints : (Tryz.prog.info? 3).map (fun i => (i.zero, i.size, i.bytes)) = some (some (.int .i64 0), 1, 8) := by kernel_rfl
theorem make_ints (n : Nat) (hn : n ≤ 1000000000) (w : World) : (Instr.makeSlice 120 (.int .i64 (n : Int)) (.int .i64 (n : Int))).run Tryz.prog w = .ok (.slice (some ⟨w.heap.size, 0, none⟩) n n) (w.alloc (.cells (Array.replicate n (.int .i64 0)) 3)) := by
  have h := run_make_row' (P := Tryz.prog) 120 3 (.int .i64 0) 8 Tryz.underlying120 info_ints rfl .i64 .i64 n (by omega) (by omega) w
  rw [h, made_rep]
theorem info_rows : (Tryz.prog.info? 120).map (fun i => (i.zero, i.size, i.bytes)) = some (some (.slice none 0 0), 1, 24) := by kernel_rfl
theorem info_bools : (Tryz.prog.info? 4).map (fun i => (i.zero, i.size, i.bytes)) = some (some (.bool false), 1, 1) := by kernel_rfl
theorem make_bools (n : Nat) (hn : n ≤ 1000000000) (w : World) : (Instr.makeSlice 127 (.int .i64 (n : Int)) (.int .i64 (n : Int))).run Tryz.prog w = .ok (.slice (some ⟨w.heap.size, 0, none⟩) n n) (w.alloc (.cells (Array.replicate n (.bool false)) 4)) := by
  have h := run_make_row' (P := Tryz.prog) 127 4 (.bool false) 1 Tryz.underlying127 info_bools rfl .i64 .i64 n (by omega) (by omega) w
  rw [h, made_rep]
theorem make_sucs (n : Nat) (hn : n ≤ 1000000000) (w : World) : (Instr.makeSlice 122 (.int .i64 (n : Int)) (.int .i64 (n : Int))).run Tryz.prog w = .ok (.slice (some ⟨w.heap.size, 0, none⟩) n n) (w.alloc (.cells (Array.replicate n (.slice none 0 0)) 120)) := by
  have h := run_make_row' (P := Tryz.prog) 122 120 (.slice none 0 0) 24 Tryz.underlying122 info_rows rfl .i64 .i64 n (by omega) (by omega) w
  rw [h, made_rep]
theorem own_made (B e n : Nat) (xs : List Value) (w : World) (hB : B ≤ w.heap.size) (hn : n ≤ maxLen) (hx : xs.length = n) : (w.alloc (.cells xs.toArray e)).ownsRow B e 1 (.slice (some ⟨w.heap.size, 0, none⟩) n n) n xs := by
  subst hx
  have := World.ownsRow_lit (base := B) (e := e) (size := 1) w xs.toArray xs.length hB hn (by simp)
  simpa using this

def rawRows (N : Nat) (es : List (Int × Int)) : List (List Value) := (List.range N).map fun i => (rawL es i).map intC
theorem rawRows_length (N : Nat) (es : List (Int × Int)) : (rawRows N es).length = N := by simp [rawRows]
theorem rawRows_get (N : Nat) (es : List (Int × Int)) (i : Nat) (h : i < N) : (rawRows N es)[i]? = some ((rawL es i).map intC) := by simp [rawRows, h]
theorem rawRows_nil (N : Nat) : rawRows N [] = List.replicate N [] := by
  apply List.ext_getElem (by simp [rawRows])
  intro i h1 h2
  simp [rawRows, rawL]
theorem rawRows_snoc (N : Nat) (es : List (Int × Int)) (i : Nat) (y : Int) (h : i < N) : rawRows N (es ++ [((i : Int), y)]) = (rawRows N es).set i ((rawL es i).map intC ++ [intC y]) := by
  apply List.ext_getElem (by simp [rawRows])
  intro j h1 h2
  have hj : j < N := by simpa [rawRows] using h1
  rw [List.getElem_set]
  simp only [rawRows, List.getElem_map, List.getElem_range, rawL_snoc]
  by_cases e : i = j
  · subst e; simp
  · rw [if_neg (by omega), if_neg e]

def mixRows (N : Nat) (es : List (Int × Int)) (k : Nat) : List (List Value) := (List.range N).map fun i => if i < k then (sucL N es i).map natC else (rawL es i).map intC
theorem mixRows_length (N : Nat) (es : List (Int × Int)) (k : Nat) : (mixRows N es k).length = N := by simp [mixRows]
theorem mixRows_zero (N : Nat) (es : List (Int × Int)) : mixRows N es 0 = rawRows N es := by simp [mixRows, rawRows]
theorem mixRows_get (N : Nat) (es : List (Int × Int)) (k : Nat) (h : k < N) : (mixRows N es k)[k]? = some ((rawL es k).map intC) := by simp [mixRows, h]
theorem mixRows_succ (N : Nat) (es : List (Int × Int)) (k : Nat) : mixRows N es (k + 1) = (mixRows N es k).set k ((sucL N es k).map natC) := by
  apply List.ext_getElem (by simp [mixRows])
  intro j h1 h2
  rw [List.getElem_set]
  simp only [mixRows, List.getElem_map, List.getElem_range]
  by_cases e : k = j
  · subst e; simp
  · by_cases h : j < k
    · rw [if_pos (by omega), if_neg e, if_pos h]
    · rw [if_neg (by omega), if_neg e, if_neg h]
theorem mixRows_all (N : Nat) (es : List (Int × Int)) : mixRows N es N = (sucs N es).map (·.map natC) := by
  unfold mixRows sucs
  rw [List.map_map]
  apply List.map_congr_left
  intro i hi
  rw [List.mem_range] at hi
  rw [if_pos hi]
  rfl

set_option maxRecDepth 100000 in
set_option maxHeartbeats 4000000 in
theorem newSucc_any (na : Option Addr) (nc N : Nat) (ev : Value) (es : List (Int × Int)) (w : World) (hE : EdgesOf w.heap.size ev es w) (hv : validG N es = true) :
    Calls Tryz.prog 106 #[.agg #[.slice na N nc, ev]] w fun e w' => ∃ v vs, e = .returned v ∧ Grid w.heap.size v vs ((sucs N es).map (·.map natC)) w' ∧ Below w.heap.size w w' := by
  obtain ⟨hN, hes⟩ := validG_n hv
  obtain ⟨ao, ec, rfl, hE⟩ := hE
  have HV := Lib.hid hv
  have HE := Lib.hid hE
  clear hv hE
  have hmk := make_sucs N (by omega)
  obtain ⟨B, hB⟩ : ∃ B, B = w.heap.size := ⟨_, rfl⟩
  have HBB := Lib.hid hB
  have hB2 : B ≤ w.heap.size := by omega
  clear hB
  have HG0 : Hid (Grid B (.slice (some ⟨w.heap.size + 1, 0, none⟩) N N) (List.replicate N (.slice none 0 0)) (rawRows N []) ((w.alloc (.cells #[.slice na N nc, .slice ao es.length ec] 32)).alloc (.cells (Array.replicate N (.slice none 0 0)) 120))) := Lib.hid (by
    rw [rawRows_nil]
    have := own_made B 120 N (List.replicate N (.slice none 0 0)) (w.alloc (.cells #[.slice na N nc, .slice ao es.length ec] 32)) (by simp; omega) (by unfold maxLen; omega) (by simp)
    rw [World.size_alloc] at this
    exact Grid.made B N w hB2 (by unfold maxLen; omega) _ _ this (by simp; omega))
  have HB0 : Hid (Below B w ((w.alloc (.cells #[.slice na N nc, .slice ao es.length ec] 32)).alloc (.cells (Array.replicate N (.slice none 0 0)) 120))) := Lib.hid (((Below.refl _ w).alloc hB2 _).alloc (by simp; omega) _)
  go_enter Tryz.func106, Tryz.ntmps106
  go_wp2_with fail
  clear hmk
  go_loopw [14] (fun p wr => ∃ (k : Nat) (vs : List Value), k ≤ es.length ∧ p = .int .i64 k ∧ Hid (Grid B (.slice (some ⟨w.heap.size + 1, 0, none⟩) N N) vs (rawRows N (es.take k)) wr) ∧ Hid (Below B w wr) ∧ Hid (w.heap.size + 2 ≤ wr.heap.size)) (fun p _ => es.length - (intOf p).toNat)
  case atStart => exact ⟨0, _, by omega, rfl, HG0, HB0, Lib.hid (by simp)⟩
  case round =>
    clear HG0 HB0
    obtain ⟨k, vs, hk, rfl, HG, HB, HS⟩ := hrel
    by_cases hlt : k < es.length
    · obtain ⟨b, off, rfl, hb, hc1, hc2⟩ := HE.out k es[k] (by simp [hlt])
      have hc1 := (HB.out.cell (p := ⟨b, off + k * 2, none⟩) (by simp; have := HBB.out; omega)).trans hc1
      have hc2 := (HB.out.cell (p := ⟨b, off + k * 2 + 1, none⟩) (by simp; have := HBB.out; omega)).trans hc2
      have HT : Hid (es.take (k + 1) = es.take k ++ [es[k]]) := Lib.hid (List.take_succ_eq_append_getElem hlt)
      have hed := validG_edge HV.out (List.getElem_mem hlt)
      obtain ⟨⟨x1, x2⟩, hx⟩ : ∃ x, x = es[k] := ⟨_, rfl⟩
      rw [← hx] at hc1 hc2 hed HT
      clear hx
      obtain ⟨i, rfl⟩ : ∃ i : Nat, x1 = (i : Int) := ⟨x1.toNat, by simp at hed; omega⟩
      obtain ⟨j, rfl⟩ : ∃ j : Nat, x2 = (j : Int) := ⟨x2.toNat, by simp at hed; omega⟩
      simp only at hc1 hc2 hed
      obtain ⟨hi0, hi1, hj0, hj1⟩ := hed
      have hiN : i < N := by omega
      have hvl : vs.length = N := by have := HG.out.len; rw [rawRows_length] at this; exact this
      have hu : vs[i]? = some (vs[i]'(by omega)) := by simp
      generalize vs[i]'(by omega) = u at hu
      have hl := rawRows_get N (es.take k) i hiN
      have hown := HG.out.row i u _ hu hl
      have hfu := HG.out.top
      rw [rawRows_length] at hfu
      have hcu := own_cell hfu i u hu
      have hfu := hfu.frozenAt i
      have hsz := HS.out
      have hlen : (rawL (es.take k) i).length ≤ 4096 := by
        unfold rawL
        have := List.length_filter_le (fun e : Int × Int => e.1 == (i : Int)) (es.take k)
        simp at this ⊢
        omega
      have hne : w.heap.size + 1 ≠ wr.heap.size := by omega
      have hne2 : wr.heap.size ≠ w.heap.size + 1 := by omega
      have hob : ∀ b, u.ownBlock = some b → b < wr.heap.size ∧ b ≠ w.heap.size + 1 := fun b hb => ⟨(hown.lt b hb).2, fun e => by
        have := own_ne HG.out.top hown (by decide)
        rw [hb, e] at this
        simp [Value.ownBlock] at this⟩
      have HN : Hid (∀ W1, (((wr.alloc (.cells #[intC i, intC j] 43)).alloc (.cells #[intC j] 3)).drew).grownBy W1 u.ownBlock → (W1.cell? ⟨w.heap.size + 1, i, none⟩ = some u ∧ W1.frozen? ⟨w.heap.size + 1, i, none⟩ = false) ∧
          (W1.cell? ⟨wr.heap.size, 0, none⟩ = some (intC i) ∧ W1.cell? ⟨wr.heap.size, 1, none⟩ = some (intC j)) ∧ wr.heap.size + 2 ≤ W1.heap.size) := Lib.hid (fun W1 hg => by
        have a1 : some (w.heap.size + 1) ≠ u.ownBlock := fun e => (hob _ e.symm).2 rfl
        have a2 : some wr.heap.size ≠ u.ownBlock := fun e => by have := (hob _ e.symm).1; omega
        have hs := hg.size
        have f1 := frozA (.cells #[intC i, intC j] 43) hcu hfu
        have c1 := cellA (.cells #[intC i, intC j] 43) hcu
        refine ⟨⟨?_, ?_⟩, ⟨?_, ?_⟩, by simpa using hs⟩
        · rw [hg.cell_far _ (by show w.heap.size + 1 < _; simp; omega) a1]
          exact cellA (.cells #[intC j] 3) c1
        · rw [hg.frozen_far _ (by show w.heap.size + 1 < _; simp; omega) a1]
          exact frozA (.cells #[intC j] 3) c1 f1
        · rw [hg.cell_far _ (by show wr.heap.size < _; simp; omega) a2]
          exact cellA (.cells #[intC j] 3) (cell_of_row _ _ _ _ _ _ (World.alloc_heap_new wr _))
        · rw [hg.cell_far _ (by show wr.heap.size < _; simp; omega) a2]
          exact cellA (.cells #[intC j] 3) (cell_of_row _ _ _ _ _ _ (World.alloc_heap_new wr _)))
      have hcu1 := cellA (.cells #[.int .i64 (i : Int), .int .i64 (j : Int)] 43) hcu
      have hcu2 := cellA (.cells #[.int .i64 (j : Int)] 3) hcu1
      obtain ⟨i0, hi0', hz0, hz1, hz2⟩ := info_parts info_ints
      have HOWN := Lib.hid hown
      have HOB := Lib.hid hob
      have HU := Lib.hid hu
      have HL := Lib.hid hl
      have HFU := Lib.hid hfu
      have HCU := Lib.hid hcu
      clear hown hob hu hl hfu
      go_wp2_with fail
      refine wp_region_noPanic ?_
      refine region_plain_split (S := HeldR ⟨wr.heap.size, 0, none⟩ ⟨wr.heap.size, 1, none⟩ ⟨w.heap.size + 1, i, none⟩ (intC i) (intC j) u) 12 (by kernel_rfl) (by kernel_rfl) ?_
      simp only [List.take_succ_cons, List.take_zero]
      have hS0 : HeldR ⟨wr.heap.size, 0, none⟩ ⟨wr.heap.size, 1, none⟩ ⟨w.heap.size + 1, i, none⟩ (intC i) (intC j) u (wr.alloc (.cells #[intC i, intC j] 43)).drew := ⟨cell_of_row _ _ 0 _ _ _ (World.alloc_heap_new wr _), cell_of_row _ _ 1 _ _ _ (World.alloc_heap_new wr _), cellA _ HCU.out⟩
      (refine zl3 0 ?_ rfl ?_ ?_; rotate_left; (· (rintro w ⟨c0, c1, c2⟩; go_simp; try with_reducible rfl)); (try simp only [zl1]))
      (refine zl3 1 ?_ rfl ?_ ?_; rotate_left; (· (rintro w ⟨c0, c1, c2⟩; go_simp; try with_reducible rfl)); (try simp only [zl1]))
      (refine zl3 2 ?_ rfl ?_ ?_; rotate_left; (· (rintro w ⟨c0, c1, c2⟩; go_simp; try with_reducible rfl)); (try simp only [zl1]))
      (refine zl3 3 ?_ rfl ?_ ?_; rotate_left; (· (rintro w ⟨c0, c1, c2⟩; go_simp; try with_reducible rfl)); (try simp only [zl1]))
      (refine zl3 4 ?_ rfl ?_ ?_; rotate_left; (· (rintro w ⟨c0, c1, c2⟩; go_simp; try with_reducible rfl)); (try simp only [zl1]))
      (refine zl3 5 ?_ rfl ?_ ?_; rotate_left; (· (rintro w ⟨c0, c1, c2⟩; go_simp; try with_reducible rfl)); (try simp only [zl1]))
      (refine zl3 6 ?_ rfl ?_ ?_; rotate_left; (· (rintro w ⟨c0, c1, c2⟩; go_simp; try with_reducible rfl)); (try simp only [zl1]))
      (refine zl3 7 ?_ rfl ?_ ?_; rotate_left; (· (rintro w ⟨c0, c1, c2⟩; go_simp; try with_reducible rfl)); (try simp only [zl1]))
      (refine zl3 8 ?_ rfl ?_ ?_; rotate_left; (· (rintro w ⟨c0, c1, c2⟩; go_simp; try with_reducible rfl)); (try simp only [zl1]))
      (refine zl3 9 ?_ rfl ?_ ?_; rotate_left; (· (rintro w ⟨c0, c1, c2⟩; go_simp; try with_reducible rfl)); (try simp only [zl1]))
      refine wpAnyH_ready (rs := [10]) (by kernel_rfl) (by simp) (AllReadyH.cons rfl (fun K hK => ?_) AllReadyH.nil)
      go_simp
      refine hK.out _ _ ⟨cellA _ hS0.1, cellA _ hS0.2.1, cellA _ hS0.2.2⟩ (fun _ => ?_)
      clear hK K hS0
      (try simp only [zl1])
      refine wpAnyH_ready (rs := [11]) (by kernel_rfl) (by simp) (AllReadyH.cons rfl (fun K hK => ?_) AllReadyH.nil)
      refine step_append_lies _ (by rfl) _ _ _ (by rfl) B 3 i0 _ 1 8 Tryz.underlying120 hi0' hz0 hz1 hz2 rfl (by omega) u _ _ (by rfl) (((HOWN.out.alloc _).alloc _).drew)
            ⟨wr.heap.size + 1, 0, none⟩ 1 1 [intC j] (by rfl) (by rfl) (World.news_of_block (cs := #[intC j]) (t := 3) (fr := (0, 0)) (by have := heap_alloc_new (wr.alloc (.cells #[intC i, intC j] 43)) (.cells #[intC j] 3); rw [World.size_alloc] at this; exact this)) (by simp [Value.oneCell'])
            (by omega) (by unfold maxLen; rw [List.length_map]; omega) (by rw [List.length_map]; omega) (by simp; have := HG.out.base; omega) (wr.heap.size + 2) (by simp) ?_
      intro gg cap w1 hown1 hgrow hat hlt1
      obtain ⟨⟨hcw, hfw⟩, ⟨hcw0, hcw1⟩, hsw⟩ := HN.out _ hgrow
      have hS1 : HeldR ⟨wr.heap.size, 0, none⟩ ⟨wr.heap.size, 1, none⟩ ⟨w.heap.size + 1, i, none⟩ (intC i) (intC j) u w1 := ⟨hcw0, hcw1, hcw⟩
      refine hK.out _ _ hS1 (fun _ => ?_)
      clear hK K hS1
      (try simp only [zl1])
      refine wpAnyH_done (by kernel_rfl) ?_ _
      show wpList _ _ _ _ _ _
      simp only [List.drop_succ_cons, List.drop_zero]
      go_wp2_with fail
      refine NoPanic.normal ?_
      all_goals go_wp2_with fail
      all_goals
        go_roundw
        case rel =>
          refine ⟨k + 1, vs.set i (.slice (some ⟨gg, 0, none⟩) ((rawL (es.take k) i).length + 1) cap), by omega, by go_num, Lib.hid ?_, Lib.hid ?_, Lib.hid (by simp; omega)⟩
          · rw [HT.out, rawRows_snoc _ _ _ _ hiN]
            have g1 : wr.grownBy w1 u.ownBlock := (grownD ((World.grownBy_alloc wr _ _).trans (World.grownBy_alloc _ _ _))).trans hgrow
            have := HG.out.put i u _ _ ((rawL (es.take k) i).map intC ++ [intC j]) (by rw [rawRows_length]) HU.out HL.out g1 (by simpa using hown1) (by
              rcases hat with h | h
              · exact .inl (by rw [h]; rfl)
              · refine .inr fun k' hk' => ?_
                simp [Value.ownBlock] at hk'
                omega)
            exact this
          · have hgs := HG.out.base
            have g2 : Below B wr w1 := ((((Below.refl B wr).alloc hgs _).alloc (by simp; omega) _).drew).grown hgrow (by simp; omega) (fun b hb => (HOWN.out.lt b hb).1)
            exact (HB.out.trans g2).setCell (by show B ≤ w.heap.size + 1; omega) _
        case measure => simp [intOf]; omega
    · have hkk : k = es.length := by omega
      subst hkk
      rw [List.take_length] at HG
      go_wp2_with fail
      go_loopw [34] (fun p wr => ∃ (k : Nat) (vs : List Value), k ≤ N ∧ p = .int .i64 k ∧ Hid (Grid B (.slice (some ⟨w.heap.size + 1, 0, none⟩) N N) vs (mixRows N es k) wr) ∧ Hid (Below B w wr) ∧ Hid (w.heap.size + 2 ≤ wr.heap.size)) (fun p _ => N - (intOf p).toNat)
      case atStart => exact ⟨0, vs, by omega, rfl, Lib.hid (by rw [mixRows_zero]; exact HG.out), HB, HS⟩
      case round =>
        clear HG HB HS
        obtain ⟨k, vs, hk, rfl, HG, HB, HS⟩ := hrel
        by_cases hlt : k < N
        · have hx1 : (k : Int) < (N : Int) := by omega
          have hvl : vs.length = N := by have := HG.out.len; rw [mixRows_length] at this; exact this
          have hu : vs[k]? = some (vs[k]'(by omega)) := by simp
          generalize vs[k]'(by omega) = u at hu
          have hl := mixRows_get N es k hlt
          have hown := HG.out.row k u _ hu hl
          have hfu := HG.out.top
          rw [mixRows_length] at hfu
          have hcu := own_cell hfu k u hu
          have hlen : (rawL es k).length ≤ 4096 := by
            unfold rawL
            have := List.length_filter_le (fun e : Int × Int => e.1 == (k : Int)) es
            simp at this ⊢
            omega
          have hne := own_ne hfu hown (by decide)
          rw [List.length_map] at hown
          have HOWN := Lib.hid hown
          have HU := Lib.hid hu
          have HL := Lib.hid hl
          have HFU := Lib.hid hfu
          have HNE := Lib.hid hne
          have HGB := Lib.hid HG.out.base
          clear hown hu hl hfu hne
          go_wp2_with fail
          refine (sort_row B u _ wr HOWN.out (by omega)).mono ?_
          rintro e w1 ⟨rfl, hg1, ho1⟩
          have hlm : ((rawL es k).mergeSort fun x y => decide (x ≤ y)).length = (rawL es k).length := List.length_mergeSort _
          have hfu1 := HFU.out.kept hg1 HNE.out
          have hcu1 := own_cell hfu1 k u HU.out
          have HG1 := Lib.hid hg1
          have HO1 := Lib.hid ho1
          have HFU1 := Lib.hid hfu1
          have HCS := Lib.hid (compact_raw HV.out k)
          clear hg1 ho1 hfu1
          go_wp2_with fail
          refine (compact_row B u _ w1 HO1.out (by omega)).mono ?_
          rintro e w2 ⟨v', rfl, hob, ⟨a', m', c', rfl⟩, hg2, ho2⟩
          have hfu2 := HFU1.out.kept hg2 HNE.out
          have hcu2 := own_cell hfu2 k u HU.out
          have hfz2 := hfu2.frozenAt k
          rw [HCS.out] at ho2
          have HG2 := Lib.hid (HG1.out.trans hg2)
          have HO2 := Lib.hid ho2
          have HOB := Lib.hid hob
          clear hg2 ho2 hfu2 hob HO1 HFU1 hlm
          go_wp2_with fail
          go_roundw
          case rel =>
            refine ⟨k + 1, vs.set k (.slice a' m' c'), by omega, by go_num, Lib.hid ?_, Lib.hid ?_, Lib.hid (by have := HG2.out.size; have := HS.out; simp; omega)⟩
            · rw [mixRows_succ]
              exact HG.out.put k u _ _ ((sucL N es k).map natC) (by rw [mixRows_length]) HU.out HL.out HG2.out (by
                have := HO2.out
                rw [List.length_map] at this ⊢
                rwa [List.map_map] at this) (.inl HOB.out)
            · have g2 : Below B wr w2 := (Below.refl B wr).grown HG2.out HGB.out (fun b hb => (HOWN.out.lt b hb).1)
              exact (HB.out.trans g2).setCell (by show B ≤ w.heap.size + 1; omega) _
          case measure => simp [intOf]; omega
        · have hkk : k = N := by omega
          subst hkk
          go_wp2_with fail
          go_ret
          refine ⟨_, vs, rfl, ?_, ?_⟩
          · have := HG.out
            rw [mixRows_all, HBB.out] at this
            exact this
          · have := HB.out
            rw [HBB.out] at this
            exact this
end Go.Proofs.YtnjiibiafhnmgaaGreatDoor

namespace Go.Proofs.YtnjiibiafhnmgaaGreatDoor
set_option linter.unusedVariables false
set_option linter.unusedSimpArgs false
open Go Go.RowKit

abbrev edgeV (x : Int × Int) : Value := .agg #[intC x.1, intC x.2]
def PredE (g : Nat) (lb : Array Value) (es : List (Int × Int)) (p : Int × Int → Bool) (w : World) : Prop :=
  ∀ (W : World) (x : Int × Int), x ∈ es → Below w.heap.size w W → Calls Tryz.prog g (#[edgeV x] ++ lb) W fun e w' => e = .returned (.bool (p x)) ∧ Below w.heap.size w w'

set_option maxRecDepth 100000 in
set_option maxHeartbeats 2000000 in
theorem idx_edge (g : Nat) (lb : Array Value) (eg : ∀ args w, (callFunc g args).run Tryz.prog w = .ok (.enter g args) w) (p : Int × Int → Bool) (v : Value) (es : List (Int × Int)) (w : World) (hes : es.length ≤ 1000000000) (hE : EdgesOf w.heap.size v es w) (hp : PredE g lb es p w) :
    Calls Tryz.prog 137 #[v, .func (.func g) #[] lb] w fun e w' => ∃ r : Int, e = .returned (.int .i64 r) ∧ (0 ≤ r ↔ es.any p = true) ∧ Below w.heap.size w w' := by
  obtain ⟨ao, ec, rfl, hE⟩ := hE
  have HE := Lib.hid hE
  have HP := Lib.hid hp
  clear hE hp
  go_enter Tryz.func137, Tryz.ntmps137
  go_wp2
  go_loopw [8] (fun s wr => ∃ k : Nat, k ≤ es.length ∧ s = .int .i64 k ∧ Hid (Below w.heap.size w wr) ∧ Hid (∀ x ∈ es.take k, p x = false)) (fun s _ => es.length - (intOf s).toNat)
  case atStart => exact ⟨0, by omega, rfl, Lib.hid (Below.refl _ _), Lib.hid (by simp)⟩
  case round =>
    obtain ⟨k, hk, rfl, HB, HA⟩ := hrel
    by_cases hlt : k < es.length
    · have hlt2 : (k : Int) < (es.length : Int) := by omega
      obtain ⟨b, off, rfl, hb, hc1, hc2⟩ := HE.out k es[k] (by simp [hlt])
      have hc1 := (HB.out.cell (p := ⟨b, off + k * 2, none⟩) hb).trans hc1
      have hc2 := (HB.out.cell (p := ⟨b, off + k * 2 + 1, none⟩) hb).trans hc2
      have HT : Hid (es.take (k + 1) = es.take k ++ [es[k]]) := Lib.hid (List.take_succ_eq_append_getElem hlt)
      have hcall := HP.out wr es[k] (List.getElem_mem hlt) HB.out
      have HM : Hid (es[k] ∈ es) := Lib.hid (List.getElem_mem hlt)
      generalize es[k] = x at *
      cases hq : p x with
      | true =>
        rw [hq] at hcall
        have HQ := Lib.hid hq
        clear hq
        go_wp2_with (go_at_fn g; refine hcall.mono ?_; rintro e w' ⟨rfl, hb'⟩)
        go_ret
        exact ⟨_, rfl, ⟨fun _ => by rw [List.any_eq_true]; exact ⟨x, HM.out, HQ.out⟩, fun _ => by omega⟩, hb'⟩
      | false =>
        rw [hq] at hcall
        have HQ := Lib.hid hq
        clear hq
        go_wp2_with (go_at_fn g; refine hcall.mono ?_; rintro e w' ⟨rfl, hb'⟩)
        go_roundw
        case rel =>
          refine ⟨k + 1, by omega, by go_num, Lib.hid hb', Lib.hid ?_⟩
          rw [HT.out]
          intro y hy
          rcases List.mem_append.1 hy with hy | hy
          · exact HA.out y hy
          · rw [List.mem_singleton] at hy; rw [hy]; exact HQ.out
        case measure => simp [intOf]; omega
    · have hkk : k = es.length := by omega
      subst hkk
      rw [List.take_length] at HA
      go_wp2
      go_ret
      refine ⟨-1, rfl, ⟨fun h => by omega, fun h => ?_⟩, HB.out⟩
      rw [List.any_eq_true] at h
      obtain ⟨x, hx, hpx⟩ := h
      rw [HA.out x hx] at hpx
      cases hpx

theorem has_edge (g : Nat) (lb : Array Value) (eg : ∀ args w, (callFunc g args).run Tryz.prog w = .ok (.enter g args) w) (p : Int × Int → Bool) (v : Value) (es : List (Int × Int)) (w : World) (hes : es.length ≤ 1000000000) (hE : EdgesOf w.heap.size v es w) (hp : PredE g lb es p w) :
    Calls Tryz.prog 104 #[v, .func (.func g) #[] lb] w fun e w' => e = .returned (.bool (es.any p)) ∧ Below w.heap.size w w' := by
  have hi := idx_edge g lb eg p v es w hes hE hp
  generalize es.any p = q at hi ⊢
  have HI := Lib.hid hi
  obtain ⟨ao, ec, rfl, _⟩ := hE
  clear hp eg hi
  go_enter Tryz.func104, Tryz.ntmps104
  go_wp2_with fail
  refine HI.out.mono ?_
  rintro e w' ⟨r, rfl, hr, hb⟩
  cases q with
  | true =>
    have h0 : 0 ≤ r := hr.2 rfl
    clear hr
    go_wp2
    go_ret
    exact ⟨rfl, hb⟩
  | false =>
    have h0 : ¬ 0 ≤ r := fun h => by have := hr.1 h; cases this
    have h1 : decide (0 ≤ r) = false := decide_eq_false h0
    have h2 : r < 0 := by omega
    clear hr
    go_wp2
    go_ret
    exact ⟨rfl, hb⟩

def nodeB (N : Nat) (i : Int) : Bool := decide (0 ≤ i ∧ i < N)
theorem valid1_any (a : Option Addr) (N c Bg : Nat) (i : Int) (w : World) (hc : w.cell? ⟨Bg, 0, none⟩ = some (.slice a N c)) :
    Calls Tryz.prog 103 #[.int .i64 i, .pointer (some ⟨Bg, 0, none⟩)] w fun e w' => e = .returned (.bool (nodeB N i)) ∧ w = w' := by
  by_cases h1 : 0 ≤ i
  · by_cases h2 : i < N
    · have e : nodeB N i = true := by unfold nodeB; exact decide_eq_true ⟨h1, h2⟩
      rw [e]; clear e
      go_enter Tryz.func103, Tryz.ntmps103
      go_wp2
      go_ret
      exact ⟨rfl, rfl⟩
    · have e : nodeB N i = false := by unfold nodeB; exact decide_eq_false (fun h => h2 h.2)
      rw [e]; clear e
      go_enter Tryz.func103, Tryz.ntmps103
      go_wp2
      go_ret
      exact ⟨rfl, rfl⟩
  · have e : nodeB N i = false := by unfold nodeB; exact decide_eq_false (fun h => h1 h.1)
    rw [e]; clear e
    go_enter Tryz.func103, Tryz.ntmps103
    go_wp2
    go_ret
    exact ⟨rfl, rfl⟩

theorem valid2_any (a : Option Addr) (N c Bg Bf : Nat) (x : Int × Int) (w : World) (hc : w.cell? ⟨Bg, 0, none⟩ = some (.slice a N c)) (hf : w.cell? ⟨Bf, 0, none⟩ = some (.func (.func 103) #[] #[.pointer (some ⟨Bg, 0, none⟩)])) :
    Calls Tryz.prog 105 #[edgeV x, .pointer (some ⟨Bf, 0, none⟩)] w fun e w' => e = .returned (.bool (!nodeB N x.1 || !nodeB N x.2)) ∧ Below w.heap.size w w' := by
  have h1 := valid1_any a N c Bg x.1 _ (cellA (.cells #[intC x.1, intC x.2] 43) hc)
  have h2 := valid1_any a N c Bg x.2 _ (cellA (.cells #[intC x.1, intC x.2] 43) hc)
  generalize nodeB N x.1 = b1 at *
  generalize nodeB N x.2 = b2 at *
  have H1 := Lib.hid h1
  have H2 := Lib.hid h2
  have hf2 := cellA (.cells #[.int .i64 x.1, .int .i64 x.2] 43) hf
  clear h1 h2
  cases b1 with
  | false =>
    go_enter Tryz.func105, Tryz.ntmps105
    go_wp2_with fail
    refine H1.out.mono ?_
    rintro e w' ⟨rfl, rfl⟩
    go_wp2_with fail
    go_ret
    exact ⟨rfl, (Below.refl _ _).alloc (Nat.le_refl _) _⟩
  | true =>
    cases b2 with
    | false =>
      go_enter Tryz.func105, Tryz.ntmps105
      go_wp2_with fail
      refine H1.out.mono ?_
      rintro e w' ⟨rfl, rfl⟩
      go_wp2_with fail
      refine H2.out.mono ?_
      rintro e w' ⟨rfl, rfl⟩
      go_wp2_with fail
      go_ret
      exact ⟨rfl, (Below.refl _ _).alloc (Nat.le_refl _) _⟩
    | true =>
      go_enter Tryz.func105, Tryz.ntmps105
      go_wp2_with fail
      refine H1.out.mono ?_
      rintro e w' ⟨rfl, rfl⟩
      go_wp2_with fail
      refine H2.out.mono ?_
      rintro e w' ⟨rfl, rfl⟩
      go_wp2_with fail
      go_ret
      exact ⟨rfl, (Below.refl _ _).alloc (Nat.le_refl _) _⟩

theorem validG_eq (N : Nat) (es : List (Int × Int)) : validG N es = (decide (N ≤ 1024) && (decide (es.length ≤ 4096) && !es.any fun x => !nodeB N x.1 || !nodeB N x.2)) := by
  unfold validG
  rw [Bool.and_assoc]
  congr 2
  rw [Bool.eq_iff_iff, List.all_eq_true, Bool.not_eq_true', ← Bool.not_eq_true, List.any_eq_true]
  unfold nodeB
  constructor
  · rintro h ⟨x, hx, hx2⟩
    have := h x hx
    simp at this hx2
    omega
  · intro h x hx
    have h2 : ¬ ((!decide (0 ≤ x.1 ∧ x.1 < (N : Int)) || !decide (0 ≤ x.2 ∧ x.2 < (N : Int))) = true) := fun h3 => h ⟨x, hx, h3⟩
    simp at h2 ⊢
    omega

set_option maxRecDepth 100000 in
set_option maxHeartbeats 2000000 in
theorem GValid_any (a : Option Addr) (N c : Nat) (ev : Value) (es : List (Int × Int)) (w : World) (hes : es.length ≤ 1000000000000) (hE : EdgesOf w.heap.size ev es w) :
    Calls Tryz.prog 78 #[.agg #[.slice a N c, ev]] w fun e w' => e = .returned (.bool (validG N es)) ∧ Below w.heap.size w w' := by
  rw [validG_eq]
  have hE2 := hE
  obtain ⟨ao, ec, rfl, _⟩ := hE2
  by_cases h1 : N ≤ 1024
  · rw [decide_eq_true h1, Bool.true_and]
    have h1i : (N : Int) ≤ 1024 := by omega
    by_cases h2 : es.length ≤ 4096
    · rw [decide_eq_true h2, Bool.true_and]
      have h2i : (es.length : Int) ≤ 4096 := by omega
      have hb : Below w.heap.size w ((w.alloc (.cells #[.slice a N c, .slice ao es.length ec] 32)).alloc (.cells #[.func (.func 103) #[] #[.pointer (some ⟨w.heap.size, 0, none⟩)]] 148)) := ((Below.refl _ w).alloc (Nat.le_refl _) _).alloc (by simp) _
      have hh := has_edge 105 #[.pointer (some ⟨w.heap.size + 1, 0, none⟩)] (enters_of Tryz.func105 (by kernel_rfl) rfl) (fun x => !nodeB N x.1 || !nodeB N x.2) (.slice ao es.length ec) es
        ((w.alloc (.cells #[.slice a N c, .slice ao es.length ec] 32)).alloc (.cells #[.func (.func 103) #[] #[.pointer (some ⟨w.heap.size, 0, none⟩)]] 148)) (by omega) ((hE.below hb (Nat.le_refl _)).mono (by simp; omega)) (fun W x hx hW => by
          refine (valid2_any a N c w.heap.size (w.heap.size + 1) x W ?_ ?_).mono fun e w' h => ⟨h.1, hW.trans (h.2.mono hW.size)⟩
          · exact (hW.cell (p := ⟨w.heap.size, 0, none⟩) (by show w.heap.size < _; simp; omega)).trans (cellA _ (cell_of_row _ _ _ _ _ _ (World.alloc_heap_new w _)))
          · have := World.alloc_heap_new (w.alloc (.cells #[.slice a N c, .slice ao es.length ec] 32)) (.cells #[.func (.func 103) #[] #[.pointer (some ⟨w.heap.size, 0, none⟩)]] 148)
            rw [World.size_alloc] at this
            exact (hW.cell (p := ⟨w.heap.size + 1, 0, none⟩) (by show w.heap.size + 1 < _; simp)).trans (cell_of_row _ _ _ _ _ _ this))
      generalize (es.any fun x => !nodeB N x.1 || !nodeB N x.2) = q at *
      have HH := Lib.hid hh
      have HB := Lib.hid hb
      clear hh hb hE
      go_enter Tryz.func78, Tryz.ntmps78
      go_wp2_with fail
      refine HH.out.mono ?_
      rintro e w' ⟨rfl, hb'⟩
      go_wp2_with fail
      go_ret
      exact ⟨rfl, HB.out.trans (hb'.mono (by simp; omega))⟩
    · have h2i : decide ((es.length : Int) ≤ 4096) = false := decide_eq_false (by omega)
      rw [decide_eq_false h2]
      go_enter Tryz.func78, Tryz.ntmps78
      go_wp2_with fail
      go_ret
      exact ⟨rfl, ((Below.refl _ _).alloc (Nat.le_refl _) _).alloc (by simp) _⟩
  · have h1i : decide ((N : Int) ≤ 1024) = false := decide_eq_false (by omega)
    rw [decide_eq_false h1]
    go_enter Tryz.func78, Tryz.ntmps78
    go_wp2_with fail
    go_ret
    exact ⟨rfl, ((Below.refl _ _).alloc (Nat.le_refl _) _).alloc (by simp) _⟩
end Go.Proofs.YtnjiibiafhnmgaaGreatDoor
