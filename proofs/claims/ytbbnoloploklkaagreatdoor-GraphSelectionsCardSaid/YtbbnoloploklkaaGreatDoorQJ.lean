/- Contract of the graph's newSuccessors. Contracts of the graph's Valid; slices.ContainsFunc at edges. The graph's exist; slices.ContainsFunc at numbers. Contract of the graph's Reverse. -/
import Derived.Test.YtbbnoloploklkaaGreatDoorQI
import Derived.Test.YtbbnoloploklkaaGreatDoorQE
import Derived.Deep.OwnRows
import Derived.Outline
import Derived.Shelf.GgClosure.Gives
import Derived.Test.YtbbnoloploklkaaGreatDoorQD
namespace Go.Proofs.YtbbnoloploklkaaGreatDoor
set_option linter.unusedVariables false
set_option linter.unusedSimpArgs false
open Go Go.RowKit Go.Sort

def EdgesOf (B : Nat) (v : Value) (es : List (Int × Int)) (W : World) : Prop :=
  ∃ ao cap, v = .slice ao es.length cap ∧ ∀ i x, es[i]? = some x → ∃ b off, ao = some ⟨b, off, none⟩ ∧ b < B ∧ W.cell? ⟨b, off + i * 2, none⟩ = some (intC x.1) ∧ W.cell? ⟨b, off + i * 2 + 1, none⟩ = some (intC x.2)
theorem EdgesOf.below {B B' : Nat} {v : Value} {es : List (Int × Int)} {W W' : World} (h : EdgesOf B v es W) (hb : Below B' W W') (hB : B ≤ B') : EdgesOf B v es W' := by
  obtain ⟨ao, cap, rfl, h⟩ := h
  refine ⟨ao, cap, rfl, fun i x hx => ?_⟩
  obtain ⟨b, off, rfl, hlt, h1, h2⟩ := h i x hx
  exact ⟨b, off, rfl, hlt, (hb.cell (p := ⟨b, off + i * 2, none⟩) (by simp; omega)).trans h1, (hb.cell (p := ⟨b, off + i * 2 + 1, none⟩) (by simp; omega)).trans h2⟩
theorem EdgesOf.mono {B B' : Nat} {v : Value} {es : List (Int × Int)} {W : World} (h : EdgesOf B v es W) (hB : B ≤ B') : EdgesOf B' v es W := by
  obtain ⟨ao, cap, rfl, h⟩ := h
  refine ⟨ao, cap, rfl, fun i x hx => ?_⟩
  obtain ⟨b, off, rfl, hlt, h1, h2⟩ := h i x hx
  exact ⟨b, off, rfl, by omega, h1, h2⟩

theorem made_rep (z : Value) (n : Nat) : madeCells #[z] n = Array.replicate n z := by
  have := toList_madeCells_one z n
  rw [← Array.toList_replicate] at this
  exact Array.toList_inj.1 this
theorem info_ints : (Tryz.prog.info? 3).map (fun i => (i.zero, i.size, i.bytes)) = some (some (.int .i64 0), 1, 8) := by kernel_rfl
theorem make_ints (n : Nat) (hn : n ≤ 1000000000) (w : World) : (Instr.makeSlice 86 (.int .i64 (n : Int)) (.int .i64 (n : Int))).run Tryz.prog w = .ok (.slice (some ⟨w.heap.size, 0, none⟩) n n) (w.alloc (.cells (Array.replicate n (.int .i64 0)) 3)) := by
  have h := run_make_row' (P := Tryz.prog) 86 3 (.int .i64 0) 8 Tryz.underlying86 info_ints rfl .i64 .i64 n (by omega) (by omega) w
  rw [h, made_rep]
theorem info_rows : (Tryz.prog.info? 86).map (fun i => (i.zero, i.size, i.bytes)) = some (some (.slice none 0 0), 1, 24) := by kernel_rfl
theorem info_bools : (Tryz.prog.info? 4).map (fun i => (i.zero, i.size, i.bytes)) = some (some (.bool false), 1, 1) := by kernel_rfl
theorem make_bools (n : Nat) (hn : n ≤ 1000000000) (w : World) : (Instr.makeSlice 163 (.int .i64 (n : Int)) (.int .i64 (n : Int))).run Tryz.prog w = .ok (.slice (some ⟨w.heap.size, 0, none⟩) n n) (w.alloc (.cells (Array.replicate n (.bool false)) 4)) := by
  have h := run_make_row' (P := Tryz.prog) 163 4 (.bool false) 1 Tryz.underlying163 info_bools rfl .i64 .i64 n (by omega) (by omega) w
  rw [h, made_rep]
theorem make_sucs (n : Nat) (hn : n ≤ 1000000000) (w : World) : (Instr.makeSlice 161 (.int .i64 (n : Int)) (.int .i64 (n : Int))).run Tryz.prog w = .ok (.slice (some ⟨w.heap.size, 0, none⟩) n n) (w.alloc (.cells (Array.replicate n (.slice none 0 0)) 86)) := by
  have h := run_make_row' (P := Tryz.prog) 161 86 (.slice none 0 0) 24 Tryz.underlying161 info_rows rfl .i64 .i64 n (by omega) (by omega) w
  rw [h, made_rep]
theorem own_made (B e n : Nat) (xs : List Value) (w : World) (hB : B ≤ w.heap.size) (hn : n ≤ maxLen) (hx : xs.length = n) : (w.alloc (.cells xs.toArray e)).ownsRow B e 1 (.slice (some ⟨w.heap.size, 0, none⟩) n n) n xs := by
  subst hx
  have := World.ownsRow_lit (base := B) (e := e) (size := 1) w xs.toArray xs.length hB hn (by simp)
  simpa using this

def rawRows (N : Nat) (es : List (Int × Int)) : List (List Value) := (List.range N).map fun i => (rawL es i).map intC
theorem rawRows_length (N : Nat) (es : List (Int × Int)) : (rawRows N es).length = N := by simp [rawRows]
theorem rawRows_get (N : Nat) (es : List (Int × Int)) (i : Nat) (h : i < N) : (rawRows N es)[i]? = some ((rawL es i).map intC) := by simp [rawRows, h]
theorem rawRows_nil (N : Nat) : rawRows N [] = List.replicate N [] := by
  apply List.ext_getElem (by simp [rawRows])
  intro i h1 h2
  simp [rawRows, rawL]
theorem rawRows_snoc (N : Nat) (es : List (Int × Int)) (i : Nat) (y : Int) (h : i < N) : rawRows N (es ++ [((i : Int), y)]) = (rawRows N es).set i ((rawL es i).map intC ++ [intC y]) := by
  apply List.ext_getElem (by simp [rawRows])
  intro j h1 h2
  have hj : j < N := by simpa [rawRows] using h1
  rw [List.getElem_set]
  simp only [rawRows, List.getElem_map, List.getElem_range, rawL_snoc]
  by_cases e : i = j
  · subst e; simp
  · rw [if_neg (by omega), if_neg e]

def mixRows (N : Nat) (es : List (Int × Int)) (k : Nat) : List (List Value) := (List.range N).map fun i => if i < k then (sucL N es i).map natC else (rawL es i).map intC
theorem mixRows_length (N : Nat) (es : List (Int × Int)) (k : Nat) : (mixRows N es k).length = N := by simp [mixRows]
theorem mixRows_zero (N : Nat) (es : List (Int × Int)) : mixRows N es 0 = rawRows N es := by simp [mixRows, rawRows]
theorem mixRows_get (N : Nat) (es : List (Int × Int)) (k : Nat) (h : k < N) : (mixRows N es k)[k]? = some ((rawL es k).map intC) := by simp [mixRows, h]
theorem mixRows_succ (N : Nat) (es : List (Int × Int)) (k : Nat) : mixRows N es (k + 1) = (mixRows N es k).set k ((sucL N es k).map natC) := by
  apply List.ext_getElem (by simp [mixRows])
  intro j h1 h2
  rw [List.getElem_set]
  simp only [mixRows, List.getElem_map, List.getElem_range]
  by_cases e : k = j
  · subst e; simp
  · by_cases h : j < k
    · rw [if_pos (by omega), if_neg e, if_pos h]
    · rw [if_neg (by omega), if_neg e, if_neg h]
theorem mixRows_all (N : Nat) (es : List (Int × Int)) : mixRows N es N = (sucs N es).map (·.map natC) := by
  unfold mixRows sucs
  rw [List.map_map]
  apply List.map_congr_left
  intro i hi
  rw [List.mem_range] at hi
  rw [if_pos hi]
  rfl

set_option maxRecDepth 100000 in
set_option maxHeartbeats 4000000 in
theorem newSucc_any (na : Option Addr) (nc N : Nat) (ev : Value) (es : List (Int × Int)) (w : World) (hE : EdgesOf w.heap.size ev es w) (hv : validG N es = true) :
    Calls Tryz.prog 125 #[.agg #[.slice na N nc, ev]] w fun e w' => ∃ v vs, e = .returned v ∧ Grid w.heap.size v vs ((sucs N es).map (·.map natC)) w' ∧ Below w.heap.size w w' := by
  obtain ⟨hN, hes⟩ := validG_n hv
  obtain ⟨ao, ec, rfl, hE⟩ := hE
  have HV := Lib.hid hv
  have HE := Lib.hid hE
  clear hv hE
  have hmk := make_sucs N (by omega)
  obtain ⟨B, hB⟩ : ∃ B, B = w.heap.size := ⟨_, rfl⟩
  have HBB := Lib.hid hB
  have hB2 : B ≤ w.heap.size := by omega
  clear hB
  have HG0 : Hid (Grid B (.slice (some ⟨w.heap.size + 1, 0, none⟩) N N) (List.replicate N (.slice none 0 0)) (rawRows N []) ((w.alloc (.cells #[.slice na N nc, .slice ao es.length ec] 78)).alloc (.cells (Array.replicate N (.slice none 0 0)) 86))) := Lib.hid (by
    rw [rawRows_nil]
    have := own_made B 86 N (List.replicate N (.slice none 0 0)) (w.alloc (.cells #[.slice na N nc, .slice ao es.length ec] 78)) (by simp; omega) (by unfold maxLen; omega) (by simp)
    rw [World.size_alloc] at this
    exact Grid.made B N w hB2 (by unfold maxLen; omega) _ _ this (by simp; omega))
  have HB0 : Hid (Below B w ((w.alloc (.cells #[.slice na N nc, .slice ao es.length ec] 78)).alloc (.cells (Array.replicate N (.slice none 0 0)) 86))) := Lib.hid (((Below.refl _ w).alloc hB2 _).alloc (by simp; omega) _)
  go_enter Tryz.func125, Tryz.ntmps125
  go_wp2_with fail
  clear hmk
  go_loopw [14] (fun p wr => ∃ (k : Nat) (vs : List Value), k ≤ es.length ∧ p = .int .i64 k ∧ Hid (Grid B (.slice (some ⟨w.heap.size + 1, 0, none⟩) N N) vs (rawRows N (es.take k)) wr) ∧ Hid (Below B w wr) ∧ Hid (w.heap.size + 2 ≤ wr.heap.size)) (fun p _ => es.length - (intOf p).toNat)
  case atStart => exact ⟨0, _, by omega, rfl, HG0, HB0, Lib.hid (by simp)⟩
  case round =>
    clear HG0 HB0
    obtain ⟨k, vs, hk, rfl, HG, HB, HS⟩ := hrel
    by_cases hlt : k < es.length
    · obtain ⟨b, off, rfl, hb, hc1, hc2⟩ := HE.out k es[k] (by simp [hlt])
      have hc1 := (HB.out.cell (p := ⟨b, off + k * 2, none⟩) (by simp; have := HBB.out; omega)).trans hc1
      have hc2 := (HB.out.cell (p := ⟨b, off + k * 2 + 1, none⟩) (by simp; have := HBB.out; omega)).trans hc2
      have HT : Hid (es.take (k + 1) = es.take k ++ [es[k]]) := Lib.hid (List.take_succ_eq_append_getElem hlt)
      have hed := validG_edge HV.out (List.getElem_mem hlt)
      obtain ⟨⟨x1, x2⟩, hx⟩ : ∃ x, x = es[k] := ⟨_, rfl⟩
      rw [← hx] at hc1 hc2 hed HT
      clear hx
      obtain ⟨i, rfl⟩ : ∃ i : Nat, x1 = (i : Int) := ⟨x1.toNat, by simp at hed; omega⟩
      obtain ⟨j, rfl⟩ : ∃ j : Nat, x2 = (j : Int) := ⟨x2.toNat, by simp at hed; omega⟩
      simp only at hc1 hc2 hed
      obtain ⟨hi0, hi1, hj0, hj1⟩ := hed
      have hiN : i < N := by omega
      have hvl : vs.length = N := by have := HG.out.len; rw [rawRows_length] at this; exact this
      have hu : vs[i]? = some (vs[i]'(by omega)) := by simp
      generalize vs[i]'(by omega) = u at hu
      have hl := rawRows_get N (es.take k) i hiN
      have hown := HG.out.row i u _ hu hl
      have hfu := HG.out.top
      rw [rawRows_length] at hfu
      have hcu := own_cell hfu i u hu
      have hfu := hfu.frozenAt i
      have hsz := HS.out
      have hlen : (rawL (es.take k) i).length ≤ 4096 := by
        unfold rawL
        have := List.length_filter_le (fun e : Int × Int => e.1 == (i : Int)) (es.take k)
        simp at this ⊢
        omega
      have hne : w.heap.size + 1 ≠ wr.heap.size := by omega
      have hne2 : wr.heap.size ≠ w.heap.size + 1 := by omega
      have hob : ∀ b, u.ownBlock = some b → b < wr.heap.size ∧ b ≠ w.heap.size + 1 := fun b hb => ⟨(hown.lt b hb).2, fun e => by
        have := own_ne HG.out.top hown (by decide)
        rw [hb, e] at this
        simp [Value.ownBlock] at this⟩
      have HN : Hid (∀ W1, (((wr.alloc (.cells #[intC i, intC j] 84)).alloc (.cells #[intC j] 3)).drew).grownBy W1 u.ownBlock → (W1.cell? ⟨w.heap.size + 1, i, none⟩ = some u ∧ W1.frozen? ⟨w.heap.size + 1, i, none⟩ = false) ∧
          (W1.cell? ⟨wr.heap.size, 0, none⟩ = some (intC i) ∧ W1.cell? ⟨wr.heap.size, 1, none⟩ = some (intC j)) ∧ wr.heap.size + 2 ≤ W1.heap.size) := Lib.hid (fun W1 hg => by
        have a1 : some (w.heap.size + 1) ≠ u.ownBlock := fun e => (hob _ e.symm).2 rfl
        have a2 : some wr.heap.size ≠ u.ownBlock := fun e => by have := (hob _ e.symm).1; omega
        have hs := hg.size
        have f1 := frozA (.cells #[intC i, intC j] 84) hcu hfu
        have c1 := cellA (.cells #[intC i, intC j] 84) hcu
        refine ⟨⟨?_, ?_⟩, ⟨?_, ?_⟩, by simpa using hs⟩
        · rw [hg.cell_far _ (by show w.heap.size + 1 < _; simp; omega) a1]
          exact cellA (.cells #[intC j] 3) c1
        · rw [hg.frozen_far _ (by show w.heap.size + 1 < _; simp; omega) a1]
          exact frozA (.cells #[intC j] 3) c1 f1
        · rw [hg.cell_far _ (by show wr.heap.size < _; simp; omega) a2]
          exact cellA (.cells #[intC j] 3) (cell_of_row _ _ _ _ _ _ (World.alloc_heap_new wr _))
        · rw [hg.cell_far _ (by show wr.heap.size < _; simp; omega) a2]
          exact cellA (.cells #[intC j] 3) (cell_of_row _ _ _ _ _ _ (World.alloc_heap_new wr _)))
      have hcu1 := cellA (.cells #[.int .i64 (i : Int), .int .i64 (j : Int)] 84) hcu
      have hcu2 := cellA (.cells #[.int .i64 (j : Int)] 3) hcu1
      obtain ⟨i0, hi0', hz0, hz1, hz2⟩ := info_parts info_ints
      have HOWN := Lib.hid hown
      have HOB := Lib.hid hob
      have HU := Lib.hid hu
      have HL := Lib.hid hl
      have HFU := Lib.hid hfu
      have HCU := Lib.hid hcu
      clear hown hob hu hl hfu
      go_wp2_with fail
      refine wp_region_noPanic ?_
      refine region_plain_split (S := HeldR ⟨wr.heap.size, 0, none⟩ ⟨wr.heap.size, 1, none⟩ ⟨w.heap.size + 1, i, none⟩ (intC i) (intC j) u) 12 (by kernel_rfl) (by kernel_rfl) ?_
      simp only [List.take_succ_cons, List.take_zero]
      have hS0 : HeldR ⟨wr.heap.size, 0, none⟩ ⟨wr.heap.size, 1, none⟩ ⟨w.heap.size + 1, i, none⟩ (intC i) (intC j) u (wr.alloc (.cells #[intC i, intC j] 84)).drew := ⟨cell_of_row _ _ 0 _ _ _ (World.alloc_heap_new wr _), cell_of_row _ _ 1 _ _ _ (World.alloc_heap_new wr _), cellA _ HCU.out⟩
      (refine wpAnyH_take (i := 0) (v := ?_) rfl (by kernel_rfl) (by kernel_rfl) (by kernel_rfl) (fun _ _ _ h => h) (Or.inl ⟨by rfl, ?_⟩) (by assumption) ?_; rotate_left; (· (intro w hSw; obtain ⟨c0, c1, c2⟩ := hSw; go_simp; try with_reducible rfl)); (try simp only [zl1, zl2, zl3, Act.put, zl4, zl5, zl6]))
      (refine wpAnyH_take (i := 1) (v := ?_) rfl (by kernel_rfl) (by kernel_rfl) (by kernel_rfl) (fun _ _ _ h => h) (Or.inl ⟨by rfl, ?_⟩) (by assumption) ?_; rotate_left; (· (intro w hSw; obtain ⟨c0, c1, c2⟩ := hSw; go_simp; try with_reducible rfl)); (try simp only [zl1, zl2, zl3, Act.put, zl4, zl5, zl6]))
      (refine wpAnyH_take (i := 2) (v := ?_) rfl (by kernel_rfl) (by kernel_rfl) (by kernel_rfl) (fun _ _ _ h => h) (Or.inl ⟨by rfl, ?_⟩) (by assumption) ?_; rotate_left; (· (intro w hSw; obtain ⟨c0, c1, c2⟩ := hSw; go_simp; try with_reducible rfl)); (try simp only [zl1, zl2, zl3, Act.put, zl4, zl5, zl6]))
      (refine wpAnyH_take (i := 3) (v := ?_) rfl (by kernel_rfl) (by kernel_rfl) (by kernel_rfl) (fun _ _ _ h => h) (Or.inl ⟨by rfl, ?_⟩) (by assumption) ?_; rotate_left; (· (intro w hSw; obtain ⟨c0, c1, c2⟩ := hSw; go_simp; try with_reducible rfl)); (try simp only [zl1, zl2, zl3, Act.put, zl4, zl5, zl6]))
      (refine wpAnyH_take (i := 4) (v := ?_) rfl (by kernel_rfl) (by kernel_rfl) (by kernel_rfl) (fun _ _ _ h => h) (Or.inl ⟨by rfl, ?_⟩) (by assumption) ?_; rotate_left; (· (intro w hSw; obtain ⟨c0, c1, c2⟩ := hSw; go_simp; try with_reducible rfl)); (try simp only [zl1, zl2, zl3, Act.put, zl4, zl5, zl6]))
      (refine wpAnyH_take (i := 5) (v := ?_) rfl (by kernel_rfl) (by kernel_rfl) (by kernel_rfl) (fun _ _ _ h => h) (Or.inl ⟨by rfl, ?_⟩) (by assumption) ?_; rotate_left; (· (intro w hSw; obtain ⟨c0, c1, c2⟩ := hSw; go_simp; try with_reducible rfl)); (try simp only [zl1, zl2, zl3, Act.put, zl4, zl5, zl6]))
      (refine wpAnyH_take (i := 6) (v := ?_) rfl (by kernel_rfl) (by kernel_rfl) (by kernel_rfl) (fun _ _ _ h => h) (Or.inl ⟨by rfl, ?_⟩) (by assumption) ?_; rotate_left; (· (intro w hSw; obtain ⟨c0, c1, c2⟩ := hSw; go_simp; try with_reducible rfl)); (try simp only [zl1, zl2, zl3, Act.put, zl4, zl5, zl6]))
      (refine wpAnyH_take (i := 7) (v := ?_) rfl (by kernel_rfl) (by kernel_rfl) (by kernel_rfl) (fun _ _ _ h => h) (Or.inl ⟨by rfl, ?_⟩) (by assumption) ?_; rotate_left; (· (intro w hSw; obtain ⟨c0, c1, c2⟩ := hSw; go_simp; try with_reducible rfl)); (try simp only [zl1, zl2, zl3, Act.put, zl4, zl5, zl6]))
      (refine wpAnyH_take (i := 8) (v := ?_) rfl (by kernel_rfl) (by kernel_rfl) (by kernel_rfl) (fun _ _ _ h => h) (Or.inl ⟨by rfl, ?_⟩) (by assumption) ?_; rotate_left; (· (intro w hSw; obtain ⟨c0, c1, c2⟩ := hSw; go_simp; try with_reducible rfl)); (try simp only [zl1, zl2, zl3, Act.put, zl4, zl5, zl6]))
      (refine wpAnyH_take (i := 9) (v := ?_) rfl (by kernel_rfl) (by kernel_rfl) (by kernel_rfl) (fun _ _ _ h => h) (Or.inl ⟨by rfl, ?_⟩) (by assumption) ?_; rotate_left; (· (intro w hSw; obtain ⟨c0, c1, c2⟩ := hSw; go_simp; try with_reducible rfl)); (try simp only [zl1, zl2, zl3, Act.put, zl4, zl5, zl6]))
      refine wpAnyH_ready (rs := [10]) (by kernel_rfl) (by simp) (AllReadyH.cons rfl (fun K hK => ?_) AllReadyH.nil)
      go_simp
      refine hK.out _ _ ⟨cellA _ hS0.1, cellA _ hS0.2.1, cellA _ hS0.2.2⟩ (fun _ => ?_)
      clear hK K hS0
      (try simp only [zl1, zl2, zl3, Act.put, zl4, zl5, zl6])
      refine wpAnyH_ready (rs := [11]) (by kernel_rfl) (by simp) (AllReadyH.cons rfl (fun K hK => ?_) AllReadyH.nil)
      refine step_append_lies _ (by rfl) _ _ _ (by rfl) B 3 i0 _ 1 8 Tryz.underlying86 hi0' hz0 hz1 hz2 rfl (by omega) u _ _ (by rfl) (((HOWN.out.alloc _).alloc _).drew)
            ⟨wr.heap.size + 1, 0, none⟩ 1 1 [intC j] (by rfl) (by rfl) (World.news_of_block (cs := #[intC j]) (t := 3) (fr := (0, 0)) (by have := heap_alloc_new (wr.alloc (.cells #[intC i, intC j] 84)) (.cells #[intC j] 3); rw [World.size_alloc] at this; exact this)) (by simp [Value.oneCell'])
            (by omega) (by unfold maxLen; rw [List.length_map]; omega) (by rw [List.length_map]; omega) (by simp; have := HG.out.base; omega) (wr.heap.size + 2) (by simp) ?_
      intro gg cap w1 hown1 hgrow hat hlt1
      obtain ⟨⟨hcw, hfw⟩, ⟨hcw0, hcw1⟩, hsw⟩ := HN.out _ hgrow
      have hS1 : HeldR ⟨wr.heap.size, 0, none⟩ ⟨wr.heap.size, 1, none⟩ ⟨w.heap.size + 1, i, none⟩ (intC i) (intC j) u w1 := ⟨hcw0, hcw1, hcw⟩
      refine hK.out _ _ hS1 (fun _ => ?_)
      clear hK K hS1
      (try simp only [zl1, zl2, zl3, Act.put, zl4, zl5, zl6])
      refine wpAnyH_done (by kernel_rfl) ?_ _
      show wpList _ _ _ _ _ _
      simp only [List.drop_succ_cons, List.drop_zero]
      go_wp2_with fail
      refine NoPanic.normal ?_
      all_goals go_wp2_with fail
      all_goals
        go_roundw
        case rel =>
          refine ⟨k + 1, vs.set i (.slice (some ⟨gg, 0, none⟩) ((rawL (es.take k) i).length + 1) cap), by omega, by go_num, Lib.hid ?_, Lib.hid ?_, Lib.hid (by simp; omega)⟩
          · rw [HT.out, rawRows_snoc _ _ _ _ hiN]
            have g1 : wr.grownBy w1 u.ownBlock := (grownD ((World.grownBy_alloc wr _ _).trans (World.grownBy_alloc _ _ _))).trans hgrow
            have := HG.out.put i u _ _ ((rawL (es.take k) i).map intC ++ [intC j]) (by rw [rawRows_length]) HU.out HL.out g1 (by simpa using hown1) (by
              rcases hat with h | h
              · exact .inl (by rw [h]; rfl)
              · refine .inr fun k' hk' => ?_
                simp [Value.ownBlock] at hk'
                omega)
            exact this
          · have hgs := HG.out.base
            have g2 : Below B wr w1 := ((((Below.refl B wr).alloc hgs _).alloc (by simp; omega) _).drew).grown hgrow (by simp; omega) (fun b hb => (HOWN.out.lt b hb).1)
            exact (HB.out.trans g2).setCell (by show B ≤ w.heap.size + 1; omega) _
        case measure => simp [intOf]; omega
    · have hkk : k = es.length := by omega
      subst hkk
      rw [List.take_length] at HG
      go_wp2_with fail
      go_loopw [34] (fun p wr => ∃ (k : Nat) (vs : List Value), k ≤ N ∧ p = .int .i64 k ∧ Hid (Grid B (.slice (some ⟨w.heap.size + 1, 0, none⟩) N N) vs (mixRows N es k) wr) ∧ Hid (Below B w wr) ∧ Hid (w.heap.size + 2 ≤ wr.heap.size)) (fun p _ => N - (intOf p).toNat)
      case atStart => exact ⟨0, vs, by omega, rfl, Lib.hid (by rw [mixRows_zero]; exact HG.out), HB, HS⟩
      case round =>
        clear HG HB HS
        obtain ⟨k, vs, hk, rfl, HG, HB, HS⟩ := hrel
        by_cases hlt : k < N
        · have hx1 : (k : Int) < (N : Int) := by omega
          have hvl : vs.length = N := by have := HG.out.len; rw [mixRows_length] at this; exact this
          have hu : vs[k]? = some (vs[k]'(by omega)) := by simp
          generalize vs[k]'(by omega) = u at hu
          have hl := mixRows_get N es k hlt
          have hown := HG.out.row k u _ hu hl
          have hfu := HG.out.top
          rw [mixRows_length] at hfu
          have hcu := own_cell hfu k u hu
          have hlen : (rawL es k).length ≤ 4096 := by
            unfold rawL
            have := List.length_filter_le (fun e : Int × Int => e.1 == (k : Int)) es
            simp at this ⊢
            omega
          have hne := own_ne hfu hown (by decide)
          rw [List.length_map] at hown
          have HOWN := Lib.hid hown
          have HU := Lib.hid hu
          have HL := Lib.hid hl
          have HFU := Lib.hid hfu
          have HNE := Lib.hid hne
          have HGB := Lib.hid HG.out.base
          clear hown hu hl hfu hne
          go_wp2_with fail
          refine (sort_row B u _ wr HOWN.out (by omega)).mono ?_
          rintro e w1 ⟨rfl, hg1, ho1⟩
          have hlm : ((rawL es k).mergeSort fun x y => decide (x ≤ y)).length = (rawL es k).length := List.length_mergeSort _
          have hfu1 := HFU.out.kept hg1 HNE.out
          have hcu1 := own_cell hfu1 k u HU.out
          have HG1 := Lib.hid hg1
          have HO1 := Lib.hid ho1
          have HFU1 := Lib.hid hfu1
          have HCS := Lib.hid (compact_raw HV.out k)
          clear hg1 ho1 hfu1
          go_wp2_with fail
          refine (compact_row B u _ w1 HO1.out (by omega)).mono ?_
          rintro e w2 ⟨v', rfl, hob, ⟨a', m', c', rfl⟩, hg2, ho2⟩
          have hfu2 := HFU1.out.kept hg2 HNE.out
          have hcu2 := own_cell hfu2 k u HU.out
          have hfz2 := hfu2.frozenAt k
          rw [HCS.out] at ho2
          have HG2 := Lib.hid (HG1.out.trans hg2)
          have HO2 := Lib.hid ho2
          have HOB := Lib.hid hob
          clear hg2 ho2 hfu2 hob HO1 HFU1 hlm
          go_wp2_with fail
          go_roundw
          case rel =>
            refine ⟨k + 1, vs.set k (.slice a' m' c'), by omega, by go_num, Lib.hid ?_, Lib.hid ?_, Lib.hid (by have := HG2.out.size; have := HS.out; simp; omega)⟩
            · rw [mixRows_succ]
              exact HG.out.put k u _ _ ((sucL N es k).map natC) (by rw [mixRows_length]) HU.out HL.out HG2.out (by
                have := HO2.out
                rw [List.length_map] at this ⊢
                rwa [List.map_map] at this) (.inl HOB.out)
            · have g2 : Below B wr w2 := (Below.refl B wr).grown HG2.out HGB.out (fun b hb => (HOWN.out.lt b hb).1)
              exact (HB.out.trans g2).setCell (by show B ≤ w.heap.size + 1; omega) _
          case measure => simp [intOf]; omega
        · have hkk : k = N := by omega
          subst hkk
          go_wp2_with fail
          go_ret
          refine ⟨_, vs, rfl, ?_, ?_⟩
          · have := HG.out
            rw [mixRows_all, HBB.out] at this
            exact this
          · have := HB.out
            rw [HBB.out] at this
            exact this
end Go.Proofs.YtbbnoloploklkaaGreatDoor

namespace Go.Proofs.YtbbnoloploklkaaGreatDoor
set_option linter.unusedVariables false
set_option linter.unusedSimpArgs false
open Go Go.RowKit

abbrev edgeV (x : Int × Int) : Value := .agg #[intC x.1, intC x.2]
def PredE (g : Nat) (lb : Array Value) (es : List (Int × Int)) (p : Int × Int → Bool) (w : World) : Prop :=
  ∀ (W : World) (x : Int × Int), x ∈ es → Below w.heap.size w W → Calls Tryz.prog g (#[edgeV x] ++ lb) W fun e w' => e = .returned (.bool (p x)) ∧ Below w.heap.size w w'

set_option maxRecDepth 100000 in
set_option maxHeartbeats 2000000 in
theorem idx_edge (g : Nat) (lb : Array Value) (eg : ∀ args w, (callFunc g args).run Tryz.prog w = .ok (.enter g args) w) (p : Int × Int → Bool) (v : Value) (es : List (Int × Int)) (w : World) (hes : es.length ≤ 1000000000) (hE : EdgesOf w.heap.size v es w) (hp : PredE g lb es p w) :
    Calls Tryz.prog 200 #[v, .func (.func g) #[] lb] w fun e w' => ∃ r : Int, e = .returned (.int .i64 r) ∧ (0 ≤ r ↔ es.any p = true) ∧ Below w.heap.size w w' := by
  obtain ⟨ao, ec, rfl, hE⟩ := hE
  have HE := Lib.hid hE
  have HP := Lib.hid hp
  clear hE hp
  go_enter Tryz.func200, Tryz.ntmps200
  go_wp2
  go_loopw [8] (fun s wr => ∃ k : Nat, k ≤ es.length ∧ s = .int .i64 k ∧ Hid (Below w.heap.size w wr) ∧ Hid (∀ x ∈ es.take k, p x = false)) (fun s _ => es.length - (intOf s).toNat)
  case atStart => exact ⟨0, by omega, rfl, Lib.hid (Below.refl _ _), Lib.hid (by simp)⟩
  case round =>
    obtain ⟨k, hk, rfl, HB, HA⟩ := hrel
    by_cases hlt : k < es.length
    · have hlt2 : (k : Int) < (es.length : Int) := by omega
      obtain ⟨b, off, rfl, hb, hc1, hc2⟩ := HE.out k es[k] (by simp [hlt])
      have hc1 := (HB.out.cell (p := ⟨b, off + k * 2, none⟩) hb).trans hc1
      have hc2 := (HB.out.cell (p := ⟨b, off + k * 2 + 1, none⟩) hb).trans hc2
      have HT : Hid (es.take (k + 1) = es.take k ++ [es[k]]) := Lib.hid (List.take_succ_eq_append_getElem hlt)
      have hcall := HP.out wr es[k] (List.getElem_mem hlt) HB.out
      have HM : Hid (es[k] ∈ es) := Lib.hid (List.getElem_mem hlt)
      generalize es[k] = x at *
      cases hq : p x with
      | true =>
        rw [hq] at hcall
        have HQ := Lib.hid hq
        clear hq
        go_wp2_with (go_at_fn g; refine hcall.mono ?_; rintro e w' ⟨rfl, hb'⟩)
        go_ret
        exact ⟨_, rfl, ⟨fun _ => by rw [List.any_eq_true]; exact ⟨x, HM.out, HQ.out⟩, fun _ => by omega⟩, hb'⟩
      | false =>
        rw [hq] at hcall
        have HQ := Lib.hid hq
        clear hq
        go_wp2_with (go_at_fn g; refine hcall.mono ?_; rintro e w' ⟨rfl, hb'⟩)
        go_roundw
        case rel =>
          refine ⟨k + 1, by omega, by go_num, Lib.hid hb', Lib.hid ?_⟩
          rw [HT.out]
          intro y hy
          rcases List.mem_append.1 hy with hy | hy
          · exact HA.out y hy
          · rw [List.mem_singleton] at hy; rw [hy]; exact HQ.out
        case measure => simp [intOf]; omega
    · have hkk : k = es.length := by omega
      subst hkk
      rw [List.take_length] at HA
      go_wp2
      go_ret
      refine ⟨-1, rfl, ⟨fun h => by omega, fun h => ?_⟩, HB.out⟩
      rw [List.any_eq_true] at h
      obtain ⟨x, hx, hpx⟩ := h
      rw [HA.out x hx] at hpx
      cases hpx

theorem has_edge (g : Nat) (lb : Array Value) (eg : ∀ args w, (callFunc g args).run Tryz.prog w = .ok (.enter g args) w) (p : Int × Int → Bool) (v : Value) (es : List (Int × Int)) (w : World) (hes : es.length ≤ 1000000000) (hE : EdgesOf w.heap.size v es w) (hp : PredE g lb es p w) :
    Calls Tryz.prog 164 #[v, .func (.func g) #[] lb] w fun e w' => e = .returned (.bool (es.any p)) ∧ Below w.heap.size w w' := by
  have hi := idx_edge g lb eg p v es w hes hE hp
  generalize es.any p = q at hi ⊢
  have HI := Lib.hid hi
  obtain ⟨ao, ec, rfl, _⟩ := hE
  clear hp eg hi
  go_enter Tryz.func164, Tryz.ntmps164
  go_wp2_with fail
  refine HI.out.mono ?_
  rintro e w' ⟨r, rfl, hr, hb⟩
  cases q with
  | true =>
    have h0 : 0 ≤ r := hr.2 rfl
    clear hr
    go_wp2
    go_ret
    exact ⟨rfl, hb⟩
  | false =>
    have h0 : ¬ 0 ≤ r := fun h => by have := hr.1 h; cases this
    have h1 : decide (0 ≤ r) = false := decide_eq_false h0
    have h2 : r < 0 := by omega
    clear hr
    go_wp2
    go_ret
    exact ⟨rfl, hb⟩

def nodeB (N : Nat) (i : Int) : Bool := decide (0 ≤ i ∧ i < N)
theorem valid1_any (a : Option Addr) (N c Bg : Nat) (i : Int) (w : World) (hc : w.cell? ⟨Bg, 0, none⟩ = some (.slice a N c)) :
    Calls Tryz.prog 163 #[.int .i64 i, .pointer (some ⟨Bg, 0, none⟩)] w fun e w' => e = .returned (.bool (nodeB N i)) ∧ w = w' := by
  by_cases h1 : 0 ≤ i
  · by_cases h2 : i < N
    · have e : nodeB N i = true := by unfold nodeB; exact decide_eq_true ⟨h1, h2⟩
      rw [e]; clear e
      go_enter Tryz.func163, Tryz.ntmps163
      go_wp2
      go_ret
      exact ⟨rfl, rfl⟩
    · have e : nodeB N i = false := by unfold nodeB; exact decide_eq_false (fun h => h2 h.2)
      rw [e]; clear e
      go_enter Tryz.func163, Tryz.ntmps163
      go_wp2
      go_ret
      exact ⟨rfl, rfl⟩
  · have e : nodeB N i = false := by unfold nodeB; exact decide_eq_false (fun h => h1 h.1)
    rw [e]; clear e
    go_enter Tryz.func163, Tryz.ntmps163
    go_wp2
    go_ret
    exact ⟨rfl, rfl⟩

theorem valid2_any (a : Option Addr) (N c Bg Bf : Nat) (x : Int × Int) (w : World) (hc : w.cell? ⟨Bg, 0, none⟩ = some (.slice a N c)) (hf : w.cell? ⟨Bf, 0, none⟩ = some (.func (.func 163) #[] #[.pointer (some ⟨Bg, 0, none⟩)])) :
    Calls Tryz.prog 165 #[edgeV x, .pointer (some ⟨Bf, 0, none⟩)] w fun e w' => e = .returned (.bool (!nodeB N x.1 || !nodeB N x.2)) ∧ Below w.heap.size w w' := by
  have h1 := valid1_any a N c Bg x.1 _ (cellA (.cells #[intC x.1, intC x.2] 84) hc)
  have h2 := valid1_any a N c Bg x.2 _ (cellA (.cells #[intC x.1, intC x.2] 84) hc)
  generalize nodeB N x.1 = b1 at *
  generalize nodeB N x.2 = b2 at *
  have H1 := Lib.hid h1
  have H2 := Lib.hid h2
  have hf2 := cellA (.cells #[.int .i64 x.1, .int .i64 x.2] 84) hf
  clear h1 h2
  cases b1 with
  | false =>
    go_enter Tryz.func165, Tryz.ntmps165
    go_wp2_with fail
    refine H1.out.mono ?_
    rintro e w' ⟨rfl, rfl⟩
    go_wp2_with fail
    go_ret
    exact ⟨rfl, (Below.refl _ _).alloc (Nat.le_refl _) _⟩
  | true =>
    cases b2 with
    | false =>
      go_enter Tryz.func165, Tryz.ntmps165
      go_wp2_with fail
      refine H1.out.mono ?_
      rintro e w' ⟨rfl, rfl⟩
      go_wp2_with fail
      refine H2.out.mono ?_
      rintro e w' ⟨rfl, rfl⟩
      go_wp2_with fail
      go_ret
      exact ⟨rfl, (Below.refl _ _).alloc (Nat.le_refl _) _⟩
    | true =>
      go_enter Tryz.func165, Tryz.ntmps165
      go_wp2_with fail
      refine H1.out.mono ?_
      rintro e w' ⟨rfl, rfl⟩
      go_wp2_with fail
      refine H2.out.mono ?_
      rintro e w' ⟨rfl, rfl⟩
      go_wp2_with fail
      go_ret
      exact ⟨rfl, (Below.refl _ _).alloc (Nat.le_refl _) _⟩

theorem validG_eq (N : Nat) (es : List (Int × Int)) : validG N es = (decide (N ≤ 1024) && (decide (es.length ≤ 4096) && !es.any fun x => !nodeB N x.1 || !nodeB N x.2)) := by
  unfold validG
  rw [Bool.and_assoc]
  congr 2
  rw [Bool.eq_iff_iff, List.all_eq_true, Bool.not_eq_true', ← Bool.not_eq_true, List.any_eq_true]
  unfold nodeB
  constructor
  · rintro h ⟨x, hx, hx2⟩
    have := h x hx
    simp at this hx2
    omega
  · intro h x hx
    have h2 : ¬ ((!decide (0 ≤ x.1 ∧ x.1 < (N : Int)) || !decide (0 ≤ x.2 ∧ x.2 < (N : Int))) = true) := fun h3 => h ⟨x, hx, h3⟩
    simp at h2 ⊢
    omega

set_option maxRecDepth 100000 in
set_option maxHeartbeats 2000000 in
theorem GValid_any (a : Option Addr) (N c : Nat) (ev : Value) (es : List (Int × Int)) (w : World) (hes : es.length ≤ 1000000000000) (hE : EdgesOf w.heap.size ev es w) :
    Calls Tryz.prog 110 #[.agg #[.slice a N c, ev]] w fun e w' => e = .returned (.bool (validG N es)) ∧ Below w.heap.size w w' := by
  rw [validG_eq]
  have hE2 := hE
  obtain ⟨ao, ec, rfl, _⟩ := hE2
  by_cases h1 : N ≤ 1024
  · rw [decide_eq_true h1, Bool.true_and]
    have h1i : (N : Int) ≤ 1024 := by omega
    by_cases h2 : es.length ≤ 4096
    · rw [decide_eq_true h2, Bool.true_and]
      have h2i : (es.length : Int) ≤ 4096 := by omega
      have hb : Below w.heap.size w ((w.alloc (.cells #[.slice a N c, .slice ao es.length ec] 78)).alloc (.cells #[.func (.func 163) #[] #[.pointer (some ⟨w.heap.size, 0, none⟩)]] 99)) := ((Below.refl _ w).alloc (Nat.le_refl _) _).alloc (by simp) _
      have hh := has_edge 165 #[.pointer (some ⟨w.heap.size + 1, 0, none⟩)] (enters_of Tryz.func165 (by kernel_rfl) rfl) (fun x => !nodeB N x.1 || !nodeB N x.2) (.slice ao es.length ec) es
        ((w.alloc (.cells #[.slice a N c, .slice ao es.length ec] 78)).alloc (.cells #[.func (.func 163) #[] #[.pointer (some ⟨w.heap.size, 0, none⟩)]] 99)) (by omega) ((hE.below hb (Nat.le_refl _)).mono (by simp; omega)) (fun W x hx hW => by
          refine (valid2_any a N c w.heap.size (w.heap.size + 1) x W ?_ ?_).mono fun e w' h => ⟨h.1, hW.trans (h.2.mono hW.size)⟩
          · exact (hW.cell (p := ⟨w.heap.size, 0, none⟩) (by show w.heap.size < _; simp; omega)).trans (cellA _ (cell_of_row _ _ _ _ _ _ (World.alloc_heap_new w _)))
          · have := World.alloc_heap_new (w.alloc (.cells #[.slice a N c, .slice ao es.length ec] 78)) (.cells #[.func (.func 163) #[] #[.pointer (some ⟨w.heap.size, 0, none⟩)]] 99)
            rw [World.size_alloc] at this
            exact (hW.cell (p := ⟨w.heap.size + 1, 0, none⟩) (by show w.heap.size + 1 < _; simp)).trans (cell_of_row _ _ _ _ _ _ this))
      generalize (es.any fun x => !nodeB N x.1 || !nodeB N x.2) = q at *
      have HH := Lib.hid hh
      have HB := Lib.hid hb
      clear hh hb hE
      go_enter Tryz.func110, Tryz.ntmps110
      go_wp2_with fail
      refine HH.out.mono ?_
      rintro e w' ⟨rfl, hb'⟩
      go_wp2_with fail
      go_ret
      exact ⟨rfl, HB.out.trans (hb'.mono (by simp; omega))⟩
    · have h2i : decide ((es.length : Int) ≤ 4096) = false := decide_eq_false (by omega)
      rw [decide_eq_false h2]
      go_enter Tryz.func110, Tryz.ntmps110
      go_wp2_with fail
      go_ret
      exact ⟨rfl, ((Below.refl _ _).alloc (Nat.le_refl _) _).alloc (by simp) _⟩
  · have h1i : decide ((N : Int) ≤ 1024) = false := decide_eq_false (by omega)
    rw [decide_eq_false h1]
    go_enter Tryz.func110, Tryz.ntmps110
    go_wp2_with fail
    go_ret
    exact ⟨rfl, ((Below.refl _ _).alloc (Nat.le_refl _) _).alloc (by simp) _⟩
end Go.Proofs.YtbbnoloploklkaaGreatDoor

namespace Go.Proofs.YtbbnoloploklkaaGreatDoor
set_option linter.unusedVariables false
set_option linter.unusedSimpArgs false
open Go Go.RowKit

theorem rowOf_open {α : Type} {enc : α → Value} {B : Nat} {v : Value} {l : List α} {W : World} (h : RowOf enc B v l W) :
    ∃ ao cap, v = .slice ao l.length cap ∧ ∀ i x, l[i]? = some x → ∃ b off, ao = some ⟨b, off, none⟩ ∧ b < B ∧ W.cell? ⟨b, off + i, none⟩ = some (enc x) := by
  rcases h with ⟨rfl, a, c, rfl⟩ | ⟨b, off, cap, rfl, hb, h⟩
  · exact ⟨a, c, rfl, fun i x hx => by simp at hx⟩
  · exact ⟨_, cap, rfl, fun i x hx => ⟨b, off, rfl, hb, h i x hx⟩⟩
def PredI (g : Nat) (lb : Array Value) (es : List (Int)) (p : Int → Bool) (w : World) : Prop :=
  ∀ (W : World) (x : Int), x ∈ es → Below w.heap.size w W → Calls Tryz.prog g (#[intC x] ++ lb) W fun e w' => e = .returned (.bool (p x)) ∧ Below w.heap.size w w'

set_option maxRecDepth 100000 in
set_option maxHeartbeats 2000000 in
theorem idx_int (g : Nat) (lb : Array Value) (eg : ∀ args w, (callFunc g args).run Tryz.prog w = .ok (.enter g args) w) (p : Int → Bool) (v : Value) (es : List (Int)) (w : World) (hes : es.length ≤ 1000000000) (hE : RowOf intC w.heap.size v es w) (hp : PredI g lb es p w) :
    Calls Tryz.prog 61 #[v, .func (.func g) #[] lb] w fun e w' => ∃ r : Int, e = .returned (.int .i64 r) ∧ (0 ≤ r ↔ es.any p = true) ∧ Below w.heap.size w w' := by
  obtain ⟨ao, ec, rfl, hE2⟩ := rowOf_open hE
  have HE := Lib.hid hE2
  have HP := Lib.hid hp
  clear hE hE2 hp
  go_enter Tryz.func61, Tryz.ntmps61
  go_wp2
  go_loopw [8] (fun s wr => ∃ k : Nat, k ≤ es.length ∧ s = .int .i64 k ∧ Hid (Below w.heap.size w wr) ∧ Hid (∀ x ∈ es.take k, p x = false)) (fun s _ => es.length - (intOf s).toNat)
  case atStart => exact ⟨0, by omega, rfl, Lib.hid (Below.refl _ _), Lib.hid (by simp)⟩
  case round =>
    obtain ⟨k, hk, rfl, HB, HA⟩ := hrel
    by_cases hlt : k < es.length
    · have hlt2 : (k : Int) < (es.length : Int) := by omega
      obtain ⟨b, off, rfl, hb, hc1⟩ := HE.out k es[k] (by simp [hlt])
      have hc1 := (HB.out.cell (p := ⟨b, off + k, none⟩) hb).trans hc1
      have HT : Hid (es.take (k + 1) = es.take k ++ [es[k]]) := Lib.hid (List.take_succ_eq_append_getElem hlt)
      have hcall := HP.out wr es[k] (List.getElem_mem hlt) HB.out
      have HM : Hid (es[k] ∈ es) := Lib.hid (List.getElem_mem hlt)
      generalize es[k] = x at *
      cases hq : p x with
      | true =>
        rw [hq] at hcall
        have HQ := Lib.hid hq
        clear hq
        go_wp2_with (go_at_fn g; refine hcall.mono ?_; rintro e w' ⟨rfl, hb'⟩)
        go_ret
        exact ⟨_, rfl, ⟨fun _ => by rw [List.any_eq_true]; exact ⟨x, HM.out, HQ.out⟩, fun _ => by omega⟩, hb'⟩
      | false =>
        rw [hq] at hcall
        have HQ := Lib.hid hq
        clear hq
        go_wp2_with (go_at_fn g; refine hcall.mono ?_; rintro e w' ⟨rfl, hb'⟩)
        go_roundw
        case rel =>
          refine ⟨k + 1, by omega, by go_num, Lib.hid hb', Lib.hid ?_⟩
          rw [HT.out]
          intro y hy
          rcases List.mem_append.1 hy with hy | hy
          · exact HA.out y hy
          · rw [List.mem_singleton] at hy; rw [hy]; exact HQ.out
        case measure => simp [intOf]; omega
    · have hkk : k = es.length := by omega
      subst hkk
      rw [List.take_length] at HA
      go_wp2
      go_ret
      refine ⟨-1, rfl, ⟨fun h => by omega, fun h => ?_⟩, HB.out⟩
      rw [List.any_eq_true] at h
      obtain ⟨x, hx, hpx⟩ := h
      rw [HA.out x hx] at hpx
      cases hpx

theorem has_int (g : Nat) (lb : Array Value) (eg : ∀ args w, (callFunc g args).run Tryz.prog w = .ok (.enter g args) w) (p : Int → Bool) (v : Value) (es : List (Int)) (w : World) (hes : es.length ≤ 1000000000) (hE : RowOf intC w.heap.size v es w) (hp : PredI g lb es p w) :
    Calls Tryz.prog 64 #[v, .func (.func g) #[] lb] w fun e w' => e = .returned (.bool (es.any p)) ∧ Below w.heap.size w w' := by
  have hi := idx_int g lb eg p v es w hes hE hp
  generalize es.any p = q at hi ⊢
  have HI := Lib.hid hi
  obtain ⟨ao, ec, rfl, _⟩ := rowOf_open hE
  clear hp eg hi
  go_enter Tryz.func64, Tryz.ntmps64
  go_wp2_with fail
  refine HI.out.mono ?_
  rintro e w' ⟨r, rfl, hr, hb⟩
  cases q with
  | true =>
    have h0 : 0 ≤ r := hr.2 rfl
    clear hr
    go_wp2
    go_ret
    exact ⟨rfl, hb⟩
  | false =>
    have h0 : ¬ 0 ≤ r := fun h => by have := hr.1 h; cases this
    have h1 : decide (0 ≤ r) = false := decide_eq_false h0
    have h2 : r < 0 := by omega
    clear hr
    go_wp2
    go_ret
    exact ⟨rfl, hb⟩


theorem exist1_any (a : Option Addr) (N c Bg : Nat) (i : Int) (w : World) (hc : w.cell? ⟨Bg, 0, none⟩ = some (.slice a N c)) :
    Calls Tryz.prog 173 #[.int .i64 i, .pointer (some ⟨Bg, 0, none⟩)] w fun e w' => e = .returned (.bool (!nodeB N i)) ∧ w = w' := by
  by_cases h1 : 0 ≤ i
  · by_cases h2 : i < N
    · have e : nodeB N i = true := by unfold nodeB; exact decide_eq_true ⟨h1, h2⟩
      rw [e]; clear e
      have h3 : ¬ i < 0 := by omega
      have h4 : ¬ (N : Int) ≤ i := by omega
      go_enter Tryz.func173, Tryz.ntmps173
      go_wp2
      go_ret
      exact ⟨rfl, rfl⟩
    · have e : nodeB N i = false := by unfold nodeB; exact decide_eq_false (fun h => h2 h.2)
      rw [e]; clear e
      have h3 : ¬ i < 0 := by omega
      have h4 : (N : Int) ≤ i := by omega
      go_enter Tryz.func173, Tryz.ntmps173
      go_wp2
      go_ret
      exact ⟨rfl, rfl⟩
  · have e : nodeB N i = false := by unfold nodeB; exact decide_eq_false (fun h => h1 h.1)
    rw [e]; clear e
    have h3 : i < 0 := by omega
    go_enter Tryz.func173, Tryz.ntmps173
    go_wp2
    go_ret
    exact ⟨rfl, rfl⟩

theorem any_not {α : Type} (l : List α) (p : α → Bool) : (l.any fun x => !p x) = !l.all p := by
  induction l with
  | nil => rfl
  | cons x l ih => simp [ih, Bool.not_and]

set_option maxRecDepth 100000 in
set_option maxHeartbeats 2000000 in
theorem exist_any (a : Option Addr) (N c : Nat) (ev lv : Value) (es : List (Int × Int)) (l : List Int) (w : World) (hes : es.length ≤ 1000000000000) (hE : EdgesOf w.heap.size ev es w) (hll : l.length ≤ 1000000000) (hL : RowOf intC w.heap.size lv l w) :
    Calls Tryz.prog 124 #[.agg #[.slice a N c, ev], lv] w fun e w' => e = .returned (.bool (validG N es && l.all (nodeB N))) ∧ Below w.heap.size w w' := by
  have hb1 : Below w.heap.size w (w.alloc (.cells #[.slice a N c, ev] 78)) := (Below.refl _ _).alloc (Nat.le_refl _) _
  have hv := GValid_any a N c ev es _ hes ((hE.below hb1 (Nat.le_refl _)).mono hb1.size)
  have hcg : (w.alloc (.cells #[.slice a N c, ev] 78)).cell? ⟨w.heap.size, 0, none⟩ = some (.slice a N c) := cell_of_row _ _ _ _ _ _ (World.alloc_heap_new w _)
  have hh : ∀ W, Below (w.heap.size + 1) (w.alloc (.cells #[.slice a N c, ev] 78)) W → Calls Tryz.prog 64 #[lv, .func (.func 173) #[] #[.pointer (some ⟨w.heap.size, 0, none⟩)]] W fun e w' => e = .returned (.bool (!l.all (nodeB N))) ∧ Below W.heap.size W w' := fun W hW => by
    rw [← any_not]
    have hs := hW.size
    simp at hs
    refine has_int 173 _ (enters_of Tryz.func173 (by kernel_rfl) rfl) (fun x => !nodeB N x) lv l W hll ((hL.below (hb1.trans (hW.mono (by omega))) (Nat.le_refl _)).mono (by omega)) fun W2 x hx hW2 => ?_
    refine (exist1_any a N c w.heap.size x W2 ?_).mono fun e w' h => ⟨h.1, h.2 ▸ hW2⟩
    exact (hW2.cell (p := ⟨w.heap.size, 0, none⟩) (by show w.heap.size < _; omega)).trans ((hW.cell (p := ⟨w.heap.size, 0, none⟩) (by show w.heap.size < _; omega)).trans hcg)
  obtain ⟨la, lc, rfl, _⟩ := rowOf_open hL
  have hE2 := hE
  obtain ⟨ao, ec, rfl, _⟩ := hE2
  generalize validG N es = b1 at *
  generalize l.all (nodeB N) = b2 at *
  have HV := Lib.hid hv
  have HH := Lib.hid hh
  have HB1 := Lib.hid hb1
  clear hv hh hb1 hcg hE hL
  cases b1 with
  | false =>
    go_enter Tryz.func124, Tryz.ntmps124
    go_wp2_with fail
    refine HV.out.mono ?_
    rintro e w' ⟨rfl, hb⟩
    go_wp2_with fail
    go_ret
    exact ⟨rfl, HB1.out.trans (hb.mono (by simp))⟩
  | true =>
    cases b2 with
    | false =>
      go_enter Tryz.func124, Tryz.ntmps124
      go_wp2_with fail
      refine HV.out.mono ?_
      rintro e w' ⟨rfl, hb⟩
      have HH2 := Lib.hid (HH.out w' (by simpa using hb))
      go_wp2_with fail
      refine HH2.out.mono ?_
      rintro e w2 ⟨rfl, hb2⟩
      go_wp2_with fail
      go_ret
      exact ⟨rfl, (HB1.out.trans (hb.mono (by simp))).trans (hb2.mono (by have := hb.size; simp at this; omega))⟩
    | true =>
      go_enter Tryz.func124, Tryz.ntmps124
      go_wp2_with fail
      refine HV.out.mono ?_
      rintro e w' ⟨rfl, hb⟩
      have HH2 := Lib.hid (HH.out w' (by simpa using hb))
      go_wp2_with fail
      refine HH2.out.mono ?_
      rintro e w2 ⟨rfl, hb2⟩
      go_wp2_with fail
      go_ret
      exact ⟨rfl, (HB1.out.trans (hb.mono (by simp))).trans (hb2.mono (by have := hb.size; simp at this; omega))⟩
end Go.Proofs.YtbbnoloploklkaaGreatDoor

namespace Go.Proofs.YtbbnoloploklkaaGreatDoor
set_option linter.unusedVariables false
set_option linter.unusedSimpArgs false
open Go Go.RowKit

def revE (n : Nat) (es : List (Int × Int)) : List (Int × Int) := if validG n es = true then es.map swapE else []
def revN {α : Type} (ns : List α) (es : List (Int × Int)) : List α := if validG ns.length es = true then ns else []
def edgeCells (es : List (Int × Int)) : List Value := es.flatMap fun x => [intC x.1, intC x.2]
theorem edgeCells_snoc (es : List (Int × Int)) (x : Int × Int) : edgeCells (es ++ [x]) = edgeCells es ++ [intC x.1, intC x.2] := by unfold edgeCells; rw [List.flatMap_append]; rfl
theorem edgeCells_length (es : List (Int × Int)) : (edgeCells es).length = es.length * 2 := by
  induction es with
  | nil => rfl
  | cons x es ih => show (intC x.1 :: intC x.2 :: edgeCells es).length = _; simp [ih]; omega
theorem edgeCells_get (es : List (Int × Int)) (i : Nat) (x : Int × Int) (h : es[i]? = some x) : (edgeCells es)[i * 2]? = some (intC x.1) ∧ (edgeCells es)[i * 2 + 1]? = some (intC x.2) := by
  induction es generalizing i with
  | nil => simp at h
  | cons y es ih =>
    cases i with
    | zero => simp at h; subst h; exact ⟨rfl, rfl⟩
    | succ i =>
      have := ih i (by simpa using h)
      have e : ∀ j, (edgeCells (y :: es))[j + 2]? = (edgeCells es)[j]? := fun j => rfl
      rw [show (i + 1) * 2 = i * 2 + 2 by omega, show i * 2 + 2 + 1 = (i * 2 + 1) + 2 by omega, e, e]
      exact this
theorem own_edges {W : World} {B n : Nat} {v : Value} {es : List (Int × Int)} (h : W.ownsRow B 84 2 v n (edgeCells es)) : EdgesOf W.heap.size v es W := by
  have hl : n = es.length := by have := h.1; rw [edgeCells_length] at this; omega
  subst hl
  rcases h.2 with ⟨rfl, h0⟩ | ⟨g, cap, cur, rfl, hb, hg, hc, _⟩
  · obtain rfl := List.length_eq_zero_iff.1 h0
    exact ⟨none, 0, rfl, fun i x hx => by simp at hx⟩
  · refine ⟨_, cap, rfl, fun i x hx => ⟨g, 0, rfl, (Array.getElem?_eq_some_iff.1 hg).1, ?_, ?_⟩⟩
    · have hi := (List.getElem?_eq_some_iff.1 hx).1
      rw [Nat.zero_add, h.cellAt (i * 2) (by omega)]
      exact (edgeCells_get es i x hx).1
    · have hi := (List.getElem?_eq_some_iff.1 hx).1
      rw [Nat.zero_add, h.cellAt (i * 2 + 1) (by omega)]
      exact (edgeCells_get es i x hx).2
theorem info_edges : (Tryz.prog.info? 84).map (fun i => (i.zero, i.size, i.bytes)) = some (some (.agg #[.int .i64 0, .int .i64 0]), 2, 16) := by kernel_rfl

theorem clone_strs (nv : Value) (ns : List ByteArray) (w : World) (hn : ns.length ≤ 1000000) (h : RowOf Value.string w.heap.size nv ns w) :
    Calls Tryz.prog 170 #[nv] w fun e w' => ∃ ao cap, e = .returned (.slice ao ns.length cap) ∧ RowOf Value.string w'.heap.size (.slice ao ns.length cap) ns w' ∧ Below w.heap.size w w' := by
  rcases h with ⟨rfl, a, c, rfl⟩ | ⟨b, off, cap, rfl, hb, h⟩
  · cases a with
    | none =>
      refine (Tryz.slices_Clone_string_nil 0 c w).mono ?_
      rintro e w' ⟨rfl, rfl⟩
      exact ⟨none, 0, rfl, .inl ⟨rfl, _, _, rfl⟩, Below.refl _ _⟩
    | some a =>
      refine (Tryz.slices_Clone_string_zero a c w).mono ?_
      rintro e w' ⟨v', rfl, ho, _, hb⟩
      rcases ho.2 with ⟨rfl, _⟩ | ⟨g, cap, cur, rfl, _⟩
      · exact ⟨none, 0, rfl, .inl ⟨rfl, _, _, rfl⟩, hb⟩
      · exact ⟨_, cap, rfl, .inl ⟨rfl, _, _, rfl⟩, hb⟩
  · refine (Tryz.slices_Clone_string b off ns.length cap ns w (Nat.le_refl _) (by omega) (fun j hj => by
      have := h j ns[j] (by simp [hj])
      rw [this, List.getD_eq_getElem?_getD, List.getElem?_eq_getElem hj]
      rfl)).mono ?_
    rintro e w' ⟨v', rfl, ho, _, hb⟩
    rw [List.take_length] at ho
    have hr := own_row ho
    rcases ho.2 with ⟨rfl, h0⟩ | ⟨g, cap, cur, rfl, _⟩
    · obtain rfl := List.length_eq_zero_iff.1 h0
      exact ⟨none, 0, rfl, .inl ⟨rfl, _, _, rfl⟩, hb⟩
    · exact ⟨_, cap, rfl, hr.2, hb⟩

theorem set_two {W : World} {g t : Nat} {x y x' y' : Value} (h : W.heap[g]? = some (.cells #[x, y] t (0, 0))) : ((W.setCell ⟨g, 0, none⟩ x').setCell ⟨g, 1, none⟩ y').heap[g]? = some (.cells #[x', y'] t (0, 0)) := by
  have h1 := heap_setCell_same W g 0 #[x, y] t x' h
  exact heap_setCell_same _ g 1 _ t y' h1
set_option maxRecDepth 100000 in
set_option maxHeartbeats 4000000 in
theorem Reverse_any (nv ev : Value) (ns : List ByteArray) (es : List (Int × Int)) (w : World) (hes : es.length ≤ 1000000000000) (hE : EdgesOf w.heap.size ev es w) (hN : RowOf Value.string w.heap.size nv ns w) :
    Calls Tryz.prog 117 #[.agg #[nv, ev]] w fun e w' => ∃ a c v', e = .returned (.agg #[.slice a (revN ns es).length c, v']) ∧ RowOf Value.string w'.heap.size (.slice a (revN ns es).length c) (revN ns es) w' ∧ EdgesOf w'.heap.size v' (revE ns.length es) w' ∧ Below w.heap.size w w' := by
  obtain ⟨na, nc, rfl, _⟩ := rowOf_open hN
  have hb1 : Below w.heap.size w ((w.alloc (.cells #[.slice na ns.length nc, ev] 78)).alloc (.cells #[.slice none 0 0, .slice none 0 0] 78)) := ((Below.refl _ _).alloc (Nat.le_refl _) _).alloc (by simp) _
  have hv := GValid_any na ns.length nc ev es _ hes ((hE.below hb1 (Nat.le_refl _)).mono hb1.size)
  have hnew : ((w.alloc (.cells #[.slice na ns.length nc, ev] 78)).alloc (.cells #[.slice none 0 0, .slice none 0 0] 78)).heap[w.heap.size + 1]? = some (.cells #[.slice none 0 0, .slice none 0 0] 78 (0, 0)) := by
    have := World.alloc_heap_new (w.alloc (.cells #[.slice na ns.length nc, ev] 78)) (.cells #[.slice none 0 0, .slice none 0 0] 78)
    rw [World.size_alloc] at this
    exact this
  have HNEW := Lib.hid hnew
  clear hnew
  by_cases hval : validG ns.length es = true
  · have e1 : revN ns es = ns := if_pos hval
    have e2 : revE ns.length es = es.map swapE := if_pos hval
    rw [e1, e2]
    clear e1 e2
    rw [hval] at hv
    obtain ⟨hNn, hNe⟩ := validG_n hval
    have hc : ∀ W, Below (w.heap.size + 2) ((w.alloc (.cells #[.slice na ns.length nc, ev] 78)).alloc (.cells #[.slice none 0 0, .slice none 0 0] 78)) W → RowOf Value.string W.heap.size (.slice na ns.length nc) ns W := fun W hW =>
      (hN.below (hb1.trans (hW.mono (by omega))) (Nat.le_refl _)).mono (by have := hW.size; simp at this; omega)
    obtain ⟨ao, ec, rfl, hE⟩ := hE
    have HV := Lib.hid hv
    have HC := Lib.hid hc
    have HB1 := Lib.hid hb1
    have HE := Lib.hid hE
    clear hv hc hb1 hE hN hval
    go_enter Tryz.func117, Tryz.ntmps117
    go_wp2_with fail
    refine HV.out.mono ?_
    rintro e w1 ⟨rfl, hb⟩
    have hcl := clone_strs _ ns w1 (by omega) (HC.out w1 (by simpa using hb))
    have HCL := Lib.hid hcl
    have hs1 := hb.size
    simp at hs1
    have hg1 := (hb.cell (p := ⟨w.heap.size, 0, none⟩) (by show w.heap.size < _; simp; omega)).trans (cellA _ (cell_of_row _ _ 0 _ _ _ (World.alloc_heap_new w (.cells #[.slice na ns.length nc, .slice ao es.length ec] 78))))
    have hg2 := (hb.cell (p := ⟨w.heap.size, 1, none⟩) (by show w.heap.size < _; simp; omega)).trans (cellA _ (cell_of_row _ _ 1 _ _ _ (World.alloc_heap_new w (.cells #[.slice na ns.length nc, .slice ao es.length ec] 78))))
    have hr1 := (hb.block (w.heap.size + 1) (by simp)).trans HNEW.out
    have HW1 := Lib.hid (HB1.out.trans (hb.mono (by simp; omega)))
    have HR1 := Lib.hid hr1
    clear hcl hb hr1
    go_wp2_with fail
    refine HCL.out.mono ?_
    rintro e w2 ⟨a', c', rfl, hrn, hb2⟩
    have hs2 := hb2.size
    have hg2' := (hb2.cell (p := ⟨w.heap.size, 1, none⟩) (by show w.heap.size < _; omega)).trans hg2
    have hg2a := cellA (.cells #[.slice a' ns.length c', .slice none 0 0] 78) hg2'
    have hr2 := (hb2.block (w.heap.size + 1) (by omega)).trans HR1.out
    have HW2 := Lib.hid (HW1.out.trans (hb2.mono (by omega)))
    have HRN := Lib.hid hrn
    have HR2 := Lib.hid hr2
    clear hrn hb2 hr2 HCL HR1 HW1 hg1 hg2
    go_wp2_with fail
    obtain ⟨i0, hi0', hz0, hz1, hz2⟩ := info_parts info_edges
    have HL0 : Hid ((w2.alloc (.cells #[.slice a' ns.length c', .slice none 0 0] 78)).heap[w2.heap.size]? = some (.cells #[.slice a' ns.length c', .slice none 0 0] 78 (0, 0))) := Lib.hid (World.alloc_heap_new w2 _)
    have HL1 : Hid (Below w2.heap.size w2 (w2.alloc (.cells #[.slice a' ns.length c', .slice none 0 0] 78))) := Lib.hid ((Below.refl _ _).alloc (Nat.le_refl _) _)
    clear hg2a hg2'
    go_loopw [17] (fun p wr => ∃ (k : Nat) (v : Value), k ≤ es.length ∧ p = .int .i64 k ∧ Hid (wr.heap[w2.heap.size]? = some (.cells #[.slice a' ns.length c', v] 78 (0, 0))) ∧ Hid (wr.ownsRow w2.heap.size 84 2 v k (edgeCells ((es.take k).map swapE))) ∧ Hid (Below w2.heap.size w2 wr)) (fun p _ => es.length - (intOf p).toNat)
    case atStart => exact ⟨0, .slice none 0 0, by omega, rfl, HL0, Lib.hid (World.ownsRow_nil _ _ _ _), HL1⟩
    case round =>
      clear HL0 HL1
      obtain ⟨k, v, hk, rfl, HBX, HO, HB⟩ := hrel
      have hszr := HB.out.size
      by_cases hlt : k < es.length
      · obtain ⟨b, off, rfl, hb, hc1, hc2⟩ := HE.out k es[k] (by simp [hlt])
        have hW := HW2.out.trans (HB.out.mono (by omega))
        have hc1 := (hW.cell (p := ⟨b, off + k * 2, none⟩) hb).trans hc1
        have hc2 := (hW.cell (p := ⟨b, off + k * 2 + 1, none⟩) hb).trans hc2
        have HT : Hid ((es.take (k + 1)).map swapE = (es.take k).map swapE ++ [swapE es[k]]) := Lib.hid (by rw [List.take_succ_eq_append_getElem hlt, List.map_append]; rfl)
        clear hW
        obtain ⟨⟨x1, x2⟩, hx⟩ : ∃ x, x = es[k] := ⟨_, rfl⟩
        rw [← hx] at hc1 hc2 HT
        clear hx
        simp only at hc1 hc2
        have hcv0 : wr.cell? ⟨w2.heap.size, 1, none⟩ = some v := cell_of_row _ _ 1 _ _ _ HBX.out
        have hcv := cellA (.cells #[.int .i64 x1, .int .i64 x2] 84) hcv0
        have HN : Hid (∀ W1, ((wr.alloc (.cells #[intC x1, intC x2] 84)).alloc (.cells #[intC x2, intC x1] 84)).grownBy W1 v.ownBlock → W1.heap[w2.heap.size]? = some (.cells #[.slice a' ns.length c', v] 78 (0, 0)) ∧ Below w2.heap.size w2 W1) := Lib.hid (fun W1 hg => by
          refine ⟨(hg.block _ (by simp; have := (Array.getElem?_eq_some_iff.1 HBX.out).1; omega) (blk_ne HBX.out HO.out (by decide))).trans (((Below.heap_alloc _ _ _ (by have := (Array.getElem?_eq_some_iff.1 HBX.out).1; simp; omega)).trans (Below.heap_alloc _ _ _ (Array.getElem?_eq_some_iff.1 HBX.out).1)).trans HBX.out), ?_⟩
          exact ((HB.out.alloc hszr _).alloc (by simp; omega) _).grown hg (by simp; omega) (fun b hb => (HO.out.lt b hb).1))
        go_wp2_with (at_builtin; refine wpList_append_own _ rfl _ _ 76 rfl w2.heap.size 84 i0 _ 2 16 Tryz.underlying76 hi0' hz0 hz1 hz2 rfl (by decide) v k _ (by rfl) ((HO.out.alloc _).alloc _) ⟨wr.heap.size + 1, 0, none⟩ 1 1 [intC x2, intC x1] (by rfl) (by rfl) (World.news_of_block (cs := #[intC x2, intC x1]) (t := 84) (fr := (0, 0)) (by have := heap_alloc_new (wr.alloc (.cells #[intC x1, intC x2] 84)) (.cells #[intC x2, intC x1] 84); rw [World.size_alloc] at this; exact this)) (by simp [Value.oneCell']) (by unfold maxLen; omega) (by omega) (by simp; omega) ?_; intro v' w3 hown' hgrow _; obtain ⟨hbx, hbb⟩ := HN.out _ hgrow; have hfz := frozen_of_row _ _ 1 _ _ hbx; have hcx : w3.cell? ⟨w2.heap.size, 1, none⟩ = some v := cell_of_row _ _ 1 _ _ _ hbx; have HBX2 := Lib.hid hbx; have HBB2 := Lib.hid hbb; have HOW2 := Lib.hid hown'; clear hbx hbb hown' hgrow; obtain ⟨gg, cap, rfl⟩ := ownsRow_succ HOW2.out)
        go_roundw
        case rel =>
          refine ⟨k + 1, .slice (some ⟨gg, 0, none⟩) (k + 1) cap, by omega, by go_num, Lib.hid ?_, Lib.hid ?_, Lib.hid ?_⟩
          · exact heap_setCell_same _ w2.heap.size 1 _ _ _ HBX2.out
          · rw [HT.out, edgeCells_snoc]
            refine HOW2.out.kept (row := some w2.heap.size) ⟨rfl, rfl, rfl, by simp, fun k' _ hk' => heap_setCell_other _ ⟨w2.heap.size, 1, none⟩ k' _ (fun e => hk' (by rw [e]))⟩ ?_
            exact .inr (Ne.symm (blk_ne HBX2.out HOW2.out (by decide)))
          · exact HBB2.out.setCell (Nat.le_refl _) _
        case measure => simp [intOf]; omega
      · have hkk : k = es.length := by omega
        subst hkk
        rw [List.take_length] at HO
        have hc0 : wr.cell? ⟨w2.heap.size, 0, none⟩ = some (.slice a' ns.length c') := cell_of_row _ _ 0 _ _ _ HBX.out
        have hc1 : wr.cell? ⟨w2.heap.size, 1, none⟩ = some v := cell_of_row _ _ 1 _ _ _ HBX.out
        have hrb := (HB.out.block (w.heap.size + 1) (by omega)).trans HR2.out
        have hr0 : wr.cell? ⟨w.heap.size + 1, 0, none⟩ = some (.slice none 0 0) := cell_of_row _ _ 0 _ _ _ hrb
        have hr1 : wr.cell? ⟨w.heap.size + 1, 1, none⟩ = some (.slice none 0 0) := cell_of_row _ _ 1 _ _ _ hrb
        have hf0 := frozen_of_row _ _ 0 _ _ hrb
        have hf1 := frozen_of_row _ _ 1 _ _ hrb
        obtain ⟨va, vn, vc, rfl⟩ : ∃ a n c, v = .slice a n c := by
          rcases HO.out.2 with ⟨rfl, _⟩ | ⟨g, cap, cur, rfl, _⟩
          · exact ⟨_, _, _, rfl⟩
          · exact ⟨_, _, _, rfl⟩
        have HRB := Lib.hid hrb
        clear hrb
        go_wp2_with fail
        have HR3 := set_two (x' := .slice a' ns.length c') (y' := .slice va vn vc) HRB.out
        have z0 : ((wr.setCell ⟨w.heap.size + 1, 0, none⟩ (.slice a' ns.length c')).setCell ⟨w.heap.size + 1, 1, none⟩ (.slice va vn vc)).cell? ⟨w.heap.size + 1, 0, none⟩ = some (.slice a' ns.length c') := cell_of_row _ _ 0 _ _ _ HR3
        have z1 : ((wr.setCell ⟨w.heap.size + 1, 0, none⟩ (.slice a' ns.length c')).setCell ⟨w.heap.size + 1, 1, none⟩ (.slice va vn vc)).cell? ⟨w.heap.size + 1, 1, none⟩ = some (.slice va vn vc) := cell_of_row _ _ 1 _ _ _ HR3
        clear HR3 hc0 hc1 hr0 hr1 hf0 hf1
        refine bodyPost_ret (v := .agg #[.slice a' ns.length c', .slice va vn vc]) (by simp [results, Tryz.results117, go_sem, z0, z1]) rfl ⟨a', c', .slice va vn vc, rfl, ?_, ?_, ?_⟩
        · have hr4 : RowOf Value.string wr.heap.size (.slice a' ns.length c') ns wr := (HRN.out.below HB.out (Nat.le_refl _)).mono hszr
          rcases hr4 with ⟨h1, h2⟩ | ⟨rb, ro, rc, h1, h2, h3⟩
          · exact .inl ⟨h1, h2⟩
          · refine .inr ⟨rb, ro, rc, h1, by simpa using h2, fun i x hx => ?_⟩
            have h4 := h3 i x hx
            have hne : rb ≠ w.heap.size + 1 := fun e => by
              rw [e, cell_of_row _ _ _ _ _ _ HRB.out] at h4
              match ro + i, h4 with
              | 0, h4 => cases h4
              | 1, h4 => cases h4
              | j + 2, h4 => simp at h4
            rw [World.cell?_setCell_far _ _ _ _ (by exact Ne.symm hne), World.cell?_setCell_far _ _ _ _ (by exact Ne.symm hne)]
            exact h4
        · refine own_edges (B := w2.heap.size) (n := es.length) (own_far HO.out fun k' hk' => ?_)
          have := (HO.out.lt k' hk').1
          rw [Below.heap_setCell _ _ _ _ (by show k' ≠ w.heap.size + 1; omega), Below.heap_setCell _ _ _ _ (by show k' ≠ w.heap.size + 1; omega)]
        · exact ((HW2.out.trans (HB.out.mono (by omega))).setCell (by show w.heap.size ≤ w.heap.size + 1; omega) _).setCell (by show w.heap.size ≤ w.heap.size + 1; omega) _
  · have hval2 : validG ns.length es = false := by simpa using hval
    have e1 : revN ns es = [] := if_neg hval
    have e2 : revE ns.length es = [] := if_neg hval
    rw [e1, e2]
    clear e1 e2
    rw [hval2] at hv
    obtain ⟨ao, ec, rfl, _⟩ := hE
    have HV := Lib.hid hv
    have HB1 := Lib.hid hb1
    clear hv hb1 hN hval hval2
    go_enter Tryz.func117, Tryz.ntmps117
    go_wp2_with fail
    refine HV.out.mono ?_
    rintro e w1 ⟨rfl, hb⟩
    have hs1 := hb.size
    simp at hs1
    have hr1 := (hb.block (w.heap.size + 1) (by simp)).trans HNEW.out
    have hc0 : w1.cell? ⟨w.heap.size + 1, 0, none⟩ = some (.slice none 0 0) := cell_of_row _ _ 0 _ _ _ hr1
    have hc1 : w1.cell? ⟨w.heap.size + 1, 1, none⟩ = some (.slice none 0 0) := cell_of_row _ _ 1 _ _ _ hr1
    have hf := frozen_of_row _ _ 0 _ _ hr1
    have hf1 := frozen_of_row _ _ 1 _ _ hr1
    have HB := Lib.hid hb
    have hr1b := Lib.hid hr1
    clear hb hr1
    go_wp2_with fail
    have HRB := set_two (x' := .slice none 0 0) (y' := .slice none 0 0) hr1b.out
    have z0 : ((w1.setCell ⟨w.heap.size + 1, 0, none⟩ (.slice none 0 0)).setCell ⟨w.heap.size + 1, 1, none⟩ (.slice none 0 0)).cell? ⟨w.heap.size + 1, 0, none⟩ = some (.slice none 0 0) := cell_of_row _ _ 0 _ _ _ HRB
    have z1 : ((w1.setCell ⟨w.heap.size + 1, 0, none⟩ (.slice none 0 0)).setCell ⟨w.heap.size + 1, 1, none⟩ (.slice none 0 0)).cell? ⟨w.heap.size + 1, 1, none⟩ = some (.slice none 0 0) := cell_of_row _ _ 1 _ _ _ HRB
    clear HRB hc0 hc1 hf hf1
    refine bodyPost_ret (v := .agg #[.slice none 0 0, .slice none 0 0]) (by simp [results, Tryz.results117, go_sem, z0, z1]) rfl ⟨none, 0, .slice none 0 0, rfl, .inl ⟨rfl, _, _, rfl⟩, ⟨none, 0, rfl, fun i x hx => by simp at hx⟩, ?_⟩
    exact ((HB1.out.trans (HB.out.mono (by simp; omega))).setCell (by show w.heap.size ≤ w.heap.size + 1; omega) _).setCell (by show w.heap.size ≤ w.heap.size + 1; omega) _
end Go.Proofs.YtbbnoloploklkaaGreatDoor
