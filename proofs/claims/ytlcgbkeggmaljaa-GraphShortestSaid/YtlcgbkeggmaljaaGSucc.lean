/- Contract of the graph's newSuccessors. -/
import Derived.Test.YtlcgbkeggmaljaaGSort
import Derived.Test.YtlcgbkeggmaljaaGSplit
import Derived.Deep.OwnRows
import Derived.Outline
namespace Go.Proofs.Ytlcgbkeggmaljaa
set_option linter.unusedVariables false
set_option linter.unusedSimpArgs false
open Go Go.RowKit Go.Sort

/-- a slice of edges that reads as a list of pairs. -/
def EdgesOf (B : Nat) (v : Value) (es : List (Int × Int)) (W : World) : Prop :=
  ∃ ao cap, v = .slice ao es.length cap ∧ ∀ i x, es[i]? = some x → ∃ b off, ao = some ⟨b, off, none⟩ ∧ b < B ∧ W.cell? ⟨b, off + i * 2, none⟩ = some (intC x.1) ∧ W.cell? ⟨b, off + i * 2 + 1, none⟩ = some (intC x.2)
theorem EdgesOf.below {B B' : Nat} {v : Value} {es : List (Int × Int)} {W W' : World} (h : EdgesOf B v es W) (hb : Below B' W W') (hB : B ≤ B') : EdgesOf B v es W' := by
  obtain ⟨ao, cap, rfl, h⟩ := h
  refine ⟨ao, cap, rfl, fun i x hx => ?_⟩
  obtain ⟨b, off, rfl, hlt, h1, h2⟩ := h i x hx
  exact ⟨b, off, rfl, hlt, (hb.cell (p := ⟨b, off + i * 2, none⟩) (by simp; omega)).trans h1, (hb.cell (p := ⟨b, off + i * 2 + 1, none⟩) (by simp; omega)).trans h2⟩
theorem EdgesOf.mono {B B' : Nat} {v : Value} {es : List (Int × Int)} {W : World} (h : EdgesOf B v es W) (hB : B ≤ B') : EdgesOf B' v es W := by
  obtain ⟨ao, cap, rfl, h⟩ := h
  refine ⟨ao, cap, rfl, fun i x hx => ?_⟩
  obtain ⟨b, off, rfl, hlt, h1, h2⟩ := h i x hx
  exact ⟨b, off, rfl, by omega, h1, h2⟩

theorem made_rep (z : Value) (n : Nat) : madeCells #[z] n = Array.replicate n z := by
  have := toList_madeCells_one z n
  rw [← Array.toList_replicate] at this
  exact Array.toList_inj.1 this
theorem info_ints : (Try.prog.info? 3).map (fun i => (i.zero, i.size, i.bytes)) = some (some (.int .i64 0), 1, 8) := by kernel_rfl
/-- make with a length that is a variable. -/
theorem make_ints (n : Nat) (hn : n ≤ 1000000000) (w : World) : (Instr.makeSlice 26 (.int .i64 (n : Int)) (.int .i64 (n : Int))).run Try.prog w = .ok (.slice (some ⟨w.heap.size, 0, none⟩) n n) (w.alloc (.cells (Array.replicate n (.int .i64 0)) 3)) := by
  have h := run_make_row' (P := Try.prog) 26 3 (.int .i64 0) 8 Try.underlying26 info_ints rfl .i64 .i64 n (by omega) (by omega) w
  rw [h, made_rep]
theorem info_rows : (Try.prog.info? 26).map (fun i => (i.zero, i.size, i.bytes)) = some (some (.slice none 0 0), 1, 24) := by kernel_rfl
/-- make with a length that is a variable. -/
theorem make_rows (n : Nat) (hn : n ≤ 1000000000) (w : World) : (Instr.makeSlice 43 (.int .i64 (n : Int)) (.int .i64 (n : Int))).run Try.prog w = .ok (.slice (some ⟨w.heap.size, 0, none⟩) n n) (w.alloc (.cells (Array.replicate n (.slice none 0 0)) 26)) := by
  have h := run_make_row' (P := Try.prog) 43 26 (.slice none 0 0) 24 Try.underlying43 info_rows rfl .i64 .i64 n (by omega) (by omega) w
  rw [h, made_rep]
theorem info_bools : (Try.prog.info? 4).map (fun i => (i.zero, i.size, i.bytes)) = some (some (.bool false), 1, 1) := by kernel_rfl
/-- make with a length that is a variable. -/
theorem make_bools (n : Nat) (hn : n ≤ 1000000000) (w : World) : (Instr.makeSlice 55 (.int .i64 (n : Int)) (.int .i64 (n : Int))).run Try.prog w = .ok (.slice (some ⟨w.heap.size, 0, none⟩) n n) (w.alloc (.cells (Array.replicate n (.bool false)) 4)) := by
  have h := run_make_row' (P := Try.prog) 55 4 (.bool false) 1 Try.underlying55 info_bools rfl .i64 .i64 n (by omega) (by omega) w
  rw [h, made_rep]
theorem make_sucs (n : Nat) (hn : n ≤ 1000000000) (w : World) : (Instr.makeSlice 53 (.int .i64 (n : Int)) (.int .i64 (n : Int))).run Try.prog w = .ok (.slice (some ⟨w.heap.size, 0, none⟩) n n) (w.alloc (.cells (Array.replicate n (.slice none 0 0)) 26)) := by
  have h := run_make_row' (P := Try.prog) 53 26 (.slice none 0 0) 24 Try.underlying53 info_rows rfl .i64 .i64 n (by omega) (by omega) w
  rw [h, made_rep]
/-- a row that has just been laid. -/
theorem own_made (B e n : Nat) (xs : List Value) (w : World) (hB : B ≤ w.heap.size) (hn : n ≤ maxLen) (hx : xs.length = n) : (w.alloc (.cells xs.toArray e)).ownsRow B e 1 (.slice (some ⟨w.heap.size, 0, none⟩) n n) n xs := by
  subst hx
  have := World.ownsRow_lit (base := B) (e := e) (size := 1) w xs.toArray xs.length hB hn (by simp)
  simpa using this

/-- the rows behind k edges. -/
def rawRows (N : Nat) (es : List (Int × Int)) : List (List Value) := (List.range N).map fun i => (rawL es i).map intC
theorem rawRows_length (N : Nat) (es : List (Int × Int)) : (rawRows N es).length = N := by simp [rawRows]
theorem rawRows_get (N : Nat) (es : List (Int × Int)) (i : Nat) (h : i < N) : (rawRows N es)[i]? = some ((rawL es i).map intC) := by simp [rawRows, h]
theorem rawRows_nil (N : Nat) : rawRows N [] = List.replicate N [] := by
  apply List.ext_getElem (by simp [rawRows])
  intro i h1 h2
  simp [rawRows, rawL]
theorem rawRows_snoc (N : Nat) (es : List (Int × Int)) (i : Nat) (y : Int) (h : i < N) : rawRows N (es ++ [((i : Int), y)]) = (rawRows N es).set i ((rawL es i).map intC ++ [intC y]) := by
  apply List.ext_getElem (by simp [rawRows])
  intro j h1 h2
  have hj : j < N := by simpa [rawRows] using h1
  rw [List.getElem_set]
  simp only [rawRows, List.getElem_map, List.getElem_range, rawL_snoc]
  by_cases e : i = j
  · subst e; simp
  · rw [if_neg (by omega), if_neg e]

/-- the rows of which k have been sorted and compacted. -/
def mixRows (N : Nat) (es : List (Int × Int)) (k : Nat) : List (List Value) := (List.range N).map fun i => if i < k then (sucL N es i).map natC else (rawL es i).map intC
theorem mixRows_length (N : Nat) (es : List (Int × Int)) (k : Nat) : (mixRows N es k).length = N := by simp [mixRows]
theorem mixRows_zero (N : Nat) (es : List (Int × Int)) : mixRows N es 0 = rawRows N es := by simp [mixRows, rawRows]
theorem mixRows_get (N : Nat) (es : List (Int × Int)) (k : Nat) (h : k < N) : (mixRows N es k)[k]? = some ((rawL es k).map intC) := by simp [mixRows, h]
theorem mixRows_succ (N : Nat) (es : List (Int × Int)) (k : Nat) : mixRows N es (k + 1) = (mixRows N es k).set k ((sucL N es k).map natC) := by
  apply List.ext_getElem (by simp [mixRows])
  intro j h1 h2
  rw [List.getElem_set]
  simp only [mixRows, List.getElem_map, List.getElem_range]
  by_cases e : k = j
  · subst e; simp
  · by_cases h : j < k
    · rw [if_pos (by omega), if_neg e, if_pos h]
    · rw [if_neg (by omega), if_neg e, if_neg h]
theorem mixRows_all (N : Nat) (es : List (Int × Int)) : mixRows N es N = (sucs N es).map (·.map natC) := by
  unfold mixRows sucs
  rw [List.map_map]
  apply List.map_congr_left
  intro i hi
  rw [List.mem_range] at hi
  rw [if_pos hi]
  rfl

set_option maxRecDepth 100000 in
set_option maxHeartbeats 4000000 in
theorem newSucc_any (na : Option Addr) (nc N : Nat) (ev : Value) (es : List (Int × Int)) (w : World) (hE : EdgesOf w.heap.size ev es w) (hv : validG N es = true) :
    Calls Try.prog 40 #[.agg #[.slice na N nc, ev]] w fun e w' => ∃ v vs, e = .returned v ∧ Grid w.heap.size v vs ((sucs N es).map (·.map natC)) w' ∧ Below w.heap.size w w' := by
  obtain ⟨hN, hes⟩ := validG_n hv
  obtain ⟨ao, ec, rfl, hE⟩ := hE
  have HV := Lib.hid hv
  have HE := Lib.hid hE
  clear hv hE
  have hmk := make_sucs N (by omega)
  obtain ⟨B, hB⟩ : ∃ B, B = w.heap.size := ⟨_, rfl⟩
  have HBB := Lib.hid hB
  have hB2 : B ≤ w.heap.size := by omega
  clear hB
  have HG0 : Hid (Grid B (.slice (some ⟨w.heap.size + 1, 0, none⟩) N N) (List.replicate N (.slice none 0 0)) (rawRows N []) ((w.alloc (.cells #[.slice na N nc, .slice ao es.length ec] 25)).alloc (.cells (Array.replicate N (.slice none 0 0)) 26))) := Lib.hid (by
    rw [rawRows_nil]
    have := own_made B 26 N (List.replicate N (.slice none 0 0)) (w.alloc (.cells #[.slice na N nc, .slice ao es.length ec] 25)) (by simp; omega) (by unfold maxLen; omega) (by simp)
    rw [World.size_alloc] at this
    exact Grid.made B N w hB2 (by unfold maxLen; omega) _ _ this (by simp; omega))
  have HB0 : Hid (Below B w ((w.alloc (.cells #[.slice na N nc, .slice ao es.length ec] 25)).alloc (.cells (Array.replicate N (.slice none 0 0)) 26))) := Lib.hid (((Below.refl _ w).alloc hB2 _).alloc (by simp; omega) _)
  go_enter Try.func40, Try.ntmps40
  go_wp2_with fail
  clear hmk
  go_loopw [14] (fun p wr => ∃ (k : Nat) (vs : List Value), k ≤ es.length ∧ p = .int .i64 k ∧ Hid (Grid B (.slice (some ⟨w.heap.size + 1, 0, none⟩) N N) vs (rawRows N (es.take k)) wr) ∧ Hid (Below B w wr) ∧ Hid (w.heap.size + 2 ≤ wr.heap.size)) (fun p _ => es.length - (intOf p).toNat)
  case atStart => exact ⟨0, _, by omega, rfl, HG0, HB0, Lib.hid (by simp)⟩
  case round =>
    clear HG0 HB0
    obtain ⟨k, vs, hk, rfl, HG, HB, HS⟩ := hrel
    by_cases hlt : k < es.length
    · obtain ⟨b, off, rfl, hb, hc1, hc2⟩ := HE.out k es[k] (by simp [hlt])
      have hc1 := (HB.out.cell (p := ⟨b, off + k * 2, none⟩) (by simp; have := HBB.out; omega)).trans hc1
      have hc2 := (HB.out.cell (p := ⟨b, off + k * 2 + 1, none⟩) (by simp; have := HBB.out; omega)).trans hc2
      have HT : Hid (es.take (k + 1) = es.take k ++ [es[k]]) := Lib.hid (List.take_succ_eq_append_getElem hlt)
      have hed := validG_edge HV.out (List.getElem_mem hlt)
      obtain ⟨⟨x1, x2⟩, hx⟩ : ∃ x, x = es[k] := ⟨_, rfl⟩
      rw [← hx] at hc1 hc2 hed HT
      clear hx
      obtain ⟨i, rfl⟩ : ∃ i : Nat, x1 = (i : Int) := ⟨x1.toNat, by simp at hed; omega⟩
      obtain ⟨j, rfl⟩ : ∃ j : Nat, x2 = (j : Int) := ⟨x2.toNat, by simp at hed; omega⟩
      simp only at hc1 hc2 hed
      obtain ⟨hi0, hi1, hj0, hj1⟩ := hed
      have hiN : i < N := by omega
      have hvl : vs.length = N := by have := HG.out.len; rw [rawRows_length] at this; exact this
      have hu : vs[i]? = some (vs[i]'(by omega)) := by simp
      generalize vs[i]'(by omega) = u at hu
      have hl := rawRows_get N (es.take k) i hiN
      have hown := HG.out.row i u _ hu hl
      have hfu := HG.out.top
      rw [rawRows_length] at hfu
      have hcu := own_cell hfu i u hu
      have hfu := hfu.frozenAt i
      have hsz := HS.out
      have hlen : (rawL (es.take k) i).length ≤ 4096 := by
        unfold rawL
        have := List.length_filter_le (fun e : Int × Int => e.1 == (i : Int)) (es.take k)
        simp at this ⊢
        omega
      have hne : w.heap.size + 1 ≠ wr.heap.size := by omega
      have hne2 : wr.heap.size ≠ w.heap.size + 1 := by omega
      have hob : ∀ b, u.ownBlock = some b → b < wr.heap.size ∧ b ≠ w.heap.size + 1 := fun b hb => ⟨(hown.lt b hb).2, fun e => by
        have := own_ne HG.out.top hown (by decide)
        rw [hb, e] at this
        simp [Value.ownBlock] at this⟩
      have HN : Hid (∀ W1, (((wr.alloc (.cells #[intC i, intC j] 39)).alloc (.cells #[intC j] 3)).drew).grownBy W1 u.ownBlock → (W1.cell? ⟨w.heap.size + 1, i, none⟩ = some u ∧ W1.frozen? ⟨w.heap.size + 1, i, none⟩ = false) ∧
          (W1.cell? ⟨wr.heap.size, 0, none⟩ = some (intC i) ∧ W1.cell? ⟨wr.heap.size, 1, none⟩ = some (intC j)) ∧ wr.heap.size + 2 ≤ W1.heap.size) := Lib.hid (fun W1 hg => by
        have a1 : some (w.heap.size + 1) ≠ u.ownBlock := fun e => (hob _ e.symm).2 rfl
        have a2 : some wr.heap.size ≠ u.ownBlock := fun e => by have := (hob _ e.symm).1; omega
        have hs := hg.size
        have f1 := frozA (.cells #[intC i, intC j] 39) hcu hfu
        have c1 := cellA (.cells #[intC i, intC j] 39) hcu
        refine ⟨⟨?_, ?_⟩, ⟨?_, ?_⟩, by simpa using hs⟩
        · rw [hg.cell_far _ (by show w.heap.size + 1 < _; simp; omega) a1]
          exact cellA (.cells #[intC j] 3) c1
        · rw [hg.frozen_far _ (by show w.heap.size + 1 < _; simp; omega) a1]
          exact frozA (.cells #[intC j] 3) c1 f1
        · rw [hg.cell_far _ (by show wr.heap.size < _; simp; omega) a2]
          exact cellA (.cells #[intC j] 3) (cell_of_row _ _ _ _ _ _ (World.alloc_heap_new wr _))
        · rw [hg.cell_far _ (by show wr.heap.size < _; simp; omega) a2]
          exact cellA (.cells #[intC j] 3) (cell_of_row _ _ _ _ _ _ (World.alloc_heap_new wr _)))
      have hcu1 := cellA (.cells #[.int .i64 (i : Int), .int .i64 (j : Int)] 39) hcu
      have hcu2 := cellA (.cells #[.int .i64 (j : Int)] 3) hcu1
      obtain ⟨i0, hi0', hz0, hz1, hz2⟩ := info_parts info_ints
      have HOWN := Lib.hid hown
      have HOB := Lib.hid hob
      have HU := Lib.hid hu
      have HL := Lib.hid hl
      have HFU := Lib.hid hfu
      have HCU := Lib.hid hcu
      clear hown hob hu hl hfu
      go_wp2_with fail
      refine wp_region_noPanic ?_
      refine region_plain_split (S := HeldR ⟨wr.heap.size, 0, none⟩ ⟨wr.heap.size, 1, none⟩ ⟨w.heap.size + 1, i, none⟩ (intC i) (intC j) u) 12 (by kernel_rfl) (by kernel_rfl) ?_
      simp only [List.take_succ_cons, List.take_zero]
      have hS0 : HeldR ⟨wr.heap.size, 0, none⟩ ⟨wr.heap.size, 1, none⟩ ⟨w.heap.size + 1, i, none⟩ (intC i) (intC j) u (wr.alloc (.cells #[intC i, intC j] 39)).drew := ⟨cell_of_row _ _ 0 _ _ _ (World.alloc_heap_new wr _), cell_of_row _ _ 1 _ _ _ (World.alloc_heap_new wr _), cellA _ HCU.out⟩
      (refine wpAnyH_take (i := 0) (v := ?_) rfl (by kernel_rfl) (by kernel_rfl) (by kernel_rfl) (fun _ _ _ h => h) (Or.inl ⟨by rfl, ?_⟩) (by assumption) ?_; rotate_left; (· (intro w hSw; obtain ⟨c0, c1, c2⟩ := hSw; go_simp; try with_reducible rfl)); (try simp only [List.getElem_toArray, List.getElem_cons_zero, List.getElem_cons_succ, Act.put, List.setIfInBounds_toArray, List.set_cons_zero, List.set_cons_succ]))
      (refine wpAnyH_take (i := 1) (v := ?_) rfl (by kernel_rfl) (by kernel_rfl) (by kernel_rfl) (fun _ _ _ h => h) (Or.inl ⟨by rfl, ?_⟩) (by assumption) ?_; rotate_left; (· (intro w hSw; obtain ⟨c0, c1, c2⟩ := hSw; go_simp; try with_reducible rfl)); (try simp only [List.getElem_toArray, List.getElem_cons_zero, List.getElem_cons_succ, Act.put, List.setIfInBounds_toArray, List.set_cons_zero, List.set_cons_succ]))
      (refine wpAnyH_take (i := 2) (v := ?_) rfl (by kernel_rfl) (by kernel_rfl) (by kernel_rfl) (fun _ _ _ h => h) (Or.inl ⟨by rfl, ?_⟩) (by assumption) ?_; rotate_left; (· (intro w hSw; obtain ⟨c0, c1, c2⟩ := hSw; go_simp; try with_reducible rfl)); (try simp only [List.getElem_toArray, List.getElem_cons_zero, List.getElem_cons_succ, Act.put, List.setIfInBounds_toArray, List.set_cons_zero, List.set_cons_succ]))
      (refine wpAnyH_take (i := 3) (v := ?_) rfl (by kernel_rfl) (by kernel_rfl) (by kernel_rfl) (fun _ _ _ h => h) (Or.inl ⟨by rfl, ?_⟩) (by assumption) ?_; rotate_left; (· (intro w hSw; obtain ⟨c0, c1, c2⟩ := hSw; go_simp; try with_reducible rfl)); (try simp only [List.getElem_toArray, List.getElem_cons_zero, List.getElem_cons_succ, Act.put, List.setIfInBounds_toArray, List.set_cons_zero, List.set_cons_succ]))
      (refine wpAnyH_take (i := 4) (v := ?_) rfl (by kernel_rfl) (by kernel_rfl) (by kernel_rfl) (fun _ _ _ h => h) (Or.inl ⟨by rfl, ?_⟩) (by assumption) ?_; rotate_left; (· (intro w hSw; obtain ⟨c0, c1, c2⟩ := hSw; go_simp; try with_reducible rfl)); (try simp only [List.getElem_toArray, List.getElem_cons_zero, List.getElem_cons_succ, Act.put, List.setIfInBounds_toArray, List.set_cons_zero, List.set_cons_succ]))
      (refine wpAnyH_take (i := 5) (v := ?_) rfl (by kernel_rfl) (by kernel_rfl) (by kernel_rfl) (fun _ _ _ h => h) (Or.inl ⟨by rfl, ?_⟩) (by assumption) ?_; rotate_left; (· (intro w hSw; obtain ⟨c0, c1, c2⟩ := hSw; go_simp; try with_reducible rfl)); (try simp only [List.getElem_toArray, List.getElem_cons_zero, List.getElem_cons_succ, Act.put, List.setIfInBounds_toArray, List.set_cons_zero, List.set_cons_succ]))
      (refine wpAnyH_take (i := 6) (v := ?_) rfl (by kernel_rfl) (by kernel_rfl) (by kernel_rfl) (fun _ _ _ h => h) (Or.inl ⟨by rfl, ?_⟩) (by assumption) ?_; rotate_left; (· (intro w hSw; obtain ⟨c0, c1, c2⟩ := hSw; go_simp; try with_reducible rfl)); (try simp only [List.getElem_toArray, List.getElem_cons_zero, List.getElem_cons_succ, Act.put, List.setIfInBounds_toArray, List.set_cons_zero, List.set_cons_succ]))
      (refine wpAnyH_take (i := 7) (v := ?_) rfl (by kernel_rfl) (by kernel_rfl) (by kernel_rfl) (fun _ _ _ h => h) (Or.inl ⟨by rfl, ?_⟩) (by assumption) ?_; rotate_left; (· (intro w hSw; obtain ⟨c0, c1, c2⟩ := hSw; go_simp; try with_reducible rfl)); (try simp only [List.getElem_toArray, List.getElem_cons_zero, List.getElem_cons_succ, Act.put, List.setIfInBounds_toArray, List.set_cons_zero, List.set_cons_succ]))
      (refine wpAnyH_take (i := 8) (v := ?_) rfl (by kernel_rfl) (by kernel_rfl) (by kernel_rfl) (fun _ _ _ h => h) (Or.inl ⟨by rfl, ?_⟩) (by assumption) ?_; rotate_left; (· (intro w hSw; obtain ⟨c0, c1, c2⟩ := hSw; go_simp; try with_reducible rfl)); (try simp only [List.getElem_toArray, List.getElem_cons_zero, List.getElem_cons_succ, Act.put, List.setIfInBounds_toArray, List.set_cons_zero, List.set_cons_succ]))
      (refine wpAnyH_take (i := 9) (v := ?_) rfl (by kernel_rfl) (by kernel_rfl) (by kernel_rfl) (fun _ _ _ h => h) (Or.inl ⟨by rfl, ?_⟩) (by assumption) ?_; rotate_left; (· (intro w hSw; obtain ⟨c0, c1, c2⟩ := hSw; go_simp; try with_reducible rfl)); (try simp only [List.getElem_toArray, List.getElem_cons_zero, List.getElem_cons_succ, Act.put, List.setIfInBounds_toArray, List.set_cons_zero, List.set_cons_succ]))
      refine wpAnyH_ready (rs := [10]) (by kernel_rfl) (by simp) (AllReadyH.cons rfl (fun K hK => ?_) AllReadyH.nil)
      go_simp
      refine hK.out _ _ ⟨cellA _ hS0.1, cellA _ hS0.2.1, cellA _ hS0.2.2⟩ (fun _ => ?_)
      clear hK K hS0
      (try simp only [List.getElem_toArray, List.getElem_cons_zero, List.getElem_cons_succ, Act.put, List.setIfInBounds_toArray, List.set_cons_zero, List.set_cons_succ])
      refine wpAnyH_ready (rs := [11]) (by kernel_rfl) (by simp) (AllReadyH.cons rfl (fun K hK => ?_) AllReadyH.nil)
      refine step_append_lies _ (by rfl) _ _ _ (by rfl) B 3 i0 _ 1 8 Try.underlying26 hi0' hz0 hz1 hz2 rfl (by omega) u _ _ (by rfl) (((HOWN.out.alloc _).alloc _).drew)
            ⟨wr.heap.size + 1, 0, none⟩ 1 1 [intC j] (by rfl) (by rfl) (World.news_of_block (cs := #[intC j]) (t := 3) (fr := (0, 0)) (by have := heap_alloc_new (wr.alloc (.cells #[intC i, intC j] 39)) (.cells #[intC j] 3); rw [World.size_alloc] at this; exact this)) (by simp [Value.oneCell'])
            (by omega) (by unfold maxLen; rw [List.length_map]; omega) (by rw [List.length_map]; omega) (by simp; have := HG.out.base; omega) (wr.heap.size + 2) (by simp) ?_
      intro gg cap w1 hown1 hgrow hat hlt1
      obtain ⟨⟨hcw, hfw⟩, ⟨hcw0, hcw1⟩, hsw⟩ := HN.out _ hgrow
      have hS1 : HeldR ⟨wr.heap.size, 0, none⟩ ⟨wr.heap.size, 1, none⟩ ⟨w.heap.size + 1, i, none⟩ (intC i) (intC j) u w1 := ⟨hcw0, hcw1, hcw⟩
      refine hK.out _ _ hS1 (fun _ => ?_)
      clear hK K hS1
      (try simp only [List.getElem_toArray, List.getElem_cons_zero, List.getElem_cons_succ, Act.put, List.setIfInBounds_toArray, List.set_cons_zero, List.set_cons_succ])
      refine wpAnyH_done (by kernel_rfl) ?_ _
      show wpList _ _ _ _ _ _
      simp only [List.drop_succ_cons, List.drop_zero]
      go_wp2_with fail
      refine NoPanic.normal ?_
      all_goals go_wp2_with fail
      all_goals
        go_roundw
        case rel =>
          refine ⟨k + 1, vs.set i (.slice (some ⟨gg, 0, none⟩) ((rawL (es.take k) i).length + 1) cap), by omega, by go_num, Lib.hid ?_, Lib.hid ?_, Lib.hid (by simp; omega)⟩
          · rw [HT.out, rawRows_snoc _ _ _ _ hiN]
            have g1 : wr.grownBy w1 u.ownBlock := (grownD ((World.grownBy_alloc wr _ _).trans (World.grownBy_alloc _ _ _))).trans hgrow
            have := HG.out.put i u _ _ ((rawL (es.take k) i).map intC ++ [intC j]) (by rw [rawRows_length]) HU.out HL.out g1 (by simpa using hown1) (by
              rcases hat with h | h
              · exact .inl (by rw [h]; rfl)
              · refine .inr fun k' hk' => ?_
                simp [Value.ownBlock] at hk'
                omega)
            exact this
          · have hgs := HG.out.base
            have g2 : Below B wr w1 := ((((Below.refl B wr).alloc hgs _).alloc (by simp; omega) _).drew).grown hgrow (by simp; omega) (fun b hb => (HOWN.out.lt b hb).1)
            exact (HB.out.trans g2).setCell (by show B ≤ w.heap.size + 1; omega) _
        case measure => simp [intOf]; omega
    · have hkk : k = es.length := by omega
      subst hkk
      rw [List.take_length] at HG
      go_wp2_with fail
      go_loopw [34] (fun p wr => ∃ (k : Nat) (vs : List Value), k ≤ N ∧ p = .int .i64 k ∧ Hid (Grid B (.slice (some ⟨w.heap.size + 1, 0, none⟩) N N) vs (mixRows N es k) wr) ∧ Hid (Below B w wr) ∧ Hid (w.heap.size + 2 ≤ wr.heap.size)) (fun p _ => N - (intOf p).toNat)
      case atStart => exact ⟨0, vs, by omega, rfl, Lib.hid (by rw [mixRows_zero]; exact HG.out), HB, HS⟩
      case round =>
        clear HG HB HS
        obtain ⟨k, vs, hk, rfl, HG, HB, HS⟩ := hrel
        by_cases hlt : k < N
        · have hx1 : (k : Int) < (N : Int) := by omega
          have hvl : vs.length = N := by have := HG.out.len; rw [mixRows_length] at this; exact this
          have hu : vs[k]? = some (vs[k]'(by omega)) := by simp
          generalize vs[k]'(by omega) = u at hu
          have hl := mixRows_get N es k hlt
          have hown := HG.out.row k u _ hu hl
          have hfu := HG.out.top
          rw [mixRows_length] at hfu
          have hcu := own_cell hfu k u hu
          have hlen : (rawL es k).length ≤ 4096 := by
            unfold rawL
            have := List.length_filter_le (fun e : Int × Int => e.1 == (k : Int)) es
            simp at this ⊢
            omega
          have hne := own_ne hfu hown (by decide)
          rw [List.length_map] at hown
          have HOWN := Lib.hid hown
          have HU := Lib.hid hu
          have HL := Lib.hid hl
          have HFU := Lib.hid hfu
          have HNE := Lib.hid hne
          have HGB := Lib.hid HG.out.base
          clear hown hu hl hfu hne
          go_wp2_with fail
          refine (sort_row B u _ wr HOWN.out (by omega)).mono ?_
          rintro e w1 ⟨rfl, hg1, ho1⟩
          have hlm : ((rawL es k).mergeSort fun x y => decide (x ≤ y)).length = (rawL es k).length := List.length_mergeSort _
          have hfu1 := HFU.out.kept hg1 HNE.out
          have hcu1 := own_cell hfu1 k u HU.out
          have HG1 := Lib.hid hg1
          have HO1 := Lib.hid ho1
          have HFU1 := Lib.hid hfu1
          have HCS := Lib.hid (compact_raw HV.out k)
          clear hg1 ho1 hfu1
          go_wp2_with fail
          refine (compact_row B u _ w1 HO1.out (by omega)).mono ?_
          rintro e w2 ⟨v', rfl, hob, ⟨a', m', c', rfl⟩, hg2, ho2⟩
          have hfu2 := HFU1.out.kept hg2 HNE.out
          have hcu2 := own_cell hfu2 k u HU.out
          have hfz2 := hfu2.frozenAt k
          rw [HCS.out] at ho2
          have HG2 := Lib.hid (HG1.out.trans hg2)
          have HO2 := Lib.hid ho2
          have HOB := Lib.hid hob
          clear hg2 ho2 hfu2 hob HO1 HFU1 hlm
          go_wp2_with fail
          go_roundw
          case rel =>
            refine ⟨k + 1, vs.set k (.slice a' m' c'), by omega, by go_num, Lib.hid ?_, Lib.hid ?_, Lib.hid (by have := HG2.out.size; have := HS.out; simp; omega)⟩
            · rw [mixRows_succ]
              exact HG.out.put k u _ _ ((sucL N es k).map natC) (by rw [mixRows_length]) HU.out HL.out HG2.out (by
                have := HO2.out
                rw [List.length_map] at this ⊢
                rwa [List.map_map] at this) (.inl HOB.out)
            · have g2 : Below B wr w2 := (Below.refl B wr).grown HG2.out HGB.out (fun b hb => (HOWN.out.lt b hb).1)
              exact (HB.out.trans g2).setCell (by show B ≤ w.heap.size + 1; omega) _
          case measure => simp [intOf]; omega
        · have hkk : k = N := by omega
          subst hkk
          go_wp2_with fail
          go_ret
          refine ⟨_, vs, rfl, ?_, ?_⟩
          · have := HG.out
            rw [mixRows_all, HBB.out] at this
            exact this
          · have := HB.out
            rw [HBB.out] at this
            exact this
end Go.Proofs.Ytlcgbkeggmaljaa
