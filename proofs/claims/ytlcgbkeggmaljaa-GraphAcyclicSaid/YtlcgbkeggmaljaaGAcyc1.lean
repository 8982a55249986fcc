/- The closure of the law GraphAcyclic: an edge leads to an earlier node. -/
import Derived.Test.YtlcgbkeggmaljaaGReach1
import Derived.Test.YtlcgbkeggmaljaaGPlainAcyc
namespace Go.Proofs.Ytlcgbkeggmaljaa
set_option linter.unusedVariables false
set_option linter.unusedSimpArgs false
open Go Go.RowKit

theorem idx_at {l : List Nat} (hn : l.Nodup) {i u : Nat} (h : l[i]? = some u) : Lib.idxOf (l.map fun n : Nat => (n : Int)) (u : Int) = (i : Int) := by
  obtain ⟨hi, e⟩ := List.getElem?_eq_some_iff.1 h
  have hg : ∀ j, j < l.length → (l.map fun n : Nat => (n : Int)).getD j 0 = ((l.getD j 0 : Nat) : Int) := fun j hj => by
    rw [List.getD_eq_getElem?_getD, List.getD_eq_getElem?_getD, List.getElem?_map, List.getElem?_eq_getElem hj]; rfl
  have := Lib.idxFrom_hit (u : Int) (l.map fun n : Nat => (n : Int)) i 0 (by rw [List.length_map]; exact hi) (by rw [hg i hi, List.getD_eq_getElem?_getD, h]; rfl) (fun j hj => by
    rw [hg j (by omega), List.getD_eq_getElem?_getD, List.getElem?_eq_getElem (by omega)]
    intro e2
    have e2 : l[j] = u := Int.ofNat.inj e2
    exact absurd (e2.trans e.symm) (List.pairwise_iff_getElem.1 hn j i (by omega) hi hj))
  rw [Nat.zero_add] at this
  exact this

set_option maxRecDepth 100000 in
set_option maxHeartbeats 1000000 in
theorem acyc1_any (Bb : Nat) (la : Option Addr) (ll lc B : Nat) (l : List Int) (u v i j : Nat) (W : World) (hl : l.length ≤ 1000000000) (hb : W.cell? ⟨Bb, 0, none⟩ = some (.slice la ll lc)) (hB : B ≤ W.heap.size) (hrow : RowOf intC B (.slice la ll lc) l W) (hu : Lib.idxOf l (u : Int) = (i : Int)) (hv : Lib.idxOf l (v : Int) = (j : Int)) (hij : j < i) :
    Calls Try.prog 35 #[.agg #[.int .i64 (u : Int), .int .i64 (v : Int)], .pointer (some ⟨Bb, 0, none⟩)] W fun e w' => e = .returned (.bool false) ∧ Below W.heap.size W w' := by
  have hb2 := cellA (.cells #[.int .i64 (u : Int), .int .i64 (v : Int)] 39) hb
  have HB := Lib.hid (bel_alloc W (.cells #[.int .i64 (u : Int), .int .i64 (v : Int)] 39))
  have hX : ∀ (x k : Nat), Lib.idxOf l (x : Int) = (k : Int) → Calls Try.prog 36 #[.slice la ll lc, .int .i64 (x : Int)] (W.alloc (.cells #[.int .i64 (u : Int), .int .i64 (v : Int)] 39)).drew fun e w' => e = .returned (.int .i64 (k : Int)) ∧ w' = (W.alloc (.cells #[.int .i64 (u : Int), .int .i64 (v : Int)] 39)).drew := fun x k hk => by
    refine (Index_ints (.slice la ll lc) l (x : Int) B _ hl (hrow.below (B' := W.heap.size) ((bel_alloc W _).drew) hB)).mono ?_
    rintro e w' ⟨rfl, h⟩
    rw [hk]
    exact ⟨rfl, h⟩
  have HU := Lib.hid (hX u i hu)
  have HV := Lib.hid (hX v j hv)
  have hS : HeldR ⟨Bb, 0, none⟩ ⟨W.heap.size, 0, none⟩ ⟨W.heap.size, 1, none⟩ (.slice la ll lc) (.int .i64 (u : Int)) (.int .i64 (v : Int)) (W.alloc (.cells #[.int .i64 (u : Int), .int .i64 (v : Int)] 39)).drew := ⟨hb2, cell_of_row _ _ 0 _ _ _ (World.alloc_heap_new W _), cell_of_row _ _ 1 _ _ _ (World.alloc_heap_new W _)⟩
  have p1 : decide ((i : Int) < 0) = false := decide_eq_false (by omega)
  have p2 : decide ((j : Int) < 0) = false := decide_eq_false (by omega)
  have p3 : decide ((i : Int) ≤ (j : Int)) = false := decide_eq_false (by omega)
  have p4 : decide (i ≤ j) = false := decide_eq_false (by omega)
  clear hX hb hrow hu hv
  go_enter Try.func35, Try.ntmps35
  go_wp2_with fail
  refine region_plainP (S := HeldR ⟨Bb, 0, none⟩ ⟨W.heap.size, 0, none⟩ ⟨W.heap.size, 1, none⟩ (.slice la ll lc) (.int .i64 (u : Int)) (.int .i64 (v : Int))) (by kernel_rfl) ?_
  (refine wpAnyH_take (i := 0) (v := ?_) rfl (by kernel_rfl) (by kernel_rfl) (by kernel_rfl) (fun _ _ _ h => h) (Or.inl ⟨by rfl, ?_⟩) (by assumption) ?_; rotate_left; (· (intro w hSw; obtain ⟨c0, c1, c2⟩ := hSw; go_simp; try with_reducible rfl)); (try simp only [List.getElem_toArray, List.getElem_cons_zero, List.getElem_cons_succ, Act.put, List.setIfInBounds_toArray, List.set_cons_zero, List.set_cons_succ]))
  (refine wpAnyH_take (i := 1) (v := ?_) rfl (by kernel_rfl) (by kernel_rfl) (by kernel_rfl) (fun _ _ _ h => h) (Or.inl ⟨by rfl, ?_⟩) (by assumption) ?_; rotate_left; (· (intro w hSw; obtain ⟨c0, c1, c2⟩ := hSw; go_simp; try with_reducible rfl)); (try simp only [List.getElem_toArray, List.getElem_cons_zero, List.getElem_cons_succ, Act.put, List.setIfInBounds_toArray, List.set_cons_zero, List.set_cons_succ]))
  (refine wpAnyH_take (i := 2) (v := ?_) rfl (by kernel_rfl) (by kernel_rfl) (by kernel_rfl) (fun _ _ _ h => h) (Or.inl ⟨by rfl, ?_⟩) (by assumption) ?_; rotate_left; (· (intro w hSw; obtain ⟨c0, c1, c2⟩ := hSw; go_simp; try with_reducible rfl)); (try simp only [List.getElem_toArray, List.getElem_cons_zero, List.getElem_cons_succ, Act.put, List.setIfInBounds_toArray, List.set_cons_zero, List.set_cons_succ]))
  (refine wpAnyH_take (i := 4) (v := ?_) rfl (by kernel_rfl) (by kernel_rfl) (by kernel_rfl) (fun _ _ _ h => h) (Or.inl ⟨by rfl, ?_⟩) (by assumption) ?_; rotate_left; (· (intro w hSw; obtain ⟨c0, c1, c2⟩ := hSw; go_simp; try with_reducible rfl)); (try simp only [List.getElem_toArray, List.getElem_cons_zero, List.getElem_cons_succ, Act.put, List.setIfInBounds_toArray, List.set_cons_zero, List.set_cons_succ]))
  (refine wpAnyH_take (i := 5) (v := ?_) rfl (by kernel_rfl) (by kernel_rfl) (by kernel_rfl) (fun _ _ _ h => h) (Or.inl ⟨by rfl, ?_⟩) (by assumption) ?_; rotate_left; (· (intro w hSw; obtain ⟨c0, c1, c2⟩ := hSw; go_simp; try with_reducible rfl)); (try simp only [List.getElem_toArray, List.getElem_cons_zero, List.getElem_cons_succ, Act.put, List.setIfInBounds_toArray, List.set_cons_zero, List.set_cons_succ]))
  (refine wpAnyH_take (i := 6) (v := ?_) rfl (by kernel_rfl) (by kernel_rfl) (by kernel_rfl) (fun _ _ _ h => h) (Or.inl ⟨by rfl, ?_⟩) (by assumption) ?_; rotate_left; (· (intro w hSw; obtain ⟨c0, c1, c2⟩ := hSw; go_simp; try with_reducible rfl)); (try simp only [List.getElem_toArray, List.getElem_cons_zero, List.getElem_cons_succ, Act.put, List.setIfInBounds_toArray, List.set_cons_zero, List.set_cons_succ]))
  refine wpAnyH_ready (rs := [3]) (by kernel_rfl) (by simp) (AllReadyH.cons rfl (fun K hK => ?_) AllReadyH.nil)
  go_simp
  refine HU.out.mono ?_
  rintro e w3 ⟨rfl, hw3⟩
  rw [hw3]
  clear hw3 w3
  try go_simp
  refine hK.out _ _ hS (fun _ => ?_)
  clear hK K
  (try simp only [List.getElem_toArray, List.getElem_cons_zero, List.getElem_cons_succ, Act.put, List.setIfInBounds_toArray, List.set_cons_zero, List.set_cons_succ])
  refine wpAnyH_ready (rs := [7]) (by kernel_rfl) (by simp) (AllReadyH.cons rfl (fun K hK => ?_) AllReadyH.nil)
  go_simp
  refine HV.out.mono ?_
  rintro e w7 ⟨rfl, hw7⟩
  rw [hw7]
  clear hw7 w7
  try go_simp
  refine hK.out _ _ hS (fun _ => ?_)
  clear hK K
  (try simp only [List.getElem_toArray, List.getElem_cons_zero, List.getElem_cons_succ, Act.put, List.setIfInBounds_toArray, List.set_cons_zero, List.set_cons_succ])
  (refine wpAnyH_take (i := 8) (v := ?_) rfl (by kernel_rfl) (by kernel_rfl) (by kernel_rfl) (fun _ _ _ h => h) (Or.inl ⟨by rfl, ?_⟩) (by assumption) ?_; rotate_left; (· (intro w hSw; obtain ⟨c0, c1, c2⟩ := hSw; go_simp; try with_reducible rfl)); (try simp only [List.getElem_toArray, List.getElem_cons_zero, List.getElem_cons_succ, Act.put, List.setIfInBounds_toArray, List.set_cons_zero, List.set_cons_succ]))
  (refine wpAnyH_take (i := 9) (v := ?_) rfl (by kernel_rfl) (by kernel_rfl) (by kernel_rfl) (fun _ _ _ h => h) (Or.inl ⟨by rfl, ?_⟩) (by assumption) ?_; rotate_left; (· (intro w hSw; obtain ⟨c0, c1, c2⟩ := hSw; go_simp; try with_reducible rfl)); (try simp only [List.getElem_toArray, List.getElem_cons_zero, List.getElem_cons_succ, Act.put, List.setIfInBounds_toArray, List.set_cons_zero, List.set_cons_succ]))
  refine wpAnyH_done (by kernel_rfl) ?_ _
  refine NoPanic.normal ?_
  go_wp2_with fail
  go_ret
  exact ⟨by first | rfl | rw [p3] | rw [p4], HB.out.drew⟩

end Go.Proofs.Ytlcgbkeggmaljaa
