/- slices.Clone at sets and requirements; an owned row as a queue. The index's clone and Find. -/
import Derived.Test.YtenfkejbndifdaaGreatDoorQS
import Derived.Shelf.SlicesE.Clone
namespace Go.Proofs.YtenfkejbndifdaaGreatDoor
set_option linter.unusedVariables false
set_option linter.unusedSimpArgs false
open Go Go.RowKit Go.Shelf Go.Lib

theorem own_seg {W : World} {B e c n : Nat} {v : Value} {xs : List Value} (h : W.ownsRow B e c v n xs) (hc : 0 < c) : SegC W B c v n xs := by
  obtain ⟨hl, ⟨rfl, rfl⟩ | ⟨g, cap, cur, rfl, hb, hg, hn, hm, hs, hx⟩⟩ := h
  · exact ⟨hl, .inl ⟨none, rfl, rfl⟩⟩
  · cases cap with
    | zero => exact ⟨hl, .inl ⟨_, by rw [show n = 0 by omega], by omega⟩⟩
    | succ cap =>
      have hle : n * c ≤ (cap + 1) * c := Nat.mul_le_mul_right _ hn
      refine ⟨hl, .inr ⟨g, 0, cap, rfl, hn, hm, hb, (Array.getElem?_eq_some_iff.1 hg).1, fun j hj => ?_, fun j hj => ⟨?_, frozen_of_row _ _ _ _ _ hg⟩⟩⟩
      · rw [Nat.zero_add, cell_of_row _ _ _ _ _ _ hg, ← hx, List.getElem?_take, if_pos hj]
        simp
      · rw [Nat.zero_add, cell_of_row _ _ _ _ _ _ hg, Array.getElem?_eq_getElem (by omega)]
        rfl
def cloRenS : Ren := ⟨fun _ => 140, fun x => if x = 22 then 56 else if x = 23 then 133 else 4, fun x => x⟩
theorem cloLaysS : SlLaysE0.n41 Tryz.prog cloRenS := {
  mixed := by kernel_rfl
  f41 := ⟨Tryz.f140.name, by decide, Tryz.func140.trans (congrArg some (by kernel_rfl))⟩
  t4 := Tryz.underlying4
  a4 := Tryz.isAgg4
  z4 := Tryz.sizeOf4
  v4 := Tryz.zeroValue4
  t22 := Tryz.underlying56
  a22 := Tryz.isAgg56
  z22 := Tryz.sizeOf56
  v22 := Tryz.zeroValue56 }
def cloRenQ : Ren := ⟨fun _ => 86, fun x => if x = 22 then 26 else if x = 23 then 58 else 4, fun x => x⟩
theorem cloLaysQ : SlLaysE0.n41 Tryz.prog cloRenQ := {
  mixed := by kernel_rfl
  f41 := ⟨Tryz.f86.name, by decide, Tryz.func86.trans (congrArg some (by kernel_rfl))⟩
  t4 := Tryz.underlying4
  a4 := Tryz.isAgg4
  z4 := Tryz.sizeOf4
  v4 := Tryz.zeroValue4
  t22 := Tryz.underlying26
  a22 := Tryz.isAgg26
  z22 := Tryz.sizeOf26
  v22 := Tryz.zeroValue26 }
theorem info_reqs : (Tryz.prog.info? 58).map (fun i => (i.zero, i.size, i.bytes)) = some (some (.agg #[.string ⟨#[]⟩, .slice none 0 0]), 2, 40) := by kernel_rfl
/-- the raw cells of requirements. -/
theorem reqs_cells {B b off cap : Nat} {l : List ReqL} {W : World} (h : ReqsOf B (.slice (some ⟨b, off, none⟩) l.length cap) l W) :
    ∃ xs : List Value, xs.length = l.length * 2 ∧ (∀ j u, xs[j]? = some u → W.cell? ⟨b, off + j, none⟩ = some u) ∧ ∀ i q, l[i]? = some q → ∃ r, xs[i * 2]? = some (.string q.1) ∧ xs[i * 2 + 1]? = some r ∧ SpansOf B r q.2 W := by
  obtain ⟨ao, c, e, h⟩ := h
  cases e
  refine ⟨(List.range (l.length * 2)).map fun j => (W.cell? ⟨b, off + j, none⟩).getD undef, by simp, fun j u hu => ?_, fun i q hq => ?_⟩
  · rw [List.getElem?_map] at hu
    obtain ⟨j', hj', rfl⟩ := Option.map_eq_some_iff.1 hu
    obtain ⟨hjl, rfl⟩ := List.getElem?_eq_some_iff.1 hj'
    simp only [List.length_range] at hjl
    rw [List.getElem_range]
    obtain ⟨b', off', r, e, _, h1, h2, _⟩ := h (j / 2) l[j / 2] (by simp <;> omega)
    cases e
    rcases Nat.mod_two_eq_zero_or_one j with hm | hm
    · have e2 : off + j = off + j / 2 * 2 := by omega
      rw [e2, h1]; rfl
    · have e2 : off + j = off + j / 2 * 2 + 1 := by omega
      rw [e2, h2]; rfl
  · obtain ⟨b', off', r, e, _, h1, h2, h3⟩ := h i q hq
    cases e
    have hi := (List.getElem?_eq_some_iff.1 hq).1
    refine ⟨r, ?_, ?_, h3⟩
    · rw [List.getElem?_map, List.getElem?_range (by omega)]
      simp only [Option.map_some]
      rw [h1]; rfl
    · rw [List.getElem?_map, List.getElem?_range (by omega)]
      simp only [Option.map_some]
      rw [← Nat.add_assoc, h2]; rfl
set_option maxRecDepth 100000 in
theorem CloneS_any (v : Value) (s : List (Int × Int)) (w : World) (hs : s.length ≤ 1000000) (hS : SpansOf w.heap.size v s w) :
    Calls Tryz.prog 140 #[v] w fun e w' => ∃ v', e = .returned v' ∧ w'.ownsRow w.heap.size 133 2 v' s.length (spanCells s) ∧ Below w.heap.size w w' := by
  obtain ⟨ao, cap, rfl, h⟩ := hS
  by_cases h0 : s = []
  · subst h0
    clear h hs
    cases ao with
    | none =>
      refine (AnyE.slices_Clone_nil cloLaysS 0 cap w).mono ?_
      rintro e w' ⟨rfl, rfl⟩
      exact ⟨_, rfl, World.ownsRow_nil _ _ _ _, Below.refl _ _⟩
    | some a =>
      have hq : (binOp .eql 56 (.slice (some a) 0 cap) (.slice none 0 0)).run Tryz.prog w = .ok (.bool false) w := Lib.run_eql_slice_nil w _ _ (some a) 0 cap 0 0 Tryz.underlying56
      go_enter Tryz.func140, Tryz.ntmps140
      go_wp2_with fail
      go_ret
      exact ⟨_, rfl, ⟨rfl, .inr ⟨w.heap.size, 0, #[], rfl, Nat.le_refl _, World.alloc_heap_new _ _, Nat.le_refl _, by decide, rfl, rfl⟩⟩, belQ _ _⟩
  · have hp : 0 < s.length := List.length_pos_iff.2 h0
    obtain ⟨b, off, rfl, _⟩ := h 0 s[0] (by simp [hp])
    obtain ⟨i0, hi, hz0, hz1, hz2⟩ := info_parts info_spans
    refine AnyE.slices_Clone cloLaysS i0 _ 2 16 hi hz0 hz1 hz2 rfl (by decide) Tryz.sizeOf133 b off s.length cap (spanCells s) w (spanCells_length s) (by unfold maxLen; omega) (by omega) (fun j u hu => ?_) (fun u hu => ?_) |>.mono ?_
    · have hj := (List.getElem?_eq_some_iff.1 hu).1
      rw [spanCells_length] at hj
      obtain ⟨b', off', e, _, h1, h2⟩ := h (j / 2) s[j / 2] (by simp <;> omega)
      cases e
      obtain ⟨g1, g2⟩ := spanCells_get s (j / 2) s[j / 2] (by simp <;> omega)
      rcases Nat.mod_two_eq_zero_or_one j with hm | hm
      · have e2 : j = j / 2 * 2 := by omega
        rw [e2, g1] at hu
        rw [e2, h1, hu]
      · have e2 : j = j / 2 * 2 + 1 := by omega
        rw [e2, g2] at hu
        rw [e2, ← Nat.add_assoc, h2, hu]
    · obtain ⟨x, _, hx⟩ := List.mem_flatMap.1 hu
      rcases List.mem_cons.1 hx with rfl | hx
      · rfl
      · rw [List.mem_singleton.1 hx]; rfl
    · rintro e w' ⟨v', rfl, h1, _, h2⟩
      exact ⟨v', rfl, h1, h2⟩
/-- requirements out of a row of cells. -/
def ReqXs (B : Nat) (l : List ReqL) (xs : List Value) (W : World) : Prop := ∀ i q, l[i]? = some q → ∃ r, xs[i * 2]? = some (.string q.1) ∧ xs[i * 2 + 1]? = some r ∧ SpansOf B r q.2 W
theorem ReqXs.below {B B' : Nat} {l : List ReqL} {xs : List Value} {W W' : World} (h : ReqXs B l xs W) (hb : Below B' W W') (hB : B ≤ B') : ReqXs B l xs W' := fun i q hq => by
  obtain ⟨r, h1, h2, h3⟩ := h i q hq
  exact ⟨r, h1, h2, h3.below hb hB⟩
set_option maxRecDepth 100000 in
theorem CloneQ_any (v : Value) (l : List ReqL) (w : World) (hs : l.length ≤ 1000000) (hS : ReqsOf w.heap.size v l w) :
    Calls Tryz.prog 86 #[v] w fun e w' => ∃ v' xs, e = .returned v' ∧ w'.ownsRow w.heap.size 58 2 v' l.length xs ∧ ReqXs w.heap.size l xs w' ∧ Below w.heap.size w w' := by
  by_cases h0 : l = []
  · subst h0
    obtain ⟨ao, cap, rfl, h⟩ := hS
    clear h hs
    cases ao with
    | none =>
      refine (AnyE.slices_Clone_nil cloLaysQ 0 cap w).mono ?_
      rintro e w' ⟨rfl, rfl⟩
      exact ⟨_, [], rfl, World.ownsRow_nil _ _ _ _, fun i q hq => by simp at hq, Below.refl _ _⟩
    | some a =>
      have hq : (binOp .eql 26 (.slice (some a) 0 cap) (.slice none 0 0)).run Tryz.prog w = .ok (.bool false) w := Lib.run_eql_slice_nil w _ _ (some a) 0 cap 0 0 Tryz.underlying26
      go_enter Tryz.func86, Tryz.ntmps86
      go_wp2_with fail
      go_ret
      exact ⟨_, [], rfl, ⟨rfl, .inr ⟨w.heap.size, 0, #[], rfl, Nat.le_refl _, World.alloc_heap_new _ _, Nat.le_refl _, by decide, rfl, rfl⟩⟩, fun i q hq => by simp at hq, belQ _ _⟩
  · have hp : 0 < l.length := List.length_pos_iff.2 h0
    have hS2 := hS
    obtain ⟨ao, cap, rfl, h⟩ := hS
    obtain ⟨b, off, _, rfl, _⟩ := h 0 l[0] (by simp [hp])
    obtain ⟨xs, hx1, hx2, hx3⟩ := reqs_cells hS2
    obtain ⟨i0, hi, hz0, hz1, hz2⟩ := info_parts info_reqs
    refine AnyE.slices_Clone cloLaysQ i0 _ 2 40 hi hz0 hz1 hz2 rfl (by decide) Tryz.sizeOf58 b off l.length cap xs w hx1 (by unfold maxLen; omega) (by omega) hx2 (fun u hu => ?_) |>.mono ?_
    · obtain ⟨j, hj, rfl⟩ := List.mem_iff_getElem.1 hu
      obtain ⟨r, h1, h2, h3⟩ := hx3 (j / 2) l[j / 2] (by simp <;> omega)
      obtain ⟨_, _, rfl, _⟩ := h3
      rcases Nat.mod_two_eq_zero_or_one j with hm | hm
      · have e2 : j / 2 * 2 = j := by omega
        rw [e2, List.getElem?_eq_getElem hj] at h1
        rw [Option.some.inj h1]; rfl
      · have e2 : j / 2 * 2 + 1 = j := by omega
        rw [e2, List.getElem?_eq_getElem hj] at h2
        rw [Option.some.inj h2]; rfl
    · rintro e w' ⟨v', rfl, h1, _, h2⟩
      exact ⟨v', xs, rfl, h1, fun i q hq => by obtain ⟨r, g1, g2, g3⟩ := hx3 i q hq; exact ⟨r, g1, g2, g3.below h2 (Nat.le_refl _)⟩, h2⟩
end Go.Proofs.YtenfkejbndifdaaGreatDoor

namespace Go.Proofs.YtenfkejbndifdaaGreatDoor
set_option linter.unusedVariables false
set_option linter.unusedSimpArgs false
open Go Go.RowKit Go.Maps

theorem own_on {B : Nat} {e : TypeId} {c : Nat} {v : Value} {n : Nat} {xs : List Value} {W W' : World} (h : W.ownsRow B e c v n xs) (hb : RowKit.Below W.heap.size W W') : W'.ownsRow B e c v n xs := by
  obtain ⟨hl, h | ⟨g, cap, cur, rfl, h1, h2, h3⟩⟩ := h
  · exact ⟨hl, .inl h⟩
  · exact ⟨hl, .inr ⟨g, cap, cur, rfl, h1, (hb.block g (Array.getElem?_eq_some_iff.1 h2).1).trans h2, h3⟩⟩
theorem own_lo {B : Nat} {e : TypeId} {c : Nat} {v : Value} {n : Nat} {xs : List Value} {W : World} (h : W.ownsRow B e c v n xs) : ∀ b, v.ownBlock = some b → B ≤ b ∧ b < W.heap.size ∧ ∃ cs, W.heap[b]? = some (.cells cs e (0, 0)) := fun b hb => by
  obtain ⟨hl, ⟨rfl, _⟩ | ⟨g, cap, cur, rfl, h1, h2, h3⟩⟩ := h
  · cases hb
  · simp [Value.ownBlock] at hb
    subst hb
    exact ⟨h1, (Array.getElem?_eq_some_iff.1 h2).1, cur, h2⟩
/-- rows of elements of two types lie apart. -/
theorem own_apart {B B' : Nat} {e e' : TypeId} {c c' : Nat} {v v' : Value} {n n' : Nat} {xs xs' : List Value} {W : World} (h : W.ownsRow B e c v n xs) (h' : W.ownsRow B' e' c' v' n' xs') (hne : e ≠ e') : v.ownBlock = none ∨ v.ownBlock ≠ v'.ownBlock := by
  cases hv : v.ownBlock with
  | none => exact .inl rfl
  | some b =>
    refine .inr fun hb => ?_
    obtain ⟨_, _, cs, h1⟩ := own_lo h b hv
    obtain ⟨_, _, cs', h2⟩ := own_lo h' b hb.symm
    rw [h1] at h2
    injection h2 with h2
    injection h2 with _ h2
    exact hne h2
/-- a release is stored. -/
def setRel (W : World) (g : Nat) (x : RelL) (r : Value) : World := ((((((((W.setCell ⟨g, 0, none⟩ (.string x.path)).setCell ⟨g, 1, none⟩ (.int .i64 x.ver.1)).setCell ⟨g, 2, none⟩ (.int .i64 x.ver.2.1)).setCell ⟨g, 3, none⟩ (.int .i64 x.ver.2.2)).setCell ⟨g, 4, none⟩ r).setCell ⟨g, 5, none⟩ (.string x.ar)).setCell ⟨g, 6, none⟩ (.string x.ifc)).setCell ⟨g, 7, none⟩ (.string x.cert)).setCell ⟨g, 8, none⟩ (.bool x.yk)
theorem setRel_box {W : World} {g : Nat} {t : TypeId} {c0 c1 c2 c3 c4 c5 c6 c7 c8 : Value} (x : RelL) (r : Value) (h0 : W.heap[g]? = some (.cells #[c0, c1, c2, c3, c4, c5, c6, c7, c8] t (0, 0))) : (setRel W g x r).heap[g]? = some (.cells (relC x r) t (0, 0)) := by
  have h1 := heap_setCell_same _ g 0 #[c0, c1, c2, c3, c4, c5, c6, c7, c8] t (.string x.path) h0
  have h2 := heap_setCell_same _ g 1 #[.string x.path, c1, c2, c3, c4, c5, c6, c7, c8] t (.int .i64 x.ver.1) h1
  have h3 := heap_setCell_same _ g 2 #[.string x.path, .int .i64 x.ver.1, c2, c3, c4, c5, c6, c7, c8] t (.int .i64 x.ver.2.1) h2
  have h4 := heap_setCell_same _ g 3 #[.string x.path, .int .i64 x.ver.1, .int .i64 x.ver.2.1, c3, c4, c5, c6, c7, c8] t (.int .i64 x.ver.2.2) h3
  have h5 := heap_setCell_same _ g 4 #[.string x.path, .int .i64 x.ver.1, .int .i64 x.ver.2.1, .int .i64 x.ver.2.2, c4, c5, c6, c7, c8] t (r) h4
  have h6 := heap_setCell_same _ g 5 #[.string x.path, .int .i64 x.ver.1, .int .i64 x.ver.2.1, .int .i64 x.ver.2.2, r, c5, c6, c7, c8] t (.string x.ar) h5
  have h7 := heap_setCell_same _ g 6 #[.string x.path, .int .i64 x.ver.1, .int .i64 x.ver.2.1, .int .i64 x.ver.2.2, r, .string x.ar, c6, c7, c8] t (.string x.ifc) h6
  have h8 := heap_setCell_same _ g 7 #[.string x.path, .int .i64 x.ver.1, .int .i64 x.ver.2.1, .int .i64 x.ver.2.2, r, .string x.ar, .string x.ifc, c7, c8] t (.string x.cert) h7
  have h9 := heap_setCell_same _ g 8 #[.string x.path, .int .i64 x.ver.1, .int .i64 x.ver.2.1, .int .i64 x.ver.2.2, r, .string x.ar, .string x.ifc, .string x.cert, c8] t (.bool x.yk) h8
  exact h9
theorem grownBy_setC (W : World) (g j : Nat) (v : Value) : W.grownBy (W.setCell ⟨g, j, none⟩ v) (some g) :=
  ⟨rfl, rfl, rfl, Nat.le_of_eq (World.size_setCell W _ v).symm, fun k _ hne => heap_setCell_other W ⟨g, j, none⟩ k v (fun e => hne (by rw [e]))⟩
theorem grownBy_tr {a b c : World} {r : Option Nat} (h : a.grownBy b r) (k : b.grownBy c r) : a.grownBy c r :=
  ⟨k.os.trans h.os, k.tape.trans h.tape, k.output.trans h.output, Nat.le_trans h.size k.size, fun i hi hne => (k.block i (Nat.lt_of_lt_of_le hi h.size) hne).trans (h.block i hi hne)⟩
theorem setRel_grown (W : World) (g : Nat) (x : RelL) (r : Value) : W.grownBy (setRel W g x r) (some g) := by
  exact grownBy_tr (grownBy_tr (grownBy_tr (grownBy_tr (grownBy_tr (grownBy_tr (grownBy_tr (grownBy_tr (grownBy_setC _ _ _ _) (grownBy_setC _ _ _ _)) (grownBy_setC _ _ _ _)) (grownBy_setC _ _ _ _)) (grownBy_setC _ _ _ _)) (grownBy_setC _ _ _ _)) (grownBy_setC _ _ _ _)) (grownBy_setC _ _ _ _)) (grownBy_setC _ _ _ _)
/-- requirements in a row of the call's own. -/
theorem rows_reqs {W : World} {B : Nat} {v : Value} {l : List ReqL} {xs : List Value} (h : W.ownsRow B 58 2 v l.length xs) (he : ReqXs W.heap.size l xs W) : ReqsOf W.heap.size v l W := by
  obtain ⟨hl, ⟨rfl, h0⟩ | ⟨g, cap, cur, rfl, h1, h2, h3, h4, h5, h6⟩⟩ := h
  · obtain rfl := List.length_eq_zero_iff.1 h0
    exact ⟨none, 0, rfl, fun i q hq => by simp at hq⟩
  · refine ⟨_, cap, rfl, fun i q hq => ?_⟩
    obtain ⟨r, g1, g2, g3⟩ := he i q hq
    have hi := (List.getElem?_eq_some_iff.1 hq).1
    have key : ∀ j u, xs[j]? = some u → W.cell? ⟨g, j, none⟩ = some u := fun j u hu => by
      have hj := (List.getElem?_eq_some_iff.1 hu).1
      rw [cell_of_row _ _ _ _ _ _ h2, ← hu, ← h6, List.getElem?_take, if_pos (by omega)]
      simp
    exact ⟨g, 0, r, rfl, (Array.getElem?_eq_some_iff.1 h2).1, by rw [Nat.zero_add]; exact key _ _ g1, by rw [Nat.zero_add]; exact key _ _ g2, g3⟩
theorem own_keep {B B' : Nat} {e : TypeId} {c : Nat} {v : Value} {n : Nat} {xs : List Value} {W W' : World} (h : W.ownsRow B e c v n xs) (hB : B' ≤ B) (hk : ∀ k, B' ≤ k → k < W.heap.size → W'.heap[k]? = W.heap[k]?) : W'.ownsRow B e c v n xs := by
  obtain ⟨hl, h | ⟨g, cap, cur, rfl, h1, h2, h3⟩⟩ := h
  · exact ⟨hl, .inl h⟩
  · exact ⟨hl, .inr ⟨g, cap, cur, rfl, h1, (hk g (Nat.le_trans hB h1) (Array.getElem?_eq_some_iff.1 h2).1).trans h2, h3⟩⟩
/-- requirements in rows of the call's own. -/
def ReqRows (B : Nat) (v : Value) (l : List ReqL) (W : World) : Prop := ∃ xs, W.ownsRow B 58 2 v l.length xs ∧ ∀ i q, l[i]? = some q → ∃ sv, xs[i * 2]? = some (.string q.1) ∧ xs[i * 2 + 1]? = some sv ∧ W.ownsRow B 133 2 sv q.2.length (spanCells q.2)
theorem ReqRows.now {B : Nat} {v : Value} {l : List ReqL} {W : World} (h : ReqRows B v l W) : ReqsOf W.heap.size v l W := by
  obtain ⟨xs, h1, h2⟩ := h
  exact rows_reqs h1 (fun i q hq => by
    obtain ⟨sv, g1, g2, g3⟩ := h2 i q hq
    exact ⟨sv, g1, g2, own_spans g3⟩)
theorem ReqRows.map {B B' : Nat} {v : Value} {l : List ReqL} {W W' : World} (h : ReqRows B v l W) (k : ∀ e c v n xs, e = 58 ∨ e = 133 → W.ownsRow B e c v n xs → W'.ownsRow B' e c v n xs) : ReqRows B' v l W' := by
  obtain ⟨xs, h1, h2⟩ := h
  refine ⟨xs, k _ _ _ _ _ (.inl rfl) h1, fun i q hq => ?_⟩
  obtain ⟨sv, g1, g2, g3⟩ := h2 i q hq
  exact ⟨sv, g1, g2, k _ _ _ _ _ (.inr rfl) g3⟩
theorem ReqRows.below {B : Nat} {v : Value} {l : List ReqL} {W W' : World} (h : ReqRows B v l W) (hb : RowKit.Below W.heap.size W W') : ReqRows B v l W' := h.map fun _ _ _ _ _ _ h => own_on h hb
theorem ReqRows.grown {B : Nat} {v : Value} {l : List ReqL} {W W' : World} {row : Option Nat} (h : ReqRows B v l W) (hg : W.grownBy W' row) (hr : ∀ b, row = some b → b < B ∨ ∃ cs e, W.heap[b]? = some (.cells cs e (0, 0)) ∧ e ≠ 58 ∧ e ≠ 133) : ReqRows B v l W' := h.map fun e c v n xs he h => h.kept hg (by
  cases hv : v.ownBlock with
  | none => exact .inl rfl
  | some b =>
    refine .inr fun e2 => ?_
    obtain ⟨h1, _, cs, h2⟩ := own_lo h b hv
    rcases hr b e2.symm with h3 | ⟨cs', e', h3, h4, h5⟩
    · omega
    · rw [h2] at h3
      injection h3 with h3
      injection h3 with _ h3
      rcases he with rfl | rfl
      · exact h4 h3.symm
      · exact h5 h3.symm)
/-- between two rounds of clone. -/
structure CloJ (w : World) (x : RelL) (k : Nat) (ov : Value) (xs : List Value) (W : World) : Prop where
  bel : RowKit.Below w.heap.size w W
  size : w.heap.size + 1 < W.heap.size
  box : BoxR W w.heap.size x ov
  res : BoxR W (w.heap.size + 1) default (.slice none 0 0)
  row : W.ownsRow (w.heap.size + 1 + 1) 58 2 ov k xs
  els : ∀ i q, i < k → x.reqs[i]? = some q → ∃ sv, xs[i * 2]? = some (.string q.1) ∧ xs[i * 2 + 1]? = some sv ∧ W.ownsRow (w.heap.size + 1 + 1) 133 2 sv q.2.length (spanCells q.2)
theorem CloJ.below {w : World} {x : RelL} {k : Nat} {ov : Value} {xs : List Value} {W W' : World} (h : CloJ w x k ov xs W) (hb : RowKit.Below W.heap.size W W') : CloJ w x k ov xs W' := by
  obtain ⟨h1, h2, h3, h4, h5, h6⟩ := h
  refine ⟨h1.trans (hb.mono h1.size), Nat.lt_of_lt_of_le h2 hb.size, h3.on hb, h4.on hb, own_on h5 hb, fun i q hi hq => ?_⟩
  obtain ⟨sv, g1, g2, g3⟩ := h6 i q hi hq
  exact ⟨sv, g1, g2, own_on g3 hb⟩
theorem own_mono {B B' : Nat} {e : TypeId} {c : Nat} {v : Value} {n : Nat} {xs : List Value} {W : World} (h : W.ownsRow B e c v n xs) (hB : B' ≤ B) : W.ownsRow B' e c v n xs := by
  obtain ⟨hl, h | ⟨g, cap, cur, rfl, h1, h2⟩⟩ := h
  · exact ⟨hl, .inl h⟩
  · exact ⟨hl, .inr ⟨g, cap, cur, rfl, by omega, h2⟩⟩
theorem own_farM {B : Nat} {e : TypeId} {c : Nat} {v : Value} {n : Nat} {xs : List Value} {W W' : World} {g : Nat} (h : W.ownsRow B e c v n xs) (hg : W.grownBy W' (some g)) (hB : g < B) : W'.ownsRow B e c v n xs := h.kept hg (by
  cases hv : v.ownBlock with
  | none => exact .inl rfl
  | some b => exact .inr (fun e2 => by have := (own_lo h b hv).1; injection e2 with e2; omega))
theorem CloJ.step {w : World} {x : RelL} {k : Nat} {ov v' sv : Value} {xs : List Value} {W5 W6 : World} {q : ReqL} (h : CloJ w x k ov xs W5) (hq : x.reqs[k]? = some q) (hn : W5.ownsRow (w.heap.size + 1 + 1) 133 2 sv q.2.length (spanCells q.2))
    (hown : W6.ownsRow (w.heap.size + 1 + 1) 58 2 v' (k + 1) (xs ++ [.string q.1, sv])) (hg : W5.grownBy W6 ov.ownBlock) : CloJ w x (k + 1) v' (xs ++ [.string q.1, sv]) (W6.setCell ⟨w.heap.size, 4, none⟩ v') := by
  obtain ⟨h1, h2, h3, h4, h5, h6⟩ := h
  have hl := h5.1
  have lo : ∀ b, some b = ov.ownBlock → w.heap.size + 1 < b := fun b hb => by have := (own_lo h5 b hb.symm).1; omega
  have g2 := grownBy_setC W6 w.heap.size 4 v'
  have keep : ∀ v n xs, W5.ownsRow (w.heap.size + 1 + 1) 133 2 v n xs → (W6.setCell ⟨w.heap.size, 4, none⟩ v').ownsRow (w.heap.size + 1 + 1) 133 2 v n xs := fun v n xs hr =>
    own_farM (hr.kept hg (own_apart hr h5 (by decide))) g2 (by omega)
  refine ⟨(h1.grown hg (by omega) (fun b hb => by have := lo b hb.symm; omega)).setCell (by simp) _, by rw [World.size_setCell]; exact Nat.lt_of_lt_of_le h2 hg.size, ?_, ?_, own_farM hown g2 (by omega), fun i q' hi hq' => ?_⟩
  · have hb := (hg.block w.heap.size (by omega) (fun e => by have := lo _ e; omega)).trans h3
    exact heap_setCell_same _ _ 4 _ _ v' hb
  · have hb := (hg.block (w.heap.size + 1) h2 (fun e => by have := lo _ e; omega)).trans h4
    exact (g2.block _ (Nat.lt_of_lt_of_le h2 hg.size) (fun e => by injection e with e; omega)).trans hb
  · by_cases hik : i = k
    · subst hik
      rw [hq] at hq'
      cases hq'
      refine ⟨sv, ?_, ?_, keep _ _ _ hn⟩
      · rw [List.getElem?_append_right (by omega), hl, Nat.sub_self]; rfl
      · rw [List.getElem?_append_right (by omega), hl, show i * 2 + 1 - i * 2 = 1 by omega]; rfl
    · obtain ⟨s0, e1, e2, e3⟩ := h6 i q' (by omega) hq'
      exact ⟨s0, by rw [List.getElem?_append_left (by omega)]; exact e1, by rw [List.getElem?_append_left (by omega)]; exact e2, keep _ _ _ e3⟩
theorem relC_at (x : RelL) (r : Value) : relC x r = #[.string x.path, intC x.ver.1, intC x.ver.2.1, intC x.ver.2.2, r, .string x.ar, .string x.ifc, .string x.cert, .bool x.yk] := rfl
set_option maxRecDepth 100000 in
set_option maxHeartbeats 8000000 in
theorem clone_any (x : RelL) (r : Value) (w : World) (hl : x.reqs.length ≤ 1000000) (hq : ∀ q ∈ x.reqs, q.2.length ≤ 1000000) (hR : ReqsOf w.heap.size r x.reqs w) :
    Calls Tryz.prog 101 #[.agg (relC x r)] w fun e w' => ∃ r', e = .returned (.agg (relC x r')) ∧ ReqRows w.heap.size r' x.reqs w' ∧ RowKit.Below w.heap.size w w' := by
  obtain ⟨ao, cap, rfl, hR⟩ := hR
  have HR := Lib.hid hR
  have HQ := Lib.hid hq
  clear hR hq
  have HB0 : Hid (CloJ w x 0 (.slice none 0 0) [] ((w.alloc (.cells (relC x (.slice none 0 0)) 71)).alloc (.cells (relC default (.slice none 0 0)) 71))) := Lib.hid (by
    refine ⟨((RowKit.Below.refl _ _).alloc (Nat.le_refl _) _).alloc (by simp) _, by simp only [World.size_alloc]; omega, (BoxR.made w x _).on (belQ _ _), ?_, World.ownsRow_nil _ _ _ _, fun i q hi => absurd hi (Nat.not_lt_zero _)⟩
    have := BoxR.made (w.alloc (.cells (relC x (.slice none 0 0)) 71)) default (.slice none 0 0)
    rwa [World.size_alloc] at this)
  have hz : ((default : RelL).path = ⟨#[]⟩ ∧ (default : RelL).ver = (0, 0, 0)) := ⟨rfl, rfl⟩
  simp only [relC_at, show (default : RelL).path = ⟨#[]⟩ from rfl, show (default : RelL).ver = (0, 0, 0) from rfl, show (default : RelL).ar = ⟨#[]⟩ from rfl, show (default : RelL).ifc = ⟨#[]⟩ from rfl, show (default : RelL).cert = ⟨#[]⟩ from rfl, show (default : RelL).yk = false from rfl] at HB0 ⊢
  clear hz
  obtain ⟨i0, hi0, hz0, hz1, hz2⟩ := info_parts info_reqs
  go_enter Tryz.func101, Tryz.ntmps101
  go_upto_region 4 with fail
  generalize (w.alloc (.cells #[.string x.path, intC x.ver.1, intC x.ver.2.1, intC x.ver.2.2, .slice none 0 0, .string x.ar, .string x.ifc, .string x.cert, .bool x.yk] 71)).alloc (.cells #[.string ⟨#[]⟩, .int .i64 0, .int .i64 0, .int .i64 0, .slice none 0 0, .string ⟨#[]⟩, .string ⟨#[]⟩, .string ⟨#[]⟩, .bool false] 71) = W0 at *
  go_loopw [11] (fun p wr => ∃ k : Nat, k ≤ x.reqs.length ∧ p = .int .i64 k ∧ Hid (∃ ov xs, CloJ w x k ov xs wr)) (fun p _ => x.reqs.length - (intOf p).toNat)
  case atStart => exact ⟨0, Nat.zero_le _, rfl, Lib.hid ⟨_, _, HB0.out⟩⟩
  case round =>
    obtain ⟨k, hk, rfl, HE⟩ := hrel
    obtain ⟨ov, xs, hj⟩ := HE.out
    have HJ := Lib.hid hj
    clear HE
    obtain ⟨a0, a1, a2, a3, a4, a5, a6, a7, a8⟩ := hj.box.cells
    clear hj
    by_cases hlt : k < x.reqs.length
    case neg =>
      have hk2 : k = x.reqs.length := by omega
      subst hk2
      obtain ⟨b0, b1, b2, b3, b4, b5, b6, b7, b8⟩ := HJ.out.res.cells
      have F : ∀ j, wr.frozen? ⟨w.heap.size + 1, j, none⟩ = false := fun j => frozen_of_row _ _ j _ _ HJ.out.res
      have f0 := F 0
      have f1 := F 1
      have f2 := F 2
      have f3 := F 3
      have f4 := F 4
      have f5 := F 5
      have f6 := F 6
      have f7 := F 7
      have f8 := F 8
      clear F
      simp only [show (default : RelL).path = ⟨#[]⟩ from rfl, show (default : RelL).ver = (0, 0, 0) from rfl, show (default : RelL).ar = ⟨#[]⟩ from rfl, show (default : RelL).ifc = ⟨#[]⟩ from rfl, show (default : RelL).cert = ⟨#[]⟩ from rfl, show (default : RelL).yk = false from rfl] at b0 b1 b2 b3 b4 b5 b6 b7 b8
      obtain ⟨oa, oc, rfl⟩ : ∃ oa oc, ov = .slice oa x.reqs.length oc := by
        obtain ⟨hl, ⟨rfl, h0⟩ | ⟨g, cap, cur, rfl, _⟩⟩ := HJ.out.row
        · exact ⟨none, 0, by rw [h0]⟩
        · exact ⟨_, _, rfl⟩
      go_wp2_with fail
      have hg := setRel_grown wr (w.heap.size + 1) x (.slice oa x.reqs.length oc)
      have hbox := setRel_box x (.slice oa x.reqs.length oc) HJ.out.res
      have hbel : RowKit.Below w.heap.size w (setRel wr (w.heap.size + 1) x (.slice oa x.reqs.length oc)) := HJ.out.bel.grown hg HJ.out.bel.size (fun b hb => by cases hb; omega)
      have ne : ∀ e c v n xs, wr.ownsRow (w.heap.size + 1 + 1) e c v n xs → (setRel wr (w.heap.size + 1) x (.slice oa x.reqs.length oc)).ownsRow (w.heap.size + 1 + 1) e c v n xs := fun e c v n xs h => h.kept hg (by
        cases hv : v.ownBlock with
        | none => exact .inl rfl
        | some b => exact .inr (fun e2 => by have := (own_lo h b hv).1; injection e2 with e2; omega))
      have hreq : ReqRows w.heap.size (.slice oa x.reqs.length oc) x.reqs (setRel wr (w.heap.size + 1) x (.slice oa x.reqs.length oc)) := by
        refine ⟨xs, own_mono (ne _ _ _ _ _ HJ.out.row) (by omega), fun i q hq => ?_⟩
        obtain ⟨sv, g1, g2, g3⟩ := HJ.out.els i q (List.getElem?_eq_some_iff.1 hq).1 hq
        exact ⟨sv, g1, g2, own_mono (ne _ _ _ _ _ g3) (by omega)⟩
      unfold setRel at hg hbox hbel hreq
      clear hg ne
      refine bodyPost_ret (results_cell_row rfl _ _ (w.heap.size + 1) _ _ _ _ rfl hbox Tryz.underlying71 rfl (by kernel_rfl)) rfl ?_
      exact ⟨.slice oa x.reqs.length oc, rfl, hreq, hbel⟩
    case pos =>
      obtain ⟨b, off, sv, rfl, hbl, d0, d1, hsp⟩ := HR.out k x.reqs[k] (by simp [hlt])
      have hql := HQ.out x.reqs[k] (List.getElem_mem hlt)
      have HXK : Hid (x.reqs[k]? = some x.reqs[k]) := Lib.hid (List.getElem?_eq_getElem hlt)
      generalize x.reqs[k] = q at *
      have HC := Lib.hid (fun W (hb : RowKit.Below w.heap.size w W) => CloneS_any sv q.2 W hql ((hsp.below hb (Nat.le_refl _)).mono hb.size))
      obtain ⟨sa, sc, rfl, _⟩ := hsp
      have hbw : b < wr.heap.size := Nat.lt_of_lt_of_le hbl HJ.out.bel.size
      have d0 := (HJ.out.bel.cell (p := ⟨b, off + k * 2, none⟩) hbl).trans d0
      have d1 := (HJ.out.bel.cell (p := ⟨b, off + k * 2 + 1, none⟩) hbl).trans d1
      have HB1 := Lib.hid (HJ.out.bel.trans ((belQ wr (.cells #[.string q.1, .slice sa q.2.length sc] 58)).mono HJ.out.bel.size))
      have HJ1 := Lib.hid (HJ.out.below (belQ wr (.cells #[.string q.1, .slice sa q.2.length sc] 58)))
      have HN1 := Lib.hid (World.alloc_heap_new wr (.cells #[.string q.1, .slice sa q.2.length sc] 58))
      have HL := Lib.hid hlt
      go_wp2_with fail
      refine (HC.out _ HB1.out).mono ?_
      rintro e w3 ⟨v3, rfl, hrow3, hb3⟩
      have HJ3 := Lib.hid (HJ1.out.below hb3)
      have HN3 := Lib.hid ((hb3.block wr.heap.size (by simp)).trans HN1.out)
      have HR3 := Lib.hid hrow3
      have hs3 := hb3.size
      simp only [World.size_alloc] at hs3
      obtain ⟨va, vc, rfl⟩ : ∃ va vc, v3 = .slice va q.2.length vc := by
        obtain ⟨hl, ⟨rfl, h0⟩ | ⟨g, cap, cur, rfl, _⟩⟩ := hrow3
        · exact ⟨none, 0, by rw [h0]⟩
        · exact ⟨_, _, rfl⟩
      have HG4 : Hid (w3.grownBy (w3.setCell ⟨wr.heap.size, 1, none⟩ (.slice va q.2.length vc)) (some wr.heap.size)) := Lib.hid (grownBy_setC _ _ _ _)
      have HN4 := Lib.hid (heap_setCell_same w3 wr.heap.size 1 _ _ (.slice va q.2.length vc) HN3.out)
      have hg0 : w.heap.size + 1 < wr.heap.size := HJ.out.size
      have F1 : w3.cell? ⟨wr.heap.size, 1, none⟩ = some (.slice sa q.2.length sc) := cell_of_row _ _ 1 _ _ _ HN3.out
      have F2 := frozen_of_row _ _ 1 _ _ HN3.out
      have HJ4 := Lib.hid (HJ.out.below (((belQ wr (.cells #[.string q.1, .slice sa q.2.length sc] 58)).trans (hb3.mono (by simp))).setCell (show wr.heap.size ≤ (⟨wr.heap.size, 1, none⟩ : Addr).block from Nat.le_refl _) (.slice va q.2.length vc)))
      have HR4 : Hid ((w3.setCell ⟨wr.heap.size, 1, none⟩ (.slice va q.2.length vc)).ownsRow (w.heap.size + 1 + 1) 133 2 (.slice va q.2.length vc) q.2.length (spanCells q.2)) := Lib.hid (own_mono (own_farM HR3.out HG4.out (by simp)) (by simp; omega))
      clear hb3 d0 d1 hbw a0 a1 a2 a3 a4 a5 a6 a7 a8
      generalize wr.heap.size = g5 at *
      obtain ⟨e0, e1, e2, e3, e4, e5, e6, e7, e8⟩ := HJ3.out.box.cells
      have F3 := HN4.out
      have F4 : (w3.setCell ⟨g5, 1, none⟩ (.slice va q.2.length vc)).cell? ⟨g5, 0, none⟩ = some (.string q.1) := cell_of_row _ _ 0 _ _ _ HN4.out
      have F5 : (w3.setCell ⟨g5, 1, none⟩ (.slice va q.2.length vc)).cell? ⟨g5, 1, none⟩ = some (.slice va q.2.length vc) := cell_of_row _ _ 1 _ _ _ HN4.out
      clear F3
      go_upto_region 7 with fail
      generalize w3.setCell ⟨g5, 1, none⟩ (.slice va q.2.length vc) = W4 at *
      clear F1 F2 e0 e1 e2 e3 e4 e5 e6 e7 e8
      obtain ⟨e0, e1, e2, e3, e4, e5, e6, e7, e8⟩ := HJ4.out.box.cells
      have f4 := frozen_of_row _ _ 4 _ _ HJ4.out.box
      have HJ5 := Lib.hid (HJ4.out.below (belQ W4 (.cells #[.string q.1, .slice va q.2.length vc] 58)))
      have HR5 := Lib.hid (own_on HR4.out (belQ W4 (.cells #[.string q.1, .slice va q.2.length vc] 58)))
      have HN5 := Lib.hid (World.alloc_heap_new W4 (.cells #[.string q.1, .slice va q.2.length vc] 58))
      have HBX : Hid (∀ w6, (W4.alloc (.cells #[.string q.1, .slice va q.2.length vc] 58)).grownBy w6 ov.ownBlock → BoxR w6 w.heap.size x ov) := Lib.hid (fun w6 hg => (hg.block w.heap.size HJ5.out.box.lt (fun e => by have := (own_lo HJ5.out.row _ e.symm).1; omega)).trans HJ5.out.box)
      have hz5 : w.heap.size + 1 + 1 ≤ (W4.alloc (.cells #[.string q.1, .slice va q.2.length vc] 58)).heap.size := HJ5.out.size
      go_wp2_with (at_builtin; refine wpList_append_own _ rfl _ _ 26 rfl (w.heap.size + 1 + 1) 58 i0 _ 2 40 Tryz.underlying26 hi0 hz0 hz1 hz2 rfl (by decide) ov k xs (by rfl) HJ5.out.row ⟨W4.heap.size, 0, none⟩ 1 1 [.string q.1, .slice va q.2.length vc] (by rfl) (by rfl) (World.news_of_block HN5.out) (by simp [Value.oneCell']) (by unfold maxLen; omega) (by omega) hz5 ?_; intro v' w6 hown' hgrow _; have HOW := Lib.hid hown'; have HGR := Lib.hid hgrow; have hbx := HBX.out _ hgrow; have hc6 : w6.cell? ⟨w.heap.size, 4, none⟩ = some ov := cell_of_row _ _ 4 _ _ _ hbx; have hf6 := frozen_of_row _ _ 4 _ _ hbx; clear hown' hgrow hbx; obtain ⟨gg, gc, rfl⟩ := ownsRow_succ HOW.out)
      go_roundw
      case rel => exact ⟨k + 1, by omega, by go_num, Lib.hid ⟨_, _, HJ5.out.step HXK.out HR5.out HOW.out HGR.out⟩⟩
      case measure => simp [intOf]; omega
end Go.Proofs.YtenfkejbndifdaaGreatDoor
