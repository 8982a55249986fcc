/- A row of spans that is merged in place: what it holds. -/
import Derived.Test.YtdhihdiifgcfdaaGreatDoorCSpan
import Derived.Test.YtdhihdiifgcfdaaGreatDoorCPlain
namespace Go.Proofs.YtdhihdiifgcfdaaGreatDoor
set_option linter.unusedVariables false
set_option linter.unusedSimpArgs false
open Go Go.RowKit Go.Sort

/-- a span lies in a row. -/
def SpanAt (W : World) (g j : Nat) (x : Int × Int) : Prop := W.cell? ⟨g, j * 2, none⟩ = some (intC x.1) ∧ W.cell? ⟨g, j * 2 + 1, none⟩ = some (intC x.2)
/-- the row holds m in front, and from i on what it held. -/
def MidRow (g : Nat) (m d : List (Int × Int)) (i : Nat) (W : World) : Prop :=
  (∀ j x, m[j]? = some x → SpanAt W g j x) ∧ (∀ j x, i ≤ j → d[j]? = some x → SpanAt W g j x) ∧ (∀ o, W.frozen? ⟨g, o, none⟩ = false) ∧ g < W.heap.size ∧ (∀ j, j < d.length → ∃ x, SpanAt W g j x)

theorem SpanAt.alloc {W : World} {g j : Nat} {x : Int × Int} (h : SpanAt W g j x) (o : Obj) : SpanAt (W.alloc o) g j x := ⟨cellA o h.1, cellA o h.2⟩
theorem MidRow.alloc {g : Nat} {m d : List (Int × Int)} {i : Nat} {W : World} (h : MidRow g m d i W) (o : Obj) : MidRow g m d i (W.alloc o) := by
  obtain ⟨h1, h2, h3, h4, h5⟩ := h
  refine ⟨fun j x hx => (h1 j x hx).alloc o, fun j x hj hx => (h2 j x hj hx).alloc o, fun p => ?_, by simp; omega, fun j hj => ?_⟩
  · have e : (W.alloc o).heap[g]? = W.heap[g]? := Below.heap_alloc W o g h4
    have := h3 p
    unfold World.frozen? at this ⊢
    simp only [e]
    exact this
  · obtain ⟨x, hx⟩ := h5 j hj
    exact ⟨x, hx.alloc o⟩
theorem MidRow.drew {g : Nat} {m d : List (Int × Int)} {i : Nat} {W : World} (h : MidRow g m d i W) : MidRow g m d i W.drew := h
theorem MidRow.weak {g : Nat} {m d : List (Int × Int)} {i : Nat} {W : World} (h : MidRow g m d i W) : MidRow g m d (i + 1) W :=
  ⟨h.1, fun j x hj hx => h.2.1 j x (by omega) hx, h.2.2.1, h.2.2.2.1, h.2.2.2.2⟩
theorem span_far {W : World} {g j k : Nat} {x : Int × Int} (h : SpanAt W g j x) {v : Value} (h1 : k ≠ j * 2) (h2 : k ≠ j * 2 + 1) : SpanAt (W.setCell ⟨g, k, none⟩ v) g j x :=
  ⟨(World.cell?_setCell_other _ _ _ _ (fun e => h1 (by injection e))).trans h.1, (World.cell?_setCell_other _ _ _ _ (fun e => h2 (by injection e))).trans h.2⟩
theorem size_setCell (W : World) (a : Addr) (v : Value) : (W.setCell a v).heap.size = W.heap.size := by simp
/-- the last span in front is made longer. -/
theorem MidRow.join {g : Nat} {pre d : List (Int × Int)} {y : Int × Int} {i : Nat} {W : World} (h : MidRow g (pre ++ [y]) d i W) (hi : pre.length < i) (z : Int) :
    MidRow g (pre ++ [(y.1, z)]) d (i + 1) (W.setCell ⟨g, pre.length * 2 + 1, none⟩ (intC z)) := by
  obtain ⟨h1, h2, h3, h4, h5⟩ := h
  have hy : SpanAt W g pre.length y := h1 _ _ (by simp)
  have hnew : SpanAt (W.setCell ⟨g, pre.length * 2 + 1, none⟩ (intC z)) g pre.length (y.1, z) :=
    ⟨(World.cell?_setCell_other _ _ _ _ (fun e => by injection e; omega)).trans hy.1, World.cell?_setCell_same _ _ _ hy.2⟩
  refine ⟨fun j x hx => ?_, fun j x hj hx => span_far (h2 j x (by omega) hx) (by omega) (by omega), fun o => by rw [World.frozen?_setCell]; exact h3 o, by rw [size_setCell]; exact h4, fun j hj => ?_⟩
  · rcases Nat.lt_trichotomy j pre.length with hj | hj | hj
    · rw [List.getElem?_append_left hj] at hx
      exact span_far (h1 j x (by rw [List.getElem?_append_left hj]; exact hx)) (by omega) (by omega)
    · subst hj
      have : x = (y.1, z) := by simpa using hx.symm
      rw [this]
      exact hnew
    · rw [List.getElem?_eq_none (by simp; omega)] at hx
      cases hx
  · by_cases hjp : j = pre.length
    · subst hjp; exact ⟨_, hnew⟩
    · obtain ⟨x, hx⟩ := h5 j hj
      exact ⟨x, span_far hx (by omega) (by omega)⟩
/-- a span is laid behind those in front. -/
theorem MidRow.push {g : Nat} {m d : List (Int × Int)} {x : Int × Int} {i : Nat} {W : World} (h : MidRow g m d i W) (hi : m.length ≤ i) (hd : m.length < d.length) :
    MidRow g (m ++ [x]) d (i + 1) ((W.setCell ⟨g, m.length * 2, none⟩ (intC x.1)).setCell ⟨g, m.length * 2 + 1, none⟩ (intC x.2)) := by
  obtain ⟨h1, h2, h3, h4, h5⟩ := h
  obtain ⟨y, hy⟩ := h5 m.length hd
  have e1 : (W.setCell ⟨g, m.length * 2, none⟩ (intC x.1)).cell? ⟨g, m.length * 2, none⟩ = some (intC x.1) := World.cell?_setCell_same _ _ _ hy.1
  have e2 : (W.setCell ⟨g, m.length * 2, none⟩ (intC x.1)).cell? ⟨g, m.length * 2 + 1, none⟩ = some (intC y.2) := (World.cell?_setCell_other _ _ _ _ (fun e => by injection e; omega)).trans hy.2
  have hnew : SpanAt ((W.setCell ⟨g, m.length * 2, none⟩ (intC x.1)).setCell ⟨g, m.length * 2 + 1, none⟩ (intC x.2)) g m.length x :=
    ⟨(World.cell?_setCell_other _ _ _ _ (fun e => by injection e; omega)).trans e1, World.cell?_setCell_same _ _ _ e2⟩
  have far : ∀ j z, SpanAt W g j z → j ≠ m.length → SpanAt ((W.setCell ⟨g, m.length * 2, none⟩ (intC x.1)).setCell ⟨g, m.length * 2 + 1, none⟩ (intC x.2)) g j z :=
    fun j z hz hne => span_far (span_far hz (by omega) (by omega)) (by omega) (by omega)
  refine ⟨fun j z hz => ?_, fun j z hj hz => far j z (h2 j z (by omega) hz) (by omega), fun o => by rw [World.frozen?_setCell, World.frozen?_setCell]; exact h3 o, by rw [size_setCell, size_setCell]; exact h4, fun j hj => ?_⟩
  · rcases Nat.lt_trichotomy j m.length with hj | hj | hj
    · rw [List.getElem?_append_left hj] at hz
      exact far j z (h1 j z hz) (by omega)
    · subst hj
      have : z = x := by simpa using hz.symm
      rw [this]
      exact hnew
    · rw [List.getElem?_eq_none (by simp; omega)] at hz
      cases hz
  · by_cases hjp : j = m.length
    · subst hjp; exact ⟨_, hnew⟩
    · obtain ⟨z, hz⟩ := h5 j hj
      exact ⟨z, far j z hz hjp⟩
theorem MidRow.pushN {g : Nat} {m d : List (Int × Int)} {x : Int × Int} {i : Nat} {W : World} (h : MidRow g m d i W) (n : Nat) (hn : m.length = n) (hi : n ≤ i) (hd : n < d.length) (q : Nat) :
    MidRow g (m ++ [x]) d (i + 1) (((W.drewN q).setCell ⟨g, n * 2, none⟩ (intC x.1)).setCell ⟨g, n * 2 + 1, none⟩ (intC x.2)) := by
  subst hn
  exact MidRow.push (W := W.drewN q) h hi hd
/-- a row of the call's own, before the merging. -/
theorem MidRow.start {B g cap n : Nat} {d : List (Int × Int)} {W : World} (h : W.ownsRow B 49 2 (.slice (some ⟨g, 0, none⟩) n cap) n (edgeCells d)) : n = d.length ∧ MidRow g [] d 0 W ∧ B ≤ g ∧ n ≤ cap := by
  have hn : n = d.length := by have := h.1; rw [edgeCells_length] at this; omega
  subst hn
  have hsp : ∀ j x, d[j]? = some x → SpanAt W g j x := fun j x hx => by
    have hj := (List.getElem?_eq_some_iff.1 hx).1
    exact ⟨by rw [h.cellAt (j * 2) (by omega)]; exact (edgeCells_get d j x hx).1, by rw [h.cellAt (j * 2 + 1) (by omega)]; exact (edgeCells_get d j x hx).2⟩
  rcases h.2 with ⟨h0, _⟩ | ⟨g', cap', cur, hv, hb, hg, hc, _⟩
  · cases h0
  · cases hv
    exact ⟨rfl, ⟨fun j x hx => by simp at hx, fun j x _ hx => hsp j x hx, fun o => by simp [World.frozen?, hg], (Array.getElem?_eq_some_iff.1 hg).1, fun j hj => ⟨d[j], hsp j _ (by simp [hj])⟩⟩, hb, hc⟩
theorem MidRow.edges {g c : Nat} {m d : List (Int × Int)} {i : Nat} {W : World} (h : MidRow g m d i W) : EdgesOf W.heap.size (.slice (some ⟨g, 0, none⟩) m.length c) m W :=
  ⟨_, _, rfl, fun j x hx => ⟨g, 0, rfl, h.2.2.2.1, by rw [Nat.zero_add]; exact (h.1 j x hx).1, by rw [Nat.zero_add]; exact (h.1 j x hx).2⟩⟩
theorem mergeS_snoc (l : List (Int × Int)) (x : Int × Int) : mergeS (l ++ [x]) = joinS (mergeS l) x := by
  unfold mergeS
  rw [List.foldl_append]
  rfl
theorem mergeS_len (l : List (Int × Int)) : (mergeS l).length ≤ l.length := by
  have := foldl_len l []
  unfold mergeS
  simpa using this
theorem mergeS_pos (l : List (Int × Int)) (h : 0 < l.length) : 0 < (mergeS l).length := by
  rcases List.eq_nil_or_concat l with rfl | ⟨a, y, rfl⟩
  · simp at h
  · rw [List.concat_eq_append, mergeS_snoc]
    exact (join_len _ _).2
end Go.Proofs.YtdhihdiifgcfdaaGreatDoor
