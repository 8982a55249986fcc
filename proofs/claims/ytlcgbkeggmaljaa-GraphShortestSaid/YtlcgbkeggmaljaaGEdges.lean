/- The library's Index, Contains and Equal at edges. -/
import Derived.Test.YtlcgbkeggmaljaaGSucc
import Derived.Test.YtlcgbkeggmaljaaGListed
import Derived.Test.YtlcgbkeggmaljaaShelf
import Derived.Shelf.SlicesQ.Contains
import Derived.Shelf.SlicesQ.Equal
import Derived.Laws.StructEq
namespace Go.Proofs.Ytlcgbkeggmaljaa
set_option linter.unusedVariables false
set_option linter.unusedSimpArgs false
open Go Go.RowKit Go.Shelf Go.Lib

def edgeRen : Ren := ⟨fun x => if x = 6 then 58 else if x = 7 then 33 else 24, fun x => if x = 0 then 0 else if x = 3 then 3 else if x = 4 then 4 else if x = 22 then 23 else 39, fun x => x⟩
theorem edgeLays7 : SlLaysQ.n7 Try.prog edgeRen := {
  mixed := by kernel_rfl
  f6 := ⟨Try.f58.name, by decide, Try.func58.trans (congrArg some (by kernel_rfl))⟩
  f7 := ⟨Try.f33.name, by decide, Try.func33.trans (congrArg some (by kernel_rfl))⟩
  t0 := Try.underlying0
  a0 := Try.isAgg0
  z0 := Try.sizeOf0
  v0 := Try.zeroValue0
  t3 := Try.underlying3
  a3 := Try.isAgg3
  z3 := Try.sizeOf3
  v3 := Try.zeroValue3
  t4 := Try.underlying4
  a4 := Try.isAgg4
  z4 := Try.sizeOf4
  v4 := Try.zeroValue4
  t22 := Try.underlying23
  a22 := Try.isAgg23
  z22 := Try.sizeOf23
  v22 := Try.zeroValue23 }
theorem edgeLays8 : SlLaysQ.n8 Try.prog edgeRen := {
  mixed := by kernel_rfl
  f8 := ⟨Try.f24.name, by decide, Try.func24.trans (congrArg some (by kernel_rfl))⟩
  t0 := Try.underlying0
  a0 := Try.isAgg0
  z0 := Try.sizeOf0
  v0 := Try.zeroValue0
  t3 := Try.underlying3
  a3 := Try.isAgg3
  z3 := Try.sizeOf3
  v3 := Try.zeroValue3
  t4 := Try.underlying4
  a4 := Try.isAgg4
  z4 := Try.sizeOf4
  v4 := Try.zeroValue4
  t22 := Try.underlying23
  a22 := Try.isAgg23
  z22 := Try.sizeOf23
  v22 := Try.zeroValue23 }
/-- an edge's cells. -/
def edgeC (x : Int × Int) : List Value := [.int .i64 x.1, .int .i64 x.2]
theorem edge_eql : EqlAt Try.prog 39 (fun x => .agg (edgeC x).toArray) (fun x y => x.1 == y.1 && x.2 == y.2) := by
  refine ⟨fun x y w => ?_, GuardAt.agg _ (by kernel_rfl)⟩
  have u3 := Try.underlying3
  have a3 := Try.isAgg3
  have z3 := Try.sizeOf3
  have hS : Try.prog.underlying 39 = some (.struct (Try.prog.fieldsOf 39)) := by kernel_rfl
  have hp : Try.prog.stoodInHeld 39 = false := by kernel_rfl
  simp only [edgeC]
  rw [run_eql_struct, show (10000 : Nat) = 9999 + 1 from rfl, run_equalIn_agg w 9999 39 _ _ hS hp]
  simp only [Program.fieldsOf, Try.underlying39]
  go_simp
  by_cases h1 : x.fst = y.fst <;> by_cases h2 : x.snd = y.snd <;> simp [h1, h2]
theorem edge_neq : NeqAt Try.prog 39 (fun x => .agg (edgeC x).toArray) (fun x y => x.1 == y.1 && x.2 == y.2) := by
  refine ⟨fun x y w => ?_, GuardAt.agg _ (by kernel_rfl)⟩
  have u3 := Try.underlying3
  have a3 := Try.isAgg3
  have z3 := Try.sizeOf3
  have hS : Try.prog.underlying 39 = some (.struct (Try.prog.fieldsOf 39)) := by kernel_rfl
  have hp : Try.prog.stoodInHeld 39 = false := by kernel_rfl
  simp only [edgeC]
  rw [run_neq_struct, show (10000 : Nat) = 9999 + 1 from rfl, run_equalIn_agg w 9999 39 _ _ hS hp]
  simp only [Program.fieldsOf, Try.underlying39]
  go_simp
  by_cases h1 : x.fst = y.fst <;> by_cases h2 : x.snd = y.snd <;> simp [h1, h2]
theorem pair_beq (x y : Int × Int) : (x.1 == y.1 && x.2 == y.2) = decide (x = y) := by
  obtain ⟨a, b⟩ := x
  obtain ⟨c, d⟩ := y
  by_cases h1 : a = c <;> by_cases h2 : b = d <;> simp [h1, h2]
/-- the edges' cells. -/
theorem edges_cells {B b off cap : Nat} {es : List (Int × Int)} {w : World} (h : EdgesOf B (.slice (some ⟨b, off, none⟩) es.length cap) es w) : ∀ j, j < es.length → ∀ i v, (edgeC es[j]!)[i]? = some v → w.cell? ⟨b, off + j * 2 + i, none⟩ = some v := by
  obtain ⟨ao, c, e, h⟩ := h
  cases e
  intro j hj i v hv
  rw [getElem!_pos es j hj] at hv
  obtain ⟨b', off', e, _, h1, h2⟩ := h j es[j] (by simp [hj])
  cases e
  match i, hv with
  | 0, hv => cases hv; exact h1
  | 1, hv => cases hv; exact h2
  | i + 2, hv => simp [edgeC] at hv
/-- slices.Contains at edges. -/
theorem EdgeContains_any (v : Value) (es : List (Int × Int)) (x y : Int) (w : World) (hes : es.length ≤ 1000000000) (hpos : 0 < es.length) (hE : EdgesOf w.heap.size v es w) :
    Calls Try.prog 33 #[v, .agg #[.int .i64 x, .int .i64 y]] w fun e w' => e = .returned (.bool (decide ((x, y) ∈ es))) ∧ Below w.heap.size w w' := by
  have hE0 := hE
  obtain ⟨ao, c, rfl, h⟩ := hE
  obtain ⟨b, off, rfl, _⟩ := h 0 es[0] (by simp [hpos])
  refine (AnyQ.slices_Contains edgeLays7 2 Try.isAgg39 Try.sizeOf39 edgeC (fun _ => rfl) _ edge_eql b off es.length c es (x, y) w (Nat.le_refl _) (by omega) (edges_cells hE0)).mono ?_
  rintro e w' ⟨rfl, hb⟩
  refine ⟨?_, hb⟩
  congr 2
  rw [List.take_length]
  by_cases hm : (x, y) ∈ es
  · rw [decide_eq_true hm, List.any_eq_true]
    exact ⟨_, hm, by simp⟩
  · rw [decide_eq_false hm, ← Bool.not_eq_true, List.any_eq_true]
    rintro ⟨z, hz, he⟩
    rw [pair_beq, decide_eq_true_eq] at he
    exact hm (he ▸ hz)
theorem row_cells {B b off cap : Nat} {l : List Int} {w : World} (h : RowOf intC B (.slice (some ⟨b, off, none⟩) l.length cap) l w) (hp : 0 < l.length) : ∀ j, j < l.length → w.cell? ⟨b, off + j, none⟩ = some (.int .i64 (l.getD j 0)) := fun j hj => by
  rcases h with ⟨h, _⟩ | ⟨b', off', cap', e, _, h⟩
  · rw [h] at hp; simp at hp
  · cases e
    have := h j l[j] (by simp [hj])
    rw [this, List.getD_eq_getElem?_getD, List.getElem?_eq_getElem hj]
    rfl
/-- slices.Contains at numbers. -/
theorem Contains_ints (v : Value) (l : List Int) (x : Int) (B : Nat) (w : World) (hl : l.length ≤ 1000000000) (h : RowOf intC B v l w) :
    Calls Try.prog 32 #[v, .int .i64 x] w fun e w' => e = .returned (.bool (decide (x ∈ l))) ∧ w' = w := by
  have h0 := h
  rcases h with ⟨rfl, a, c, rfl⟩ | ⟨b, off, cap, rfl, _, _⟩
  · refine (Try.slices_Contains_int_empty a c x w).mono ?_
    rintro e w' ⟨rfl, rfl⟩
    exact ⟨by simp, rfl⟩
  · by_cases hp : 0 < l.length
    · refine (Try.slices_Contains_int b off l.length cap l x w (Nat.le_refl _) (by omega) (row_cells h0 hp)).mono ?_
      rintro e w' ⟨rfl, rfl⟩
      refine ⟨?_, rfl⟩
      rw [List.take_length, List.contains_eq_mem]
    · have : l = [] := List.length_eq_zero_iff.1 (by omega)
      subst this
      refine (Try.slices_Contains_int_empty _ cap x w).mono ?_
      rintro e w' ⟨rfl, rfl⟩
      exact ⟨by simp, rfl⟩
/-- slices.Index at numbers. -/
theorem Index_ints (v : Value) (l : List Int) (x : Int) (B : Nat) (w : World) (hl : l.length ≤ 1000000000) (h : RowOf intC B v l w) :
    Calls Try.prog 36 #[v, .int .i64 x] w fun e w' => e = .returned (.int .i64 (Lib.idxOf l x)) ∧ w' = w := by
  have h0 := h
  rcases h with ⟨rfl, a, c, rfl⟩ | ⟨b, off, cap, rfl, _, _⟩
  · exact Try.slices_Index_int_empty a c x w
  · by_cases hp : 0 < l.length
    · refine (Try.slices_Index_int b off l.length cap l x w (Nat.le_refl _) (by omega) (row_cells h0 hp)).mono ?_
      rintro e w' ⟨rfl, rfl⟩
      rw [List.take_length]
      exact ⟨rfl, rfl⟩
    · have : l = [] := List.length_eq_zero_iff.1 (by omega)
      subst this
      exact Try.slices_Index_int_empty _ cap x w
end Go.Proofs.Ytlcgbkeggmaljaa
