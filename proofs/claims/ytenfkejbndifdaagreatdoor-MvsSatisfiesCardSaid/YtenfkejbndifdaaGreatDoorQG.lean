/- Requirements, releases, selections in memory. The library's Equal at spans. The graph of a selection, plain; what solving says. Graphs, plain: edges, successors; a list that is sorted and compacted. Graphs, plain: what is reached, and what a visit leaves. -/
import Derived.Test.YtenfkejbndifdaaGreatDoorQE
import Derived.Test.YtenfkejbndifdaaGreatDoorQF
import Derived.Test.YtenfkejbndifdaaGreatDoorShelf
import Derived.Shelf.SlicesQ.Equal
import Derived.Laws.StructEq
import Derived.Lib.SlicesCompact
namespace Go.Proofs.YtenfkejbndifdaaGreatDoor
set_option linter.unusedVariables false
set_option linter.unusedSimpArgs false
open Go Go.RowKit

def ReqsOf (B : Nat) (v : Value) (l : List ReqL) (W : World) : Prop :=
  ∃ ao cap, v = .slice ao l.length cap ∧ ∀ i q, l[i]? = some q → ∃ b off r, ao = some ⟨b, off, none⟩ ∧ b < B ∧ W.cell? ⟨b, off + i * 2, none⟩ = some (.string q.1) ∧ W.cell? ⟨b, off + i * 2 + 1, none⟩ = some r ∧ SpansOf B r q.2 W
theorem ReqsOf.below {B B' : Nat} {v : Value} {l : List ReqL} {W W' : World} (h : ReqsOf B v l W) (hb : Below B' W W') (hB : B ≤ B') : ReqsOf B v l W' := by
  obtain ⟨ao, cap, rfl, h⟩ := h
  refine ⟨ao, cap, rfl, fun i q hq => ?_⟩
  obtain ⟨b, off, r, rfl, hlt, h1, h2, h3⟩ := h i q hq
  exact ⟨b, off, r, rfl, hlt, (hb.cell (p := ⟨b, off + i * 2, none⟩) (by simp; omega)).trans h1, (hb.cell (p := ⟨b, off + i * 2 + 1, none⟩) (by simp; omega)).trans h2, h3.below hb hB⟩
theorem ReqsOf.mono {B B' : Nat} {v : Value} {l : List ReqL} {W : World} (h : ReqsOf B v l W) (hB : B ≤ B') : ReqsOf B' v l W := by
  obtain ⟨ao, cap, rfl, h⟩ := h
  refine ⟨ao, cap, rfl, fun i q hq => ?_⟩
  obtain ⟨b, off, r, rfl, hlt, h1, h2, h3⟩ := h i q hq
  exact ⟨b, off, r, rfl, by omega, h1, h2, h3.mono hB⟩
theorem ReqsOf.on {w w' : World} {v : Value} {l : List ReqL} (h : ReqsOf w.heap.size v l w) (hb : Below w.heap.size w w') : ReqsOf w'.heap.size v l w' := (h.below hb (Nat.le_refl _)).mono hb.size
/-- a selection. -/
def SelsOf (B : Nat) (v : Value) (l : List SelL) (W : World) : Prop :=
  ∃ ao cap, v = .slice ao l.length cap ∧ ∀ i y, l[i]? = some y → ∃ b off, ao = some ⟨b, off, none⟩ ∧ b < B ∧ W.cell? ⟨b, off + i * 4, none⟩ = some (.string y.1) ∧ W.cell? ⟨b, off + i * 4 + 1, none⟩ = some (intC y.2.1) ∧ W.cell? ⟨b, off + i * 4 + 2, none⟩ = some (intC y.2.2.1) ∧ W.cell? ⟨b, off + i * 4 + 3, none⟩ = some (intC y.2.2.2)
theorem SelsOf.below {B B' : Nat} {v : Value} {l : List SelL} {W W' : World} (h : SelsOf B v l W) (hb : Below B' W W') (hB : B ≤ B') : SelsOf B v l W' := by
  obtain ⟨ao, cap, rfl, h⟩ := h
  refine ⟨ao, cap, rfl, fun i q hq => ?_⟩
  obtain ⟨b, off, rfl, hlt, h1, h2, h3, h4⟩ := h i q hq
  have key : ∀ j, W'.cell? ⟨b, j, none⟩ = W.cell? ⟨b, j, none⟩ := fun j => hb.cell (p := ⟨b, j, none⟩) (by simp; omega)
  exact ⟨b, off, rfl, hlt, (key _).trans h1, (key _).trans h2, (key _).trans h3, (key _).trans h4⟩
theorem SelsOf.mono {B B' : Nat} {v : Value} {l : List SelL} {W : World} (h : SelsOf B v l W) (hB : B ≤ B') : SelsOf B' v l W := by
  obtain ⟨ao, cap, rfl, h⟩ := h
  refine ⟨ao, cap, rfl, fun i q hq => ?_⟩
  obtain ⟨b, off, rfl, hlt, h1⟩ := h i q hq
  exact ⟨b, off, rfl, by omega, h1⟩
theorem SelsOf.on {w w' : World} {v : Value} {l : List SelL} (h : SelsOf w.heap.size v l w) (hb : Below w.heap.size w w') : SelsOf w'.heap.size v l w' := (h.below hb (Nat.le_refl _)).mono hb.size
/-- the nine cells of a release from a place on. -/
def RelAt (B : Nat) (b o : Nat) (x : RelL) (W : World) : Prop :=
  ∃ r, W.cell? ⟨b, o, none⟩ = some (.string x.path) ∧ W.cell? ⟨b, o + 1, none⟩ = some (intC x.ver.1) ∧ W.cell? ⟨b, o + 2, none⟩ = some (intC x.ver.2.1) ∧ W.cell? ⟨b, o + 3, none⟩ = some (intC x.ver.2.2) ∧ W.cell? ⟨b, o + 4, none⟩ = some r ∧
    W.cell? ⟨b, o + 5, none⟩ = some (.string x.ar) ∧ W.cell? ⟨b, o + 6, none⟩ = some (.string x.ifc) ∧ W.cell? ⟨b, o + 7, none⟩ = some (.string x.cert) ∧ W.cell? ⟨b, o + 8, none⟩ = some (.bool x.yk) ∧ ReqsOf B r x.reqs W
theorem RelAt.below {B B' b o : Nat} {x : RelL} {W W' : World} (h : RelAt B b o x W) (hb : Below B' W W') (hB : B ≤ B') (hlt : b < B') : RelAt B b o x W' := by
  obtain ⟨r, h0, h1, h2, h3, h4, h5, h6, h7, h8, h9⟩ := h
  have key : ∀ j, W'.cell? ⟨b, j, none⟩ = W.cell? ⟨b, j, none⟩ := fun j => hb.cell (p := ⟨b, j, none⟩) hlt
  exact ⟨r, (key _).trans h0, (key _).trans h1, (key _).trans h2, (key _).trans h3, (key _).trans h4, (key _).trans h5, (key _).trans h6, (key _).trans h7, (key _).trans h8, h9.below hb hB⟩
theorem RelAt.mono {B B' b o : Nat} {x : RelL} {W : World} (h : RelAt B b o x W) (hB : B ≤ B') : RelAt B' b o x W := by
  obtain ⟨r, h0, h1, h2, h3, h4, h5, h6, h7, h8, h9⟩ := h
  exact ⟨r, h0, h1, h2, h3, h4, h5, h6, h7, h8, h9.mono hB⟩
/-- an index's releases. -/
def RelsOf (B : Nat) (v : Value) (l : List RelL) (W : World) : Prop :=
  ∃ ao cap, v = .slice ao l.length cap ∧ ∀ i x, l[i]? = some x → ∃ b off, ao = some ⟨b, off, none⟩ ∧ b < B ∧ RelAt B b (off + i * 9) x W
theorem RelsOf.below {B B' : Nat} {v : Value} {l : List RelL} {W W' : World} (h : RelsOf B v l W) (hb : Below B' W W') (hB : B ≤ B') : RelsOf B v l W' := by
  obtain ⟨ao, cap, rfl, h⟩ := h
  refine ⟨ao, cap, rfl, fun i q hq => ?_⟩
  obtain ⟨b, off, rfl, hlt, h1⟩ := h i q hq
  exact ⟨b, off, rfl, hlt, h1.below hb hB (by omega)⟩
theorem RelsOf.mono {B B' : Nat} {v : Value} {l : List RelL} {W : World} (h : RelsOf B v l W) (hB : B ≤ B') : RelsOf B' v l W := by
  obtain ⟨ao, cap, rfl, h⟩ := h
  refine ⟨ao, cap, rfl, fun i q hq => ?_⟩
  obtain ⟨b, off, rfl, hlt, h1⟩ := h i q hq
  exact ⟨b, off, rfl, by omega, h1.mono hB⟩
theorem RelsOf.on {w w' : World} {v : Value} {l : List RelL} (h : RelsOf w.heap.size v l w) (hb : Below w.heap.size w w') : RelsOf w'.heap.size v l w' := (h.below hb (Nat.le_refl _)).mono hb.size
end Go.Proofs.YtenfkejbndifdaaGreatDoor

namespace Go.Proofs.YtenfkejbndifdaaGreatDoor
set_option linter.unusedVariables false
set_option linter.unusedSimpArgs false
open Go Go.RowKit Go.Shelf Go.Lib

def spanRen : Ren := ⟨fun _ => 148, fun x => if x = 0 then 0 else if x = 3 then 3 else if x = 4 then 4 else if x = 22 then 56 else 133, fun x => x⟩
theorem spanLays8 : SlLaysQ.n8 Tryz.prog spanRen := {
  mixed := by kernel_rfl
  f8 := ⟨Tryz.f148.name, by decide, Tryz.func148.trans (congrArg some (by kernel_rfl))⟩
  t0 := Tryz.underlying0
  a0 := Tryz.isAgg0
  z0 := Tryz.sizeOf0
  v0 := Tryz.zeroValue0
  t3 := Tryz.underlying3
  a3 := Tryz.isAgg3
  z3 := Tryz.sizeOf3
  v3 := Tryz.zeroValue3
  t4 := Tryz.underlying4
  a4 := Tryz.isAgg4
  z4 := Tryz.sizeOf4
  v4 := Tryz.zeroValue4
  t22 := Tryz.underlying56
  a22 := Tryz.isAgg56
  z22 := Tryz.sizeOf56
  v22 := Tryz.zeroValue56 }
/-- a span's cells. -/
def spanC (x : Int × Int) : List Value := [.int .i64 x.1, .int .i64 x.2]
theorem span_neq : NeqAt Tryz.prog 133 (fun x => .agg (spanC x).toArray) (fun x y => x.1 == y.1 && x.2 == y.2) := by
  refine ⟨fun x y w => ?_, GuardAt.agg _ (by kernel_rfl)⟩
  have u3 := Tryz.underlying3
  have a3 := Tryz.isAgg3
  have z3 := Tryz.sizeOf3
  have hS : Tryz.prog.underlying 133 = some (.struct (Tryz.prog.fieldsOf 133)) := by kernel_rfl
  have hp : Tryz.prog.stoodInHeld 133 = false := by kernel_rfl
  simp only [spanC]
  rw [run_neq_struct, show (10000 : Nat) = 9999 + 1 from rfl, run_equalIn_agg w 9999 133 _ _ hS hp]
  simp only [Program.fieldsOf, Tryz.underlying133]
  go_simp
  by_cases h1 : x.fst = y.fst <;> by_cases h2 : x.snd = y.snd <;> simp [h1, h2]
theorem spanEq_eq : ∀ (xs ys : List (Int × Int)), Lib.allEq (fun x y : Int × Int => x.1 == y.1 && x.2 == y.2) xs ys = decide (xs = ys)
  | [], [] => rfl
  | [], _ :: _ => rfl
  | _ :: _, [] => rfl
  | (a, b) :: xs, (c, d) :: ys => by
    simp only [Lib.allEq, spanEq_eq xs ys]
    by_cases h1 : a = c <;> by_cases h2 : b = d <;> by_cases h3 : xs = ys <;> simp [h1, h2, h3]
theorem spans_cells {B b off cap : Nat} {es : List (Int × Int)} {w : World} (h : SpansOf B (.slice (some ⟨b, off, none⟩) es.length cap) es w) : ∀ j, j < es.length → ∀ i v, (spanC es[j]!)[i]? = some v → w.cell? ⟨b, off + j * 2 + i, none⟩ = some v := by
  obtain ⟨ao, c, e, h⟩ := h
  cases e
  intro j hj i v hv
  rw [getElem!_pos es j hj] at hv
  obtain ⟨b', off', e, _, h1, h2⟩ := h j es[j] (by simp [hj])
  cases e
  match i, hv with
  | 0, hv => cases hv; exact h1
  | 1, hv => cases hv; exact h2
  | i + 2, hv => simp [spanC] at hv
set_option maxRecDepth 100000 in
/-- slices.Equal at sets. -/
theorem Equal_spans (v u : Value) (B : Nat) (xs ys : List (Int × Int)) (w : World) (hxl : xs.length ≤ 1000000000) (hyl : ys.length ≤ 1000000000) (h1 : SpansOf B v xs w) (h2 : SpansOf B u ys w) :
    Calls Tryz.prog 148 #[v, u] w fun e w' => e = .returned (.bool (decide (xs = ys))) ∧ ∃ q, w' = w.drewN q := by
  have g1 := h1
  have g2 := h2
  obtain ⟨a1, c1, rfl, k1⟩ := h1
  obtain ⟨a2, c2, rfl, k2⟩ := h2
  by_cases hl : xs.length = ys.length
  · by_cases hp : 0 < xs.length
    · obtain ⟨b1, o1, rfl, _⟩ := k1 0 xs[0] (by simp [hp])
      obtain ⟨b2, o2, rfl, _⟩ := k2 0 (ys[0]'(by omega)) (by simp)
      refine (AnyQ.slices_Equal spanLays8 2 Tryz.isAgg133 Tryz.sizeOf133 spanC (fun _ => rfl) _ span_neq b1 o1 xs.length c1 b2 o2 ys.length c2 xs ys w (Nat.le_refl _) (Nat.le_refl _) (by omega) (by omega) (spans_cells g1) (spans_cells g2)).mono ?_
      rintro e w' ⟨rfl, q, rfl⟩
      exact ⟨by rw [List.take_length, List.take_length, spanEq_eq], q, rfl⟩
    · have e1 : xs = [] := List.length_eq_zero_iff.1 (by omega)
      subst e1
      have e2 : ys = [] := List.length_eq_zero_iff.1 (by simpa using hl.symm)
      subst e2
      clear g1 g2 k1 k2 hxl hyl hp hl
      go_enter Tryz.func148, Tryz.ntmps148
      go_wp2_with fail
      go_loopw [13] (fun q wr => q = .int .i64 0 ∧ wr = w) (fun _ _ => 0)
      case atStart => exact ⟨rfl, rfl⟩
      case round =>
        obtain ⟨rfl, rfl⟩ := hrel
        go_wp2_with fail
        go_ret
        exact ⟨rfl, 0, rfl⟩
  · have hne : decide (xs = ys) = false := decide_eq_false fun e => hl (by rw [e])
    rw [hne]
    clear g1 g2 k1 k2 hne
    have hl2 : ¬ ((xs.length : Int) = (ys.length : Int)) := by omega
    have hl3 : decide ((xs.length : Int) = (ys.length : Int)) = false := decide_eq_false hl2
    go_enter Tryz.func148, Tryz.ntmps148
    go_wp2_with fail
    go_ret
    exact ⟨rfl, 0, rfl⟩
end Go.Proofs.YtenfkejbndifdaaGreatDoor

namespace Go.Proofs.YtenfkejbndifdaaGreatDoor
set_option linter.unusedVariables false
set_option linter.unusedSimpArgs false
open Go

/-- strings: an order without ties. -/
theorem ltB_irrefl (a : ByteArray) : ltB a a = false := by
  unfold ltB
  generalize a.toList = l
  induction l with
  | nil => rfl
  | cons c l ih => simp [Op.bytesLess, ih]
/-- where a path stands in a selection. -/
def pathIx (s : List SelL) (p : ByteArray) : Option Nat := s.findIdx? fun z => decide (z.1 = p)
/-- the edges of a node. -/
def nodeE (s : List SelL) (i : Nat) (l : List ReqL) : List (Int × Int) := l.filterMap fun q => (pathIx s q.1).map fun k => ((i : Int), (k : Int))
theorem nodeE_snoc (s : List SelL) (i : Nat) (l : List ReqL) (q : ReqL) : nodeE s i (l ++ [q]) = nodeE s i l ++ (match pathIx s q.1 with | some k => [((i : Int), (k : Int))] | none => []) := by
  unfold nodeE
  rw [List.filterMap_append]
  cases h : pathIx s q.1 <;> simp [h]
def reqsOf (X : List RelL) (y : SelL) : List ReqL := match findR X y with
  | some r => r.reqs
  | none => []
/-- the edges of the first nodes. -/
def edgesK (X : List RelL) (s : List SelL) (k : Nat) : List (Int × Int) := (List.range k).flatMap fun i => nodeE s i (reqsOf X (s.getD i default))
theorem edgesK_succ (X : List RelL) (s : List SelL) (k : Nat) : edgesK X s (k + 1) = edgesK X s k ++ nodeE s k (reqsOf X (s.getD k default)) := by
  unfold edgesK
  rw [List.range_succ, List.flatMap_append]
  simp
theorem nodeE_len (s : List SelL) (i : Nat) (l : List ReqL) : (nodeE s i l).length ≤ l.length := by
  unfold nodeE
  exact List.length_filterMap_le _ _
theorem edgesK_len (X : List RelL) (s : List SelL) (C : Nat) (h : ∀ y, (reqsOf X y).length ≤ C) : ∀ k, (edgesK X s k).length ≤ k * C
  | 0 => by simp [edgesK]
  | k + 1 => by
    have h1 := edgesK_len X s C h k
    have h2 := nodeE_len s k (reqsOf X (s.getD k default))
    have h3 := h (s.getD k default)
    rw [edgesK_succ, List.length_append, Nat.add_mul]
    omega
/-- the graph of a selection, and the error. -/
noncomputable def ofV (X : List RelL) (s : List SelL) : (List ByteArray × List (Int × Int)) × Int := open Classical in
  if checkX X ≠ 0 ∨ ¬ incrS s then (([], []), 1)
  else if (s.all fun y => (findR X y).isSome) = true then ((s.map (·.1), edgesK X s s.length), 0)
  else (([], []), 6)
/-- paths that a solved selection needs. -/
inductive Need (X : List RelL) (roots : List ReqL) (s : List SelL) : ByteArray → Prop
  | root {q : ReqL} (h : q ∈ roots) : Need X roots s q.1
  | step {y : SelL} {q : ReqL} (hy : y ∈ s) (h : Need X roots s y.1) (hq : q ∈ reqsOf X y) : Need X roots s q.1
/-- a requirement that a selection meets. -/
def metB (s : List SelL) (q : ReqL) : Bool := s.any fun y => decide (y.1 = q.1) && hasB q.2 (1000 * y.2.2.1 + y.2.2.2)
end Go.Proofs.YtenfkejbndifdaaGreatDoor

namespace Go.Proofs.YtenfkejbndifdaaGreatDoor
set_option linter.unusedVariables false
set_option linter.unusedSimpArgs false
open Go.Lib

/-- the successors of a node in increasing order. -/
def sucL (n : Nat) (es : List (Int × Int)) (i : Nat) : List Nat := (List.range n).filter fun k => es.contains ((i : Int), (k : Int))
/-- the successors of all nodes. -/
def sucs (n : Nat) (es : List (Int × Int)) : List (List Nat) := (List.range n).map (sucL n es)
/-- the ends of the edges that begin at a node, in their order. -/
def rawL (es : List (Int × Int)) (i : Nat) : List Int := (es.filter fun e => e.1 == (i : Int)).map (·.2)
/-- a graph is valid. -/
def validG (n : Nat) (es : List (Int × Int)) : Bool := decide (n ≤ 1024) && decide (es.length ≤ 4096) && es.all fun e => decide (0 ≤ e.1 ∧ e.1 < n ∧ 0 ≤ e.2 ∧ e.2 < n)

theorem sucs_length (n : Nat) (es : List (Int × Int)) : (sucs n es).length = n := by simp [sucs]
theorem sucs_get (n : Nat) (es : List (Int × Int)) (i : Nat) (h : i < n) : (sucs n es)[i]? = some (sucL n es i) := by simp [sucs, h]
theorem sucs_getD (n : Nat) (es : List (Int × Int)) (i : Nat) (h : i < n) : (sucs n es).getD i [] = sucL n es i := by rw [List.getD_eq_getElem?_getD, sucs_get n es i h]; rfl
theorem mem_sucL {n : Nat} {es : List (Int × Int)} {i k : Nat} : k ∈ sucL n es i ↔ k < n ∧ ((i : Int), (k : Int)) ∈ es := by simp [sucL]
theorem sucL_length (n : Nat) (es : List (Int × Int)) (i : Nat) : (sucL n es i).length ≤ n := by
  unfold sucL
  have := List.length_filter_le (fun k : Nat => es.contains ((i : Int), (k : Int))) (List.range n)
  simpa using this
theorem sucL_sorted (n : Nat) (es : List (Int × Int)) (i : Nat) : (sucL n es i).Pairwise (· < ·) := List.Pairwise.filter _ List.pairwise_lt_range

theorem rawL_snoc (es : List (Int × Int)) (e : Int × Int) (i : Nat) : rawL (es ++ [e]) i = if e.1 = (i : Int) then rawL es i ++ [e.2] else rawL es i := by
  unfold rawL
  rw [List.filter_append]
  by_cases h : e.1 = (i : Int) <;> simp [h]
theorem mem_rawL {es : List (Int × Int)} {i : Nat} {x : Int} : x ∈ rawL es i ↔ ((i : Int), x) ∈ es := by
  unfold rawL
  rw [List.mem_map]
  constructor
  · rintro ⟨⟨a, b⟩, h, rfl⟩
    rw [List.mem_filter] at h
    have : a = (i : Int) := by simpa using h.2
    subst this
    exact h.1
  · intro h
    exact ⟨((i : Int), x), List.mem_filter.2 ⟨h, by simp⟩, rfl⟩

/-- two lists that increase and have the same members are one. -/
theorem incr_ext : ∀ {a b : List Int}, a.Pairwise (· < ·) → b.Pairwise (· < ·) → (∀ x, x ∈ a ↔ x ∈ b) → a = b
  | [], [], _, _, _ => rfl
  | [], y :: b, _, _, h => by have := (h y).2 (by simp); simp at this
  | x :: a, [], _, _, h => by have := (h x).1 (by simp); simp at this
  | x :: a, y :: b, ha, hb, h => by
    rw [List.pairwise_cons] at ha hb
    have hxy : x = y := by
      have h1 := (h x).1 (by simp)
      have h2 := (h y).2 (by simp)
      rcases List.mem_cons.1 h1 with h1 | h1
      · exact h1
      · rcases List.mem_cons.1 h2 with h2 | h2
        · exact h2.symm
        · have := hb.1 x h1
          have := ha.1 y h2
          omega
    subst hxy
    congr 1
    refine incr_ext ha.2 hb.2 fun z => ?_
    have := h z
    constructor
    · intro hz
      rcases List.mem_cons.1 (this.1 (by simp [hz])) with e | e
      · have := ha.1 z hz; omega
      · exact e
    · intro hz
      rcases List.mem_cons.1 (this.2 (by simp [hz])) with e | e
      · have := hb.1 z hz; omega
      · exact e

/-- what is sorted increases, once compacted. -/
theorem compactUpTo_incr (d : Array Int) (hs : ∀ i j, i ≤ j → j < d.size → d[i]! ≤ d[j]!) : ∀ m, m ≤ d.size →
    (compactUpTo d m).Pairwise (· < ·) ∧ (∀ x ∈ compactUpTo d m, ∃ j, j < m ∧ d[j]! = x) ∧ (∀ j, j < m → d[j]! ∈ compactUpTo d m)
  | 0, _ => by simp [compactUpTo]
  | m + 1, hm => by
    obtain ⟨h1, h2, h3⟩ := compactUpTo_incr d hs m (by omega)
    rw [compactUpTo_succ]
    by_cases hk : keeps d m = true
    · rw [if_pos hk]
      refine ⟨?_, ?_, ?_⟩
      · rw [List.pairwise_append]
        refine ⟨h1, by simp, fun x hx y hy => ?_⟩
        obtain ⟨j, hj, rfl⟩ := h2 x hx
        rw [List.mem_singleton] at hy
        subst hy
        unfold keeps at hk
        simp only [decide_eq_true_eq] at hk
        have h0 : d[m]! ≠ d[m - 1]! := by rcases hk with hk | hk
                                          · omega
                                          · exact hk
        have ha := hs j (m - 1) (by omega) (by omega)
        have hb := hs (m - 1) m (by omega) (by omega)
        omega
      · intro x hx
        rcases List.mem_append.1 hx with hx | hx
        · obtain ⟨j, hj, e⟩ := h2 x hx; exact ⟨j, by omega, e⟩
        · rw [List.mem_singleton] at hx; exact ⟨m, by omega, hx.symm⟩
      · intro j hj
        by_cases e : j = m
        · subst e; simp
        · exact List.mem_append_left _ (h3 j (by omega))
    · rw [if_neg hk, List.append_nil]
      refine ⟨h1, fun x hx => ?_, fun j hj => ?_⟩
      · obtain ⟨j, hj, e⟩ := h2 x hx; exact ⟨j, by omega, e⟩
      · by_cases e : j = m
        · subst e
          unfold keeps at hk
          simp only [decide_eq_true_eq, not_or, ne_eq, Decidable.not_not] at hk
          rw [hk.2]
          exact h3 (j - 1) (by omega)
        · exact h3 j (by omega)

theorem compact_sort (l : List Int) (t : List Int) (ht : t.Pairwise (· < ·)) (hm : ∀ x, x ∈ t ↔ x ∈ l) : compact (l.mergeSort fun x y => decide (x ≤ y)) = t := by
  have hp := List.mergeSort_perm l (fun x y => decide (x ≤ y))
  have hs := List.pairwise_mergeSort (le := fun (x y : Int) => decide (x ≤ y)) (fun a b c h1 h2 => by simp at *; omega) (fun a b => by simp; omega) l
  generalize l.mergeSort (fun x y => decide (x ≤ y)) = s at *
  have hsz : s.toArray.size = s.length := by simp
  have key := compactUpTo_incr s.toArray (fun i j hij hj => by
    have hj' : j < s.length := by simpa using hj
    rw [getElem!_pos s.toArray i (by simp; omega), getElem!_pos s.toArray j (by simpa using hj')]
    simp only [List.getElem_toArray]
    by_cases e : i = j
    · subst e; exact Int.le_refl _
    · have := List.pairwise_iff_getElem.1 hs i j (by omega) hj' (by omega)
      simpa using this) s.length (by simp)
  unfold compact
  refine incr_ext key.1 ht fun x => ?_
  rw [hm, ← hp.mem_iff]
  constructor
  · intro hx
    obtain ⟨j, hj, e⟩ := key.2.1 x hx
    rw [getElem!_pos s.toArray j (by simpa using hj)] at e
    simp only [List.getElem_toArray] at e
    rw [← e]
    exact List.getElem_mem hj
  · intro hx
    obtain ⟨j, hj, e⟩ := List.getElem_of_mem hx
    have := key.2.2 j hj
    rw [getElem!_pos s.toArray j (by simpa using hj)] at this
    simp only [List.getElem_toArray] at this
    rwa [e] at this

theorem validG_edge {n : Nat} {es : List (Int × Int)} (h : validG n es = true) {e : Int × Int} (he : e ∈ es) : 0 ≤ e.1 ∧ e.1 < n ∧ 0 ≤ e.2 ∧ e.2 < n := by
  unfold validG at h
  simp only [Bool.and_eq_true, List.all_eq_true, decide_eq_true_eq] at h
  exact h.2 e he
theorem validG_n {n : Nat} {es : List (Int × Int)} (h : validG n es = true) : n ≤ 1024 ∧ es.length ≤ 4096 := by
  unfold validG at h
  simp only [Bool.and_eq_true, decide_eq_true_eq] at h
  exact h.1
/-- sorted and compacted, the ends are the successors. -/
theorem compact_raw {n : Nat} {es : List (Int × Int)} (h : validG n es = true) (i : Nat) : compact ((rawL es i).mergeSort fun x y => decide (x ≤ y)) = ((sucL n es i).map Int.ofNat) := by
  refine compact_sort _ _ ?_ fun x => ?_
  · rw [List.pairwise_map]
    exact (sucL_sorted n es i).imp fun h => Int.ofNat_lt.2 h
  · rw [mem_rawL, List.mem_map]
    constructor
    · rintro ⟨k, hk, rfl⟩
      exact (mem_sucL.1 hk).2
    · intro hx
      have := validG_edge h hx
      have e : ((x.toNat : Nat) : Int) = x := by omega
      refine ⟨x.toNat, mem_sucL.2 ⟨by omega, ?_⟩, e⟩
      rw [e]
      exact hx
end Go.Proofs.YtenfkejbndifdaaGreatDoor

namespace Go.Proofs.YtenfkejbndifdaaGreatDoor
set_option linter.unusedVariables false
set_option linter.unusedSimpArgs false

/-- a way leads from a node to another one. -/
inductive Rch (S : List (List Nat)) : Nat → Nat → Prop
  | refl (a : Nat) : Rch S a a
  | step {a b c : Nat} : b ∈ S.getD a [] → Rch S b c → Rch S a c
theorem Rch.trans {S : List (List Nat)} {a b c : Nat} (h : Rch S a b) (k : Rch S b c) : Rch S a c := by
  induction h with
  | refl => exact k
  | step hb _ ih => exact .step hb (ih k)

/-- the nodes that have been seen grow. -/
def Mono (a b : List Bool) : Prop := a.length = b.length ∧ ∀ i : Nat, a[i]? = some true → b[i]? = some true
theorem Mono.refl (a : List Bool) : Mono a a := ⟨rfl, fun _ h => h⟩
theorem Mono.trans {a b c : List Bool} (h : Mono a b) (k : Mono b c) : Mono a c := ⟨h.1.trans k.1, fun i hi => k.2 i (h.2 i hi)⟩

/-- what a visit of a node leaves. -/
def VisR (S : List (List Nat)) (seen : List Bool) (n : Nat) (seen' : List Bool) : Prop :=
  Mono seen seen' ∧ seen'[n]? = some true ∧ ∀ a : Nat, seen'[a]? = some true → seen[a]? ≠ some true → Rch S n a ∧ ∀ k ∈ S.getD a [], seen'[k]? = some true
/-- what the visits of some nodes leave. -/
def VisL (S : List (List Nat)) (s0 : List Bool) (pre : List Nat) (sn : List Bool) : Prop :=
  Mono s0 sn ∧ (∀ k ∈ pre, sn[k]? = some true) ∧ ∀ a : Nat, sn[a]? = some true → s0[a]? ≠ some true → (∃ k ∈ pre, Rch S k a) ∧ ∀ k ∈ S.getD a [], sn[k]? = some true

theorem VisL.nil (S : List (List Nat)) (s0 : List Bool) : VisL S s0 [] s0 := ⟨Mono.refl _, by simp, fun a h1 h2 => absurd h1 h2⟩
theorem VisL.snoc {S : List (List Nat)} {s0 sn sn' : List Bool} {pre : List Nat} {k : Nat} (h : VisL S s0 pre sn) (hv : VisR S sn k sn') : VisL S s0 (pre ++ [k]) sn' := by
  obtain ⟨h1, h2, h3⟩ := h
  obtain ⟨v1, v2, v3⟩ := hv
  refine ⟨h1.trans v1, fun j hj => ?_, fun a ha hna => ?_⟩
  · rcases List.mem_append.1 hj with hj | hj
    · exact v1.2 _ (h2 j hj)
    · rw [List.mem_singleton] at hj; rw [hj]; exact v2
  · by_cases hs : sn[a]? = some true
    · obtain ⟨⟨j, hj, hr⟩, hc⟩ := h3 a hs hna
      exact ⟨⟨j, by simp [hj], hr⟩, fun i hi => v1.2 _ (hc i hi)⟩
    · obtain ⟨hr, hc⟩ := v3 a ha hs
      exact ⟨⟨k, by simp, hr⟩, hc⟩
theorem VisR.seen {S : List (List Nat)} {seen : List Bool} {n : Nat} (h : seen[n]? = some true) : VisR S seen n seen := ⟨Mono.refl _, h, fun a h1 h2 => absurd h1 h2⟩
theorem VisR.done {S : List (List Nat)} {seen sn : List Bool} {n : Nat} (h : seen[n]? = some false) (hl : VisL S (seen.set n true) (S.getD n []) sn) : VisR S seen n sn := by
  obtain ⟨h1, h2, h3⟩ := hl
  have hn : n < seen.length := (List.getElem?_eq_some_iff.1 h).1
  have hnn : (seen.set n true)[n]? = some true := List.getElem?_set_self hn
  refine ⟨⟨by rw [← h1.1, List.length_set], fun i hi => ?_⟩, h1.2 _ hnn, fun a ha hna => ?_⟩
  · refine h1.2 _ ?_
    by_cases e : i = n
    · subst e; exact hnn
    · rw [List.getElem?_set_ne (Ne.symm e)]; exact hi
  · by_cases e : a = n
    · subst e
      exact ⟨.refl _, h2⟩
    · obtain ⟨⟨k, hk, hr⟩, hc⟩ := h3 a ha (by rw [List.getElem?_set_ne (Ne.symm e)]; exact hna)
      exact ⟨.step hk hr, hc⟩

/-- how many have not been seen. -/
def unseen (l : List Bool) : Nat := l.count false
theorem Mono.left : ∀ {a b : List Bool}, Mono a b → unseen b ≤ unseen a
  | [], [], _ => Nat.le_refl _
  | [], _ :: _, h => by have := h.1; simp at this
  | _ :: _, [], h => by have := h.1; simp at this
  | x :: a, y :: b, h => by
    have ih := Mono.left (a := a) (b := b) ⟨by have := h.1; simpa using this, fun i hi => by have := h.2 (i + 1) (by simpa using hi); simpa using this⟩
    unfold unseen at *
    have h0 := h.2 0
    simp at h0
    rw [List.count_cons, List.count_cons]
    cases x <;> cases y <;> simp at h0 ⊢ <;> omega
theorem unseen_set : ∀ (l : List Bool) (n : Nat), l[n]? = some false → unseen (l.set n true) + 1 = unseen l
  | [], n, h => by simp at h
  | x :: l, 0, h => by
    simp at h
    subst h
    simp [unseen]
  | x :: l, n + 1, h => by
    have := unseen_set l n (by simpa using h)
    unfold unseen at *
    rw [List.set_cons_succ, List.count_cons, List.count_cons]
    omega
end Go.Proofs.YtenfkejbndifdaaGreatDoor
