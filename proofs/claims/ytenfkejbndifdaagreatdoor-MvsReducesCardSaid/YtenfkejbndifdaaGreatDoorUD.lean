/- A region that draws its order inside a round of a range over a function: whatever walks it outside serves there. Rows in memory that read as lists; the graph's successors; the iterator over a row. A slice of slices that a call makes itself, each row of its own. Rows of spans in memory that read as lists of pairs. A map of numbers that a call makes, read as a function; slices of sets. -/
import Derived.OrdersIn
import Derived.OrdersHeld
import Derived.StillTailTactics
import Derived.RangeFuncNested
import Derived.RangeFuncCalls
import Derived.WalkKit
import Derived.Deep.RegionHeld3
import Derived.Test.YtenfkejbndifdaaGreatDoorProg
import Derived.RangeFuncBound
import Derived.RangeFuncLeaves
import Derived.Shelf.Abstract
import Derived.Shelf.RegionOpen
import Derived.OwnWalkIn
import Derived.TacticsInMore
import Derived.LoopNIn
import Derived.LoopIn
import Derived.WalkSpells
import Derived.WalkLawsBesides
import Derived.BigQuiet
import Derived.Deep.QuietTactic
import Derived.Deep.AppendLies
import Derived.Maps.AppendAt
import Derived.Lib.Hide
import Derived.Laws.EntriesVeiled
import Derived.Laws.OwnMore
import Derived.Sort.OwnSortedInts
import Derived.Deep.OwnRows
import Derived.Outline
import Derived.Shelf.GgClosure.Gives
import Derived.Test.YtenfkejbndifdaaGreatDoorUA
import Derived.Maps.Own
import Derived.Maps.OwnOps
import Derived.Maps.OwnSet
import Derived.Maps.Views
import Derived.Maps.RangeWalk
import Derived.Sort.KeysCollected
namespace Go.Proofs.YtenfkejbndifdaaGreatDoor
theorem zl1 {α : Type} {xs : List α} {i : Nat} (h : i < xs.toArray.size) : xs.toArray[i] = xs[i]'(by simpa using h) := rfl
theorem zl2 {α : Type} {a : α} {l : List α} (h : 0 < (a :: l).length) : (a :: l)[0] = a := rfl
theorem zl3 {α : Type} {a : α} {l : List α} {i : Nat} (h : i + 1 < (a :: l).length) : (a :: l)[i + 1] = l[i]'(Nat.lt_of_succ_lt_succ h) := rfl
theorem zl4 {α : Type} (l : List α) (i : Nat) (a : α) : l.toArray.setIfInBounds i a = (l.set i a).toArray := List.setIfInBounds_toArray _ _ _
theorem zl5 {α : Type} {x a : α} {xs : List α} : (x :: xs).set 0 a = a :: xs := rfl
theorem zl6 {α : Type} {x a : α} {xs : List α} {i : Nat} : (x :: xs).set (i + 1) a = x :: xs.set i a := rfl
set_option linter.unusedVariables false
set_option linter.unusedSimpArgs false
open Go Go.RowKit

def calmOps (ops : Array Oper) : Bool := ops.all fun o => match o.op with | .defer _ => false | _ => true

structure Sealed (P : Program) (ops : Array Oper) (w : World) (Q : Act → Prop) (l : List Oper) (a : Act) : Prop where
  out : wpStill P ops w Q l a
def HeldC (a b : Addr) (x y : Value) (W : World) : Prop := W.cell? a = some x ∧ W.cell? b = some y
def HeldR (a b c : Addr) (x y z : Value) (W : World) : Prop := W.cell? a = some x ∧ W.cell? b = some y ∧ W.cell? c = some z
def HeldS (a b c d e f : Addr) (x y z u v q : Value) (W : World) : Prop := W.cell? a = some x ∧ W.cell? b = some y ∧ W.cell? c = some z ∧ W.cell? d = some u ∧ W.cell? e = some v ∧ W.cell? f = some q
end Go.Proofs.YtenfkejbndifdaaGreatDoor

namespace Go.Proofs.YtenfkejbndifdaaGreatDoor
set_option linter.unusedVariables false
set_option linter.unusedSimpArgs false
open Go Go.RowKit

theorem cellA {W : World} {a : Addr} {v : Value} (o : Obj) (h : W.cell? a = some v) : (W.alloc o).cell? a = some v := cell_kept h (World.grownBy_alloc W o none) (fun r e => by cases e)
abbrev natC (k : Nat) : Value := .int .i64 (k : Int)
def RowOf {α : Type} (enc : α → Value) (B : Nat) (v : Value) (l : List α) (W : World) : Prop :=
  (l = [] ∧ ∃ a c, v = .slice a 0 c) ∨ ∃ b off cap, v = .slice (some ⟨b, off, none⟩) l.length cap ∧ b < B ∧ ∀ i x, l[i]? = some x → W.cell? ⟨b, off + i, none⟩ = some (enc x)
def RowsOf (B : Nat) (v : Value) (S : List (List Nat)) (W : World) : Prop :=
  (S = [] ∧ ∃ a c, v = .slice a 0 c) ∨ ∃ b off cap, v = .slice (some ⟨b, off, none⟩) S.length cap ∧ b < B ∧ ∀ i l, S[i]? = some l → ∃ r, W.cell? ⟨b, off + i, none⟩ = some r ∧ RowOf natC B r l W

theorem RowOf.below {α : Type} {enc : α → Value} {B B' : Nat} {v : Value} {l : List α} {W W' : World} (h : RowOf enc B v l W) (hb : Below B' W W') (hB : B ≤ B') : RowOf enc B v l W' := by
  rcases h with h | ⟨b, off, cap, h1, h2, h3⟩
  · exact .inl h
  · exact .inr ⟨b, off, cap, h1, h2, fun i x hx => (hb.cell (p := ⟨b, off + i, none⟩) (by simp; omega)).trans (h3 i x hx)⟩
theorem RowOf.mono {α : Type} {enc : α → Value} {B B' : Nat} {v : Value} {l : List α} {W : World} (h : RowOf enc B v l W) (hB : B ≤ B') : RowOf enc B' v l W := by
  rcases h with h | ⟨b, off, cap, h1, h2, h3⟩
  · exact .inl h
  · exact .inr ⟨b, off, cap, h1, by omega, h3⟩
def ofL (S : List (List Nat)) (node least : Nat) : List Nat := (S.getD node []).filter (fun k => decide (least ≤ k))
def KpB (Bn B0 : Nat) (W W' : World) : Prop := W'.heap[Bn]? = W.heap[Bn]? ∧ Below B0 W W'
end Go.Proofs.YtenfkejbndifdaaGreatDoor

namespace Go.Proofs.YtenfkejbndifdaaGreatDoor
set_option linter.unusedVariables false
set_option linter.unusedSimpArgs false
open Go Go.RowKit

abbrev intC (x : Int) : Value := .int .i64 x

theorem own_ne {W : World} {B B' e e' n n' s s' : Nat} {v v' : Value} {xs xs' : List Value} (h : W.ownsRow B e s v n xs) (h' : W.ownsRow B' e' s' v' n' xs') (he : e ≠ e') : v.ownBlock = none ∨ v.ownBlock ≠ v'.ownBlock := by
  rcases h.2 with ⟨rfl, _⟩ | ⟨g, cap, cur, rfl, _, hg, _⟩
  · exact .inl rfl
  · right
    rcases h'.2 with ⟨rfl, _⟩ | ⟨g', cap', cur', rfl, _, hg', _⟩
    · simp [Value.ownBlock]
    · intro h3
      simp [Value.ownBlock] at h3
      subst h3
      rw [hg] at hg'
      simp at hg'
      exact he hg'.2
theorem own_far {W W' : World} {B e n s : Nat} {v : Value} {xs : List Value} (h : W.ownsRow B e s v n xs) (hk : ∀ k, v.ownBlock = some k → W'.heap[k]? = W.heap[k]?) : W'.ownsRow B e s v n xs := by
  refine ⟨h.1, ?_⟩
  rcases h.2 with h2 | ⟨g, cap, cur, rfl, hb, hg, r⟩
  · exact .inl h2
  · exact .inr ⟨g, cap, cur, rfl, hb, (hk g rfl).trans hg, r⟩
theorem own_cell {W : World} {B e n g cap : Nat} {xs : List Value} (h : W.ownsRow B e 1 (.slice (some ⟨g, 0, none⟩) n cap) n xs) (i : Nat) (x : Value) (hx : xs[i]? = some x) : W.cell? ⟨g, i, none⟩ = some x := by
  have hl := h.1
  have hi : i < xs.length := (List.getElem?_eq_some_iff.1 hx).1
  rw [h.cellAt i (by omega), hx]
theorem own_shape {W : World} {B e n : Nat} {v : Value} {xs : List Value} (h : W.ownsRow B e 1 v n xs) (hn : 0 < n) : ∃ g cap, v = .slice (some ⟨g, 0, none⟩) n cap ∧ B ≤ g ∧ g < W.heap.size ∧ n ≤ cap := by
  rcases h.2 with ⟨_, h0⟩ | ⟨g, cap, cur, hv, hb, hg, hc, _⟩
  · omega
  · exact ⟨g, cap, hv, hb, (Array.getElem?_eq_some_iff.1 hg).1, hc⟩
theorem own_row {α : Type} {enc : α → Value} {W : World} {B e n : Nat} {v : Value} {l : List α} (h : W.ownsRow B e 1 v n (l.map enc)) : n = l.length ∧ RowOf enc W.heap.size v l W := by
  have hl : n = l.length := by have := h.1; simp at this; omega
  subst hl
  refine ⟨rfl, ?_⟩
  rcases h.2 with ⟨rfl, h0⟩ | ⟨g, cap, cur, rfl, hb, hg, hc, _⟩
  · exact .inl ⟨List.length_eq_zero_iff.1 h0, _, _, rfl⟩
  · refine .inr ⟨g, 0, cap, rfl, (Array.getElem?_eq_some_iff.1 hg).1, fun i x hx => ?_⟩
    rw [Nat.zero_add]
    exact own_cell h i _ (by rw [List.getElem?_map, hx]; rfl)

structure Grid (B : Nat) (v : Value) (vs : List Value) (L : List (List Value)) (W : World) : Prop where
  top : W.ownsRow B 79 1 v L.length vs
  row : ∀ (i : Nat) (u : Value) (l : List Value), vs[i]? = some u → L[i]? = some l → W.ownsRow B 3 1 u l.length l
  apart : ∀ (i j : Nat) (u u' : Value) (b : Nat), vs[i]? = some u → vs[j]? = some u' → u.ownBlock = some b → u'.ownBlock = some b → i = j
  base : B ≤ W.heap.size

-- grid_shape
end Go.Proofs.YtenfkejbndifdaaGreatDoor

namespace Go.Proofs.YtenfkejbndifdaaGreatDoor
set_option linter.unusedVariables false
set_option linter.unusedSimpArgs false
open Go Go.RowKit Go.Sort

def SpansOf (B : Nat) (v : Value) (es : List (Int × Int)) (W : World) : Prop :=
  ∃ ao cap, v = .slice ao es.length cap ∧ ∀ i x, es[i]? = some x → ∃ b off, ao = some ⟨b, off, none⟩ ∧ b < B ∧ W.cell? ⟨b, off + i * 2, none⟩ = some (intC x.1) ∧ W.cell? ⟨b, off + i * 2 + 1, none⟩ = some (intC x.2)
theorem SpansOf.below {B B' : Nat} {v : Value} {es : List (Int × Int)} {W W' : World} (h : SpansOf B v es W) (hb : Below B' W W') (hB : B ≤ B') : SpansOf B v es W' := by
  obtain ⟨ao, cap, rfl, h⟩ := h
  refine ⟨ao, cap, rfl, fun i x hx => ?_⟩
  obtain ⟨b, off, rfl, hlt, h1, h2⟩ := h i x hx
  exact ⟨b, off, rfl, hlt, (hb.cell (p := ⟨b, off + i * 2, none⟩) (by simp; omega)).trans h1, (hb.cell (p := ⟨b, off + i * 2 + 1, none⟩) (by simp; omega)).trans h2⟩
theorem SpansOf.mono {B B' : Nat} {v : Value} {es : List (Int × Int)} {W : World} (h : SpansOf B v es W) (hB : B ≤ B') : SpansOf B' v es W := by
  obtain ⟨ao, cap, rfl, h⟩ := h
  refine ⟨ao, cap, rfl, fun i x hx => ?_⟩
  obtain ⟨b, off, rfl, hlt, h1, h2⟩ := h i x hx
  exact ⟨b, off, rfl, by omega, h1, h2⟩
def spanCells (es : List (Int × Int)) : List Value := es.flatMap fun x => [intC x.1, intC x.2]
theorem spanCells_snoc (es : List (Int × Int)) (x : Int × Int) : spanCells (es ++ [x]) = spanCells es ++ [intC x.1, intC x.2] := by unfold spanCells; rw [List.flatMap_append]; rfl
theorem spanCells_length (es : List (Int × Int)) : (spanCells es).length = es.length * 2 := by
  induction es with
  | nil => rfl
  | cons x es ih => show (intC x.1 :: intC x.2 :: spanCells es).length = _; simp [ih]; omega
theorem spanCells_get (es : List (Int × Int)) (i : Nat) (x : Int × Int) (h : es[i]? = some x) : (spanCells es)[i * 2]? = some (intC x.1) ∧ (spanCells es)[i * 2 + 1]? = some (intC x.2) := by
  induction es generalizing i with
  | nil => simp at h
  | cons y es ih =>
    cases i with
    | zero => simp at h; subst h; exact ⟨rfl, rfl⟩
    | succ i =>
      have := ih i (by simpa using h)
      have e : ∀ j, (spanCells (y :: es))[j + 2]? = (spanCells es)[j]? := fun j => rfl
      rw [show (i + 1) * 2 = i * 2 + 2 by omega, show i * 2 + 2 + 1 = (i * 2 + 1) + 2 by omega, e, e]
      exact this
theorem own_spans {W : World} {B n : Nat} {v : Value} {es : List (Int × Int)} (h : W.ownsRow B 133 2 v n (spanCells es)) : SpansOf W.heap.size v es W := by
  have hl : n = es.length := by have := h.1; rw [spanCells_length] at this; omega
  subst hl
  rcases h.2 with ⟨rfl, h0⟩ | ⟨g, cap, cur, rfl, hb, hg, hc, _⟩
  · obtain rfl := List.length_eq_zero_iff.1 h0
    exact ⟨none, 0, rfl, fun i x hx => by simp at hx⟩
  · refine ⟨_, cap, rfl, fun i x hx => ⟨g, 0, rfl, (Array.getElem?_eq_some_iff.1 hg).1, ?_, ?_⟩⟩
    · have hi := (List.getElem?_eq_some_iff.1 hx).1
      rw [Nat.zero_add, h.cellAt (i * 2) (by omega)]
      exact (spanCells_get es i x hx).1
    · have hi := (List.getElem?_eq_some_iff.1 hx).1
      rw [Nat.zero_add, h.cellAt (i * 2 + 1) (by omega)]
      exact (spanCells_get es i x hx).2
theorem info_spans : (Tryz.prog.info? 133).map (fun i => (i.zero, i.size, i.bytes)) = some (some (.agg #[.int .i64 0, .int .i64 0]), 2, 16) := by kernel_rfl
abbrev spanV (x : Int × Int) : Value := .agg #[intC x.1, intC x.2]
def PredS (g : Nat) (lb : Array Value) (es : List (Int × Int)) (p : Int × Int → Bool) (w : World) : Prop :=
  ∀ (W : World) (x : Int × Int), x ∈ es → Below w.heap.size w W → Calls Tryz.prog g (#[spanV x] ++ lb) W fun e w' => e = .returned (.bool (p x)) ∧ Below w.heap.size w w'
set_option maxRecDepth 100000 in
set_option maxHeartbeats 2000000 in
theorem idx_spanE (g : Nat) (lb : Array Value) (eg : ∀ args w, (callFunc g args).run Tryz.prog w = .ok (.enter g args) w) (p : Int × Int → Bool) (v : Value) (es : List (Int × Int)) (w : World) (hes : es.length ≤ 1000000000) (hE : SpansOf w.heap.size v es w) (hp : PredS g lb es p w) :
    Calls Tryz.prog 189 #[v, .func (.func g) #[] lb] w fun e w' => ∃ r : Int, e = .returned (.int .i64 r) ∧ (0 ≤ r ↔ es.any p = true) ∧ Below w.heap.size w w' := by
  obtain ⟨ao, ec, rfl, hE⟩ := hE
  have HE := Lib.hid hE
  have HP := Lib.hid hp
  clear hE hp
  go_enter Tryz.func189, Tryz.ntmps189
  go_wp2
  go_loopw [8] (fun s wr => ∃ k : Nat, k ≤ es.length ∧ s = .int .i64 k ∧ Hid (Below w.heap.size w wr) ∧ Hid (∀ x ∈ es.take k, p x = false)) (fun s _ => es.length - (intOf s).toNat)
  case atStart => exact ⟨0, by omega, rfl, Lib.hid (Below.refl _ _), Lib.hid (by simp)⟩
  case round =>
    obtain ⟨k, hk, rfl, HB, HA⟩ := hrel
    by_cases hlt : k < es.length
    · have hlt2 : (k : Int) < (es.length : Int) := by omega
      obtain ⟨b, off, rfl, hb, hc1, hc2⟩ := HE.out k es[k] (by simp [hlt])
      have hc1 := (HB.out.cell (p := ⟨b, off + k * 2, none⟩) hb).trans hc1
      have hc2 := (HB.out.cell (p := ⟨b, off + k * 2 + 1, none⟩) hb).trans hc2
      have HT : Hid (es.take (k + 1) = es.take k ++ [es[k]]) := Lib.hid (List.take_succ_eq_append_getElem hlt)
      have hcall := HP.out wr es[k] (List.getElem_mem hlt) HB.out
      have HM : Hid (es[k] ∈ es) := Lib.hid (List.getElem_mem hlt)
      generalize es[k] = x at *
      cases hq : p x with
      | true =>
        rw [hq] at hcall
        have HQ := Lib.hid hq
        clear hq
        go_wp2_with (go_at_fn g; refine hcall.mono ?_; rintro e w' ⟨rfl, hb'⟩)
        go_ret
        exact ⟨_, rfl, ⟨fun _ => by rw [List.any_eq_true]; exact ⟨x, HM.out, HQ.out⟩, fun _ => by omega⟩, hb'⟩
      | false =>
        rw [hq] at hcall
        have HQ := Lib.hid hq
        clear hq
        go_wp2_with (go_at_fn g; refine hcall.mono ?_; rintro e w' ⟨rfl, hb'⟩)
        go_roundw
        case rel =>
          refine ⟨k + 1, by omega, by go_num, Lib.hid hb', Lib.hid ?_⟩
          rw [HT.out]
          intro y hy
          rcases List.mem_append.1 hy with hy | hy
          · exact HA.out y hy
          · rw [List.mem_singleton] at hy; rw [hy]; exact HQ.out
        case measure => simp [intOf]; omega
    · have hkk : k = es.length := by omega
      subst hkk
      rw [List.take_length] at HA
      go_wp2
      go_ret
      refine ⟨-1, rfl, ⟨fun h => by omega, fun h => ?_⟩, HB.out⟩
      rw [List.any_eq_true] at h
      obtain ⟨x, hx, hpx⟩ := h
      rw [HA.out x hx] at hpx
      cases hpx
theorem has_spanE (g : Nat) (lb : Array Value) (eg : ∀ args w, (callFunc g args).run Tryz.prog w = .ok (.enter g args) w) (p : Int × Int → Bool) (v : Value) (es : List (Int × Int)) (w : World) (hes : es.length ≤ 1000000000) (hE : SpansOf w.heap.size v es w) (hp : PredS g lb es p w) :
    Calls Tryz.prog 163 #[v, .func (.func g) #[] lb] w fun e w' => e = .returned (.bool (es.any p)) ∧ Below w.heap.size w w' := by
  have hi := idx_spanE g lb eg p v es w hes hE hp
  generalize es.any p = q at hi ⊢
  have HI := Lib.hid hi
  obtain ⟨ao, ec, rfl, _⟩ := hE
  clear hp eg hi
  go_enter Tryz.func163, Tryz.ntmps163
  go_wp2_with fail
  refine HI.out.mono ?_
  rintro e w' ⟨r, rfl, hr, hb⟩
  cases q with
  | true =>
    have h0 : 0 ≤ r := hr.2 rfl
    clear hr
    go_wp2
    go_ret
    exact ⟨rfl, hb⟩
  | false =>
    have h0 : ¬ 0 ≤ r := fun h => by have := hr.1 h; cases this
    have h1 : decide (0 ≤ r) = false := decide_eq_false h0
    have h2 : r < 0 := by omega
    clear hr
    go_wp2
    go_ret
    exact ⟨rfl, hb⟩
end Go.Proofs.YtenfkejbndifdaaGreatDoor

namespace Go.Proofs.YtenfkejbndifdaaGreatDoor
set_option linter.unusedVariables false
set_option linter.unusedSimpArgs false
open Go Go.RowKit Go.Maps

theorem lawI : Keyed Tryz.prog 3 := int_keyed Tryz.underlying3
theorem wfI {a : Int} (h1 : -9223372036854775808 ≤ a) (h2 : a ≤ 9223372036854775807) : (Lit.int .i64 a).wf = true := by
  simp [Lit.wf, IntKind.min, IntKind.max, IntKind.signed, IntKind.bits]
  omega
theorem keyI {a : Int} (h1 : -9223372036854775808 ≤ a) (h2 : a ≤ 9223372036854775807) : keyOf Tryz.prog 3 (.int .i64 a) = some (.int .i64 a) := keyOf_int_mk Tryz.underlying3 (wfI h1 h2)
theorem elI_mk {a : Int} (h1 : -9223372036854775808 ≤ a) (h2 : a ≤ 9223372036854775807) : plainElem (H := Unit) Tryz.prog 3 (.int .i64 a) = some (.lit (.int .i64 a), []) := plainElem_int Tryz.underlying3 (wfI h1 h2)
def ReadsI (D : DataW Unit) (f : Int → Int) (K : Int → Prop) : Prop :=
  IsMap D ∧ (∀ q, D.atKey (.int .i64 q) (.lit (.int .i64 0)) = .lit (.int .i64 (f q))) ∧ ∀ q, Maps.has D (.int .i64 q) = true ↔ K q
theorem readsI_nil : ReadsI (.map []) (fun _ => 0) (fun _ => False) := ⟨isMap_empty, fun q => rfl, fun q => ⟨(fun h => by cases h), False.elim⟩⟩
theorem ReadsI.put {D : DataW Unit} {f : Int → Int} {K : Int → Prop} (h : ReadsI D f K) (q c : Int) :
    ReadsI (D.put (.int .i64 q) (.lit (.int .i64 c))) (fun x => if x = q then c else f x) (fun x => x = q ∨ K x) := by
  obtain ⟨h1, h2, h3⟩ := h
  refine ⟨h1.put _ _, fun x => ?_, fun x => ?_⟩
  · show _ = DataW.lit (Lit.int .i64 (if x = q then c else f x))
    by_cases hx : x = q
    · subst hx; rw [if_pos rfl]; exact atKey_put_same h1 (by trivial) _ _
    · rw [if_neg hx, atKey_put_other (fun e => hx (by injection e)), h2]
  · by_cases hx : x = q
    · subst hx; exact ⟨fun _ => .inl rfl, fun _ => has_put_same h1 (by trivial) _⟩
    · rw [has_put_other (fun e => hx (by injection e)), h3]
      exact ⟨.inr, fun h => h.resolve_left hx⟩
theorem ReadsI.ext {D : DataW Unit} {f f' : Int → Int} {K K' : Int → Prop} (h : ReadsI D f K) (hf : ∀ x, f x = f' x) (hK : ∀ x, K x ↔ K' x) : ReadsI D f' K' :=
  ⟨h.1, fun q => by rw [h.2.1, hf], fun q => by rw [h.2.2, hK]⟩
theorem ReadsI.at_ {D : DataW Unit} {f : Int → Int} {K : Int → Prop} (h : ReadsI D f K) {q c : Int} (hc : D.atKey (.int .i64 q) (.lit (.int .i64 0)) = .lit (.int .i64 c)) : c = f q := by
  rw [h.2.1] at hc
  injection hc with hc
  injection hc with _ hc
  exact hc.symm
theorem own_below {W W' : World} {B k b n : Nat} {R : Value → Option (DataW Unit × List MemPlace)} {D : DataW Unit} (h : W.ownsMap Tryz.prog k R b n D) (hb : RowKit.Below B W W') (hB : b < B) : W'.ownsMap Tryz.prog k R b n D := by
  obtain ⟨es, clock, h1, h2⟩ := h
  exact ⟨es, clock, (hb.block b hB).trans h1, h2⟩

theorem chgE_snoc (E : List (Int × Int)) (x : Int × Int) (q : Int) : chgE (E ++ [x]) q = chgE E q + ((if x.1 = q then 1 else 0) - (if x.2 = q then 1 else 0)) := by
  unfold chgE
  rw [List.countP_append, List.countP_append]
  by_cases h1 : x.1 = q <;> by_cases h2 : x.2 = q <;> simp [h1, h2] <;> omega
theorem chgE_bd (E : List (Int × Int)) (q : Int) : -(E.length : Int) ≤ chgE E q ∧ chgE E q ≤ E.length := by
  unfold chgE
  have := List.countP_le_length (p := fun x : Int × Int => decide (x.1 = q)) (l := E)
  have := List.countP_le_length (p := fun x : Int × Int => decide (x.2 = q)) (l := E)
  omega
def keyE (E : List (Int × Int)) (q : Int) : Prop := q = 0 ∨ q = 1000000 ∨ ∃ x ∈ E, q = x.1 ∨ q = x.2
theorem keyE_snoc (E : List (Int × Int)) (x : Int × Int) (q : Int) : keyE (E ++ [x]) q ↔ q = x.2 ∨ q = x.1 ∨ keyE E q := by
  unfold keyE
  constructor
  · rintro (h | h | ⟨y, hy, h⟩)
    · exact .inr (.inr (.inl h))
    · exact .inr (.inr (.inr (.inl h)))
    · rcases List.mem_append.1 hy with hy | hy
      · exact .inr (.inr (.inr (.inr ⟨y, hy, h⟩)))
      · rcases List.mem_singleton.1 hy with rfl
        exact h.elim (fun h => .inr (.inl h)) .inl
  · rintro (h | h | h | h | ⟨y, hy, h⟩)
    · exact .inr (.inr ⟨x, by simp, .inr h⟩)
    · exact .inr (.inr ⟨x, by simp, .inl h⟩)
    · exact .inl h
    · exact .inr (.inl h)
    · exact .inr (.inr ⟨y, by simp [hy], h⟩)
theorem ReadsI.span {D : DataW Unit} {E : List (Int × Int)} {x : Int × Int} {c1 c2 : Int} (h : ReadsI D (chgE E) (keyE E)) (hx : x.1 ≠ x.2)
    (h1 : D.atKey (.int .i64 x.1) (.lit (.int .i64 0)) = .lit (.int .i64 c1))
    (h2 : (D.put (.int .i64 x.1) (.lit (.int .i64 (c1 + 1)))).atKey (.int .i64 x.2) (.lit (.int .i64 0)) = .lit (.int .i64 c2)) :
    ReadsI ((D.put (.int .i64 x.1) (.lit (.int .i64 (c1 + 1)))).put (.int .i64 x.2) (.lit (.int .i64 (c2 - 1)))) (chgE (E ++ [x])) (keyE (E ++ [x])) := by
  have e1 := h.at_ h1
  have e2 := (h.put x.1 (c1 + 1)).at_ h2
  simp only [if_neg (Ne.symm hx)] at e2
  refine ((h.put x.1 (c1 + 1)).put x.2 (c2 - 1)).ext (fun q => ?_) (fun q => (keyE_snoc E x q).symm)
  rw [chgE_snoc]
  by_cases hq2 : q = x.2
  · subst hq2
    rw [if_pos rfl, if_neg hx, if_pos rfl, e2]
    omega
  · rw [if_neg hq2, if_neg (Ne.symm hq2)]
    by_cases hq1 : q = x.1
    · subst hq1
      rw [if_pos rfl, if_pos rfl, e1]
      omega
    · rw [if_neg hq1, if_neg (Ne.symm hq1)]
      omega
theorem spansOf_snoc (l : List (List (Int × Int))) (s : List (Int × Int)) : spansOf (l ++ [s]) = spansOf l ++ canon s := by
  unfold spansOf
  rw [List.flatMap_append]
  simp

def SetsOf (B : Nat) (v : Value) (l : List (List (Int × Int))) (W : World) : Prop :=
  ∃ ao cap, v = .slice ao l.length cap ∧ ∀ i s, l[i]? = some s → ∃ b off r, ao = some ⟨b, off, none⟩ ∧ b < B ∧ W.cell? ⟨b, off + i, none⟩ = some r ∧ SpansOf B r s W
theorem SetsOf.below {B B' : Nat} {v : Value} {l : List (List (Int × Int))} {W W' : World} (h : SetsOf B v l W) (hb : RowKit.Below B' W W') (hB : B ≤ B') : SetsOf B v l W' := by
  obtain ⟨ao, cap, rfl, h⟩ := h
  refine ⟨ao, cap, rfl, fun i s hs => ?_⟩
  obtain ⟨b, off, r, rfl, hlt, h1, h2⟩ := h i s hs
  exact ⟨b, off, r, rfl, hlt, (hb.cell (p := ⟨b, off + i, none⟩) (by simp; omega)).trans h1, h2.below hb hB⟩
theorem SetsOf.mono {B B' : Nat} {v : Value} {l : List (List (Int × Int))} {W : World} (h : SetsOf B v l W) (hB : B ≤ B') : SetsOf B' v l W := by
  obtain ⟨ao, cap, rfl, h⟩ := h
  refine ⟨ao, cap, rfl, fun i s hs => ?_⟩
  obtain ⟨b, off, r, rfl, hlt, h1, h2⟩ := h i s hs
  exact ⟨b, off, r, rfl, by omega, h1, h2.mono hB⟩

def CollI (D : DataW Unit) (left : Lit → Bool) (ks : List Int) : Prop := ks.Nodup ∧ ∀ x, x ∈ ks ↔ (Maps.has D (.int .i64 x) = true ∧ left (.int .i64 x) = false)
theorem CollI.start (D : DataW Unit) : CollI D (Maps.has D) [] := ⟨List.nodup_nil, fun x => by cases Maps.has D (.int .i64 x) <;> simp⟩
theorem CollI.step {D : DataW Unit} {left : Lit → Bool} {ks : List Int} (h : CollI D left ks) {x : Int} {y : DataW Unit} (hlk : left (.int .i64 x) = true) (hat : ∀ zd, D.atKey (.int .i64 x) zd = y) :
    CollI D (fun z => left z && !z.sameKey (.int .i64 x)) (ks ++ [x]) := by
  have hhas : Maps.has D (.int .i64 x) = true := has_true_of_atKey hat
  have hnew : x ∉ ks := fun hx => by have := ((h.2 x).1 hx).2; rw [hlk] at this; cases this
  refine ⟨List.nodup_append.2 ⟨h.1, by simp, fun a ha b hb => by simp at hb; subst hb; exact fun e => hnew (e ▸ ha)⟩, fun y => ?_⟩
  by_cases hy : y = x
  · subst hy; simp [hhas, Lit.sameKey]
  · simp [h.2 y, hy, Lit.sameKey]
theorem sets_one {B b : Nat} {v : Value} {s : List (Int × Int)} {W : World} (hB : b < B) (hc : W.cell? ⟨b, 0, none⟩ = some v) (hE : SpansOf B v s W) : SetsOf B (.slice (some ⟨b, 0, none⟩) 1 1) [s] W :=
  ⟨_, _, rfl, fun i x hx => by
    have hi : i = 0 := by have := (List.getElem?_eq_some_iff.1 hx).1; simpa using this
    subst hi
    cases hx
    exact ⟨b, 0, v, rfl, hB, hc, hE⟩⟩
theorem sets_two {B b : Nat} {v u : Value} {s t : List (Int × Int)} {W : World} (hB : b < B) (hc : W.cell? ⟨b, 0, none⟩ = some v) (hd : W.cell? ⟨b, 1, none⟩ = some u) (hE : SpansOf B v s W) (hF : SpansOf B u t W) : SetsOf B (.slice (some ⟨b, 0, none⟩) 2 2) [s, t] W :=
  ⟨_, _, rfl, fun i x hx => by
    have hi : i < 2 := by have := (List.getElem?_eq_some_iff.1 hx).1; simpa using this
    rcases (show i = 0 ∨ i = 1 by omega) with rfl | rfl
    · cases hx
      exact ⟨b, 0, v, rfl, hB, hc, hE⟩
    · cases hx
      exact ⟨b, 0, u, rfl, hB, hd, hF⟩⟩
end Go.Proofs.YtenfkejbndifdaaGreatDoor
