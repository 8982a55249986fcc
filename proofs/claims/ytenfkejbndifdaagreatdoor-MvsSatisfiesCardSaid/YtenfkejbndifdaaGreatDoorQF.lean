/- A slice of slices that a call makes itself, each row of its own. Rows of spans in memory that read as lists of pairs. A map of numbers that a call makes, read as a function; slices of sets. -/
import Derived.Test.YtenfkejbndifdaaGreatDoorQE
import Derived.Laws.OwnMore
import Derived.Sort.OwnSortedInts
import Derived.Deep.OwnRows
import Derived.Outline
import Derived.Shelf.GgClosure.Gives
import Derived.Test.YtenfkejbndifdaaGreatDoorQA
import Derived.Maps.Own
import Derived.Maps.OwnOps
import Derived.Maps.OwnSet
import Derived.Maps.Views
import Derived.Maps.RangeWalk
import Derived.Sort.KeysCollected
namespace Go.Proofs.YtenfkejbndifdaaGreatDoor
set_option linter.unusedVariables false
set_option linter.unusedSimpArgs false
open Go Go.RowKit

/-- a number as a value. -/
abbrev intC (x : Int) : Value := .int .i64 x

theorem own_ne {W : World} {B B' e e' n n' s s' : Nat} {v v' : Value} {xs xs' : List Value} (h : W.ownsRow B e s v n xs) (h' : W.ownsRow B' e' s' v' n' xs') (he : e ≠ e') : v.ownBlock = none ∨ v.ownBlock ≠ v'.ownBlock := by
  rcases h.2 with ⟨rfl, _⟩ | ⟨g, cap, cur, rfl, _, hg, _⟩
  · exact .inl rfl
  · right
    rcases h'.2 with ⟨rfl, _⟩ | ⟨g', cap', cur', rfl, _, hg', _⟩
    · simp [Value.ownBlock]
    · intro h3
      simp [Value.ownBlock] at h3
      subst h3
      rw [hg] at hg'
      simp at hg'
      exact he hg'.2
theorem blk_ne {W : World} {b B e s n t : Nat} {cs : Array Value} {f : Nat × Nat} {v : Value} {xs : List Value} (hb : W.heap[b]? = some (.cells cs t f)) (h : W.ownsRow B e s v n xs) (ht : t ≠ e) : some b ≠ v.ownBlock := by
  rcases h.2 with ⟨rfl, _⟩ | ⟨g, cap, cur, rfl, _, hg, _⟩
  · simp [Value.ownBlock]
  · intro h3
    simp [Value.ownBlock] at h3
    subst h3
    rw [hb] at hg
    simp at hg
    exact ht hg.2.1
theorem own_far {W W' : World} {B e n s : Nat} {v : Value} {xs : List Value} (h : W.ownsRow B e s v n xs) (hk : ∀ k, v.ownBlock = some k → W'.heap[k]? = W.heap[k]?) : W'.ownsRow B e s v n xs := by
  refine ⟨h.1, ?_⟩
  rcases h.2 with h2 | ⟨g, cap, cur, rfl, hb, hg, r⟩
  · exact .inl h2
  · exact .inr ⟨g, cap, cur, rfl, hb, (hk g rfl).trans hg, r⟩
/-- what a row holds is read off its cells. -/
theorem own_cell {W : World} {B e n g cap : Nat} {xs : List Value} (h : W.ownsRow B e 1 (.slice (some ⟨g, 0, none⟩) n cap) n xs) (i : Nat) (x : Value) (hx : xs[i]? = some x) : W.cell? ⟨g, i, none⟩ = some x := by
  have hl := h.1
  have hi : i < xs.length := (List.getElem?_eq_some_iff.1 hx).1
  rw [h.cellAt i (by omega), hx]
theorem own_shape {W : World} {B e n : Nat} {v : Value} {xs : List Value} (h : W.ownsRow B e 1 v n xs) (hn : 0 < n) : ∃ g cap, v = .slice (some ⟨g, 0, none⟩) n cap ∧ B ≤ g ∧ g < W.heap.size ∧ n ≤ cap := by
  rcases h.2 with ⟨_, h0⟩ | ⟨g, cap, cur, hv, hb, hg, hc, _⟩
  · omega
  · exact ⟨g, cap, hv, hb, (Array.getElem?_eq_some_iff.1 hg).1, hc⟩
theorem own_row {α : Type} {enc : α → Value} {W : World} {B e n : Nat} {v : Value} {l : List α} (h : W.ownsRow B e 1 v n (l.map enc)) : n = l.length ∧ RowOf enc W.heap.size v l W := by
  have hl : n = l.length := by have := h.1; simp at this; omega
  subst hl
  refine ⟨rfl, ?_⟩
  rcases h.2 with ⟨rfl, h0⟩ | ⟨g, cap, cur, rfl, hb, hg, hc, _⟩
  · exact .inl ⟨List.length_eq_zero_iff.1 h0, _, _, rfl⟩
  · refine .inr ⟨g, 0, cap, rfl, (Array.getElem?_eq_some_iff.1 hg).1, fun i x hx => ?_⟩
    rw [Nat.zero_add]
    exact own_cell h i _ (by rw [List.getElem?_map, hx]; rfl)

/-- a slice of slices: its headers vs, its rows L. -/
structure Grid (B : Nat) (v : Value) (vs : List Value) (L : List (List Value)) (W : World) : Prop where
  top : W.ownsRow B 79 1 v L.length vs
  row : ∀ (i : Nat) (u : Value) (l : List Value), vs[i]? = some u → L[i]? = some l → W.ownsRow B 3 1 u l.length l
  apart : ∀ (i j : Nat) (u u' : Value) (b : Nat), vs[i]? = some u → vs[j]? = some u' → u.ownBlock = some b → u'.ownBlock = some b → i = j
  base : B ≤ W.heap.size

theorem Grid.len {B : Nat} {v : Value} {vs : List Value} {L : List (List Value)} {W : World} (h : Grid B v vs L W) : vs.length = L.length := by have := h.top.1; omega
theorem Grid.below {B : Nat} {v : Value} {vs : List Value} {L : List (List Value)} {W W' : World} (h : Grid B v vs L W) (hb : Below W.heap.size W W') : Grid B v vs L W' :=
  ⟨own_far h.top (fun k hk => hb.block k (h.top.lt k hk).2), fun i u l hu hl => own_far (h.row i u l hu hl) (fun k hk => hb.block k ((h.row i u l hu hl).lt k hk).2), h.apart, by have := h.base; have := hb.size; omega⟩
/-- what turns none of its blocks. -/
theorem Grid.keep {B : Nat} {v : Value} {vs : List Value} {L : List (List Value)} {W W' : World} (h : Grid B v vs L W) (hs : W.heap.size ≤ W'.heap.size) (ht : ∀ k, v.ownBlock = some k → W'.heap[k]? = W.heap[k]?)
    (hr : ∀ (i : Nat) (u : Value) (k : Nat), vs[i]? = some u → u.ownBlock = some k → W'.heap[k]? = W.heap[k]?) : Grid B v vs L W' :=
  ⟨own_far h.top ht, fun i u l hu hl => own_far (h.row i u l hu hl) (fun k hk => hr i u k hu hk), h.apart, by have := h.base; omega⟩
theorem Grid.made (B n : Nat) (W : World) (hB : B ≤ W.heap.size) (hn : n ≤ maxLen) (W' : World) (v : Value) (hv : W'.ownsRow B 79 1 v n (List.replicate n (.slice none 0 0))) (hs : W.heap.size ≤ W'.heap.size) :
    Grid B v (List.replicate n (.slice none 0 0)) (List.replicate n []) W' := by
  refine ⟨by rw [List.length_replicate]; exact hv, fun i u l hu hl => ?_, fun i j u u' b hu _ hb _ => ?_, by omega⟩
  · obtain rfl := (List.eq_of_mem_replicate (List.mem_of_getElem? hu))
    obtain rfl := (List.eq_of_mem_replicate (List.mem_of_getElem? hl))
    exact World.ownsRow_nil _ _ _ _
  · obtain rfl := (List.eq_of_mem_replicate (List.mem_of_getElem? hu))
    simp [Value.ownBlock] at hb

/-- a row's header is written anew, behind what has turned that row alone. -/
theorem Grid.put {B g n cap : Nat} {vs : List Value} {L : List (List Value)} {W W1 : World} (h : Grid B (.slice (some ⟨g, 0, none⟩) n cap) vs L W) (i : Nat) (u u' : Value) (l l' : List Value) (hn : n = L.length) (hu : vs[i]? = some u) (hl : L[i]? = some l)
    (hgrow : W.grownBy W1 u.ownBlock) (hown : W1.ownsRow B 3 1 u' l'.length l') (hat : u'.ownBlock = u.ownBlock ∨ ∀ k, u'.ownBlock = some k → W.heap.size ≤ k) :
    Grid B (.slice (some ⟨g, 0, none⟩) n cap) (vs.set i u') (L.set i l') (W1.setCell ⟨g, i, none⟩ u') := by
  subst hn
  have hlen := h.len
  have hi : i < vs.length := (List.getElem?_eq_some_iff.1 hu).1
  have hri := h.row i u l hu hl
  have htop1 : W1.ownsRow B 79 1 (.slice (some ⟨g, 0, none⟩) L.length cap) L.length vs := h.top.kept hgrow (own_ne h.top hri (by decide))
  have hst := htop1.stored i u'
  have hsz : W1.heap.size ≤ (W1.setCell ⟨g, i, none⟩ u').heap.size := by simp
  refine ⟨by rw [List.length_set]; exact hst.1, fun j v l2 hv hl2 => ?_, fun j k v v' b hv hv' hb hb' => ?_, by have := h.base; have := hgrow.size; omega⟩
  · by_cases hij : j = i
    · subst hij
      rw [List.getElem?_set_self (by omega)] at hv hl2
      cases hv; cases hl2
      exact hown.kept hst.2 (by have := own_ne hown htop1 (by decide); simpa [Value.ownBlock] using this)
    · rw [List.getElem?_set_ne (Ne.symm hij)] at hv hl2
      have hr := h.row j v l2 hv hl2
      have hr1 : W1.ownsRow B 3 1 v l2.length l2 := hr.kept hgrow (by
        cases hb : v.ownBlock with
        | none => exact .inl rfl
        | some b =>
          right
          intro hb'
          exact hij (h.apart j i v u b hv hu hb hb'.symm))
      exact hr1.kept hst.2 (by have := own_ne hr1 htop1 (by decide); simpa [Value.ownBlock] using this)
  · have key : ∀ (j : Nat) (v : Value) (b : Nat), j ≠ i → (vs.set i u')[j]? = some v → v.ownBlock = some b → u'.ownBlock = some b → False := by
      intro j v b hji hv hb hb'
      rw [List.getElem?_set_ne (Ne.symm hji)] at hv
      rcases hat with hat | hat
      · exact hji (h.apart j i v u b hv hu hb (hat ▸ hb'))
      · have hjl : j < L.length := by have := (List.getElem?_eq_some_iff.1 hv).1; omega
        have := ((h.row j v L[j] hv (by simp [hjl])).lt b hb).2
        have := hat b hb'
        omega
    by_cases hj : j = i
    · by_cases hk : k = i
      · omega
      · subst hj
        rw [List.getElem?_set_self (by omega)] at hv
        cases hv
        exact (key k v' b hk hv' hb' hb).elim
    · by_cases hk : k = i
      · subst hk
        rw [List.getElem?_set_self (by omega)] at hv'
        cases hv'
        exact (key j v b hj hv hb hb').elim
      · rw [List.getElem?_set_ne (Ne.symm hj)] at hv
        rw [List.getElem?_set_ne (Ne.symm hk)] at hv'
        exact h.apart j k v v' b hv hv' hb hb'
/-- a row is turned in place. -/
theorem Grid.turn {B : Nat} {v : Value} {vs : List Value} {L : List (List Value)} {W W1 : World} (h : Grid B v vs L W) (i : Nat) (u : Value) (l l' : List Value) (hu : vs[i]? = some u) (hl : L[i]? = some l)
    (hgrow : W.grownBy W1 u.ownBlock) (hown : W1.ownsRow B 3 1 u l'.length l') : Grid B v vs (L.set i l') W1 := by
  have hlen := h.len
  have hi : i < vs.length := (List.getElem?_eq_some_iff.1 hu).1
  have hri := h.row i u l hu hl
  refine ⟨by rw [List.length_set]; exact h.top.kept hgrow (own_ne h.top hri (by decide)), fun j v l2 hv hl2 => ?_, h.apart, by have := h.base; have := hgrow.size; omega⟩
  by_cases hij : j = i
  · subst hij
    rw [List.getElem?_set_self (by omega)] at hl2
    cases hl2
    rw [hu] at hv
    cases hv
    exact hown
  · rw [List.getElem?_set_ne (Ne.symm hij)] at hl2
    exact (h.row j v l2 hv hl2).kept hgrow (by
      cases hb : v.ownBlock with
      | none => exact .inl rfl
      | some b =>
        right
        intro hb'
        exact hij (h.apart j i v u b hv hu hb hb'.symm))
/-- a slice of slices reads as its rows. -/
theorem Grid.rows {B : Nat} {v : Value} {vs : List Value} {S : List (List Nat)} {W : World} (h : Grid B v vs (S.map (·.map natC)) W) : RowsOf W.heap.size v S W := by
  have hlen := h.len
  simp only [List.length_map] at hlen
  rcases h.top.2 with ⟨rfl, h0⟩ | ⟨g, cap, cur, rfl, hb, hg, hc, _⟩
  · simp only [List.length_map] at h0
    exact .inl ⟨List.length_eq_zero_iff.1 h0, _, _, rfl⟩
  · refine .inr ⟨g, 0, cap, by rw [List.length_map], (Array.getElem?_eq_some_iff.1 hg).1, fun i l hl => ?_⟩
    have hi : i < vs.length := by have := (List.getElem?_eq_some_iff.1 hl).1; omega
    refine ⟨vs[i], ?_, ?_⟩
    · rw [Nat.zero_add]
      exact own_cell h.top i _ (by simp [hi])
    · exact (own_row (h.row i vs[i] (l.map natC) (by simp [hi]) (by rw [List.getElem?_map, hl]; rfl))).2
theorem Grid.shape {B : Nat} {v : Value} {vs : List Value} {L : List (List Value)} {W : World} (h : Grid B v vs L W) : ∃ a c, v = .slice a L.length c := by
  rcases h.top.2 with ⟨rfl, h0⟩ | ⟨g, cap, cur, rfl, _⟩
  · exact ⟨none, 0, by rw [h0]⟩
  · exact ⟨_, _, rfl⟩
-- grid_shape
end Go.Proofs.YtenfkejbndifdaaGreatDoor

namespace Go.Proofs.YtenfkejbndifdaaGreatDoor
set_option linter.unusedVariables false
set_option linter.unusedSimpArgs false
open Go Go.RowKit Go.Sort

/-- a slice of edges that reads as a list of pairs. -/
def SpansOf (B : Nat) (v : Value) (es : List (Int × Int)) (W : World) : Prop :=
  ∃ ao cap, v = .slice ao es.length cap ∧ ∀ i x, es[i]? = some x → ∃ b off, ao = some ⟨b, off, none⟩ ∧ b < B ∧ W.cell? ⟨b, off + i * 2, none⟩ = some (intC x.1) ∧ W.cell? ⟨b, off + i * 2 + 1, none⟩ = some (intC x.2)
theorem SpansOf.below {B B' : Nat} {v : Value} {es : List (Int × Int)} {W W' : World} (h : SpansOf B v es W) (hb : Below B' W W') (hB : B ≤ B') : SpansOf B v es W' := by
  obtain ⟨ao, cap, rfl, h⟩ := h
  refine ⟨ao, cap, rfl, fun i x hx => ?_⟩
  obtain ⟨b, off, rfl, hlt, h1, h2⟩ := h i x hx
  exact ⟨b, off, rfl, hlt, (hb.cell (p := ⟨b, off + i * 2, none⟩) (by simp; omega)).trans h1, (hb.cell (p := ⟨b, off + i * 2 + 1, none⟩) (by simp; omega)).trans h2⟩
theorem SpansOf.mono {B B' : Nat} {v : Value} {es : List (Int × Int)} {W : World} (h : SpansOf B v es W) (hB : B ≤ B') : SpansOf B' v es W := by
  obtain ⟨ao, cap, rfl, h⟩ := h
  refine ⟨ao, cap, rfl, fun i x hx => ?_⟩
  obtain ⟨b, off, rfl, hlt, h1, h2⟩ := h i x hx
  exact ⟨b, off, rfl, by omega, h1, h2⟩
/-- the cells of edges. -/
def spanCells (es : List (Int × Int)) : List Value := es.flatMap fun x => [intC x.1, intC x.2]
theorem spanCells_snoc (es : List (Int × Int)) (x : Int × Int) : spanCells (es ++ [x]) = spanCells es ++ [intC x.1, intC x.2] := by unfold spanCells; rw [List.flatMap_append]; rfl
theorem spanCells_length (es : List (Int × Int)) : (spanCells es).length = es.length * 2 := by
  induction es with
  | nil => rfl
  | cons x es ih => show (intC x.1 :: intC x.2 :: spanCells es).length = _; simp [ih]; omega
theorem spanCells_get (es : List (Int × Int)) (i : Nat) (x : Int × Int) (h : es[i]? = some x) : (spanCells es)[i * 2]? = some (intC x.1) ∧ (spanCells es)[i * 2 + 1]? = some (intC x.2) := by
  induction es generalizing i with
  | nil => simp at h
  | cons y es ih =>
    cases i with
    | zero => simp at h; subst h; exact ⟨rfl, rfl⟩
    | succ i =>
      have := ih i (by simpa using h)
      have e : ∀ j, (spanCells (y :: es))[j + 2]? = (spanCells es)[j]? := fun j => rfl
      rw [show (i + 1) * 2 = i * 2 + 2 by omega, show i * 2 + 2 + 1 = (i * 2 + 1) + 2 by omega, e, e]
      exact this
theorem own_spans {W : World} {B n : Nat} {v : Value} {es : List (Int × Int)} (h : W.ownsRow B 133 2 v n (spanCells es)) : SpansOf W.heap.size v es W := by
  have hl : n = es.length := by have := h.1; rw [spanCells_length] at this; omega
  subst hl
  rcases h.2 with ⟨rfl, h0⟩ | ⟨g, cap, cur, rfl, hb, hg, hc, _⟩
  · obtain rfl := List.length_eq_zero_iff.1 h0
    exact ⟨none, 0, rfl, fun i x hx => by simp at hx⟩
  · refine ⟨_, cap, rfl, fun i x hx => ⟨g, 0, rfl, (Array.getElem?_eq_some_iff.1 hg).1, ?_, ?_⟩⟩
    · have hi := (List.getElem?_eq_some_iff.1 hx).1
      rw [Nat.zero_add, h.cellAt (i * 2) (by omega)]
      exact (spanCells_get es i x hx).1
    · have hi := (List.getElem?_eq_some_iff.1 hx).1
      rw [Nat.zero_add, h.cellAt (i * 2 + 1) (by omega)]
      exact (spanCells_get es i x hx).2
theorem info_spans : (Tryz.prog.info? 133).map (fun i => (i.zero, i.size, i.bytes)) = some (some (.agg #[.int .i64 0, .int .i64 0]), 2, 16) := by kernel_rfl
theorem set_twoS {W : World} {g t : Nat} {x y x' y' : Value} (h : W.heap[g]? = some (.cells #[x, y] t (0, 0))) : ((W.setCell ⟨g, 0, none⟩ x').setCell ⟨g, 1, none⟩ y').heap[g]? = some (.cells #[x', y'] t (0, 0)) := by
  have h1 := heap_setCell_same W g 0 #[x, y] t x' h
  exact heap_setCell_same _ g 1 _ t y' h1
/-- an edge as a value. -/
abbrev spanV (x : Int × Int) : Value := .agg #[intC x.1, intC x.2]
/-- a predicate over edges that leaves what was there. -/
def PredS (g : Nat) (lb : Array Value) (es : List (Int × Int)) (p : Int × Int → Bool) (w : World) : Prop :=
  ∀ (W : World) (x : Int × Int), x ∈ es → Below w.heap.size w W → Calls Tryz.prog g (#[spanV x] ++ lb) W fun e w' => e = .returned (.bool (p x)) ∧ Below w.heap.size w w'
set_option maxRecDepth 100000 in
set_option maxHeartbeats 2000000 in
theorem idx_spanE (g : Nat) (lb : Array Value) (eg : ∀ args w, (callFunc g args).run Tryz.prog w = .ok (.enter g args) w) (p : Int × Int → Bool) (v : Value) (es : List (Int × Int)) (w : World) (hes : es.length ≤ 1000000000) (hE : SpansOf w.heap.size v es w) (hp : PredS g lb es p w) :
    Calls Tryz.prog 189 #[v, .func (.func g) #[] lb] w fun e w' => ∃ r : Int, e = .returned (.int .i64 r) ∧ (0 ≤ r ↔ es.any p = true) ∧ Below w.heap.size w w' := by
  obtain ⟨ao, ec, rfl, hE⟩ := hE
  have HE := Lib.hid hE
  have HP := Lib.hid hp
  clear hE hp
  go_enter Tryz.func189, Tryz.ntmps189
  go_wp2
  go_loopw [8] (fun s wr => ∃ k : Nat, k ≤ es.length ∧ s = .int .i64 k ∧ Hid (Below w.heap.size w wr) ∧ Hid (∀ x ∈ es.take k, p x = false)) (fun s _ => es.length - (intOf s).toNat)
  case atStart => exact ⟨0, by omega, rfl, Lib.hid (Below.refl _ _), Lib.hid (by simp)⟩
  case round =>
    obtain ⟨k, hk, rfl, HB, HA⟩ := hrel
    by_cases hlt : k < es.length
    · have hlt2 : (k : Int) < (es.length : Int) := by omega
      obtain ⟨b, off, rfl, hb, hc1, hc2⟩ := HE.out k es[k] (by simp [hlt])
      have hc1 := (HB.out.cell (p := ⟨b, off + k * 2, none⟩) hb).trans hc1
      have hc2 := (HB.out.cell (p := ⟨b, off + k * 2 + 1, none⟩) hb).trans hc2
      have HT : Hid (es.take (k + 1) = es.take k ++ [es[k]]) := Lib.hid (List.take_succ_eq_append_getElem hlt)
      have hcall := HP.out wr es[k] (List.getElem_mem hlt) HB.out
      have HM : Hid (es[k] ∈ es) := Lib.hid (List.getElem_mem hlt)
      generalize es[k] = x at *
      cases hq : p x with
      | true =>
        rw [hq] at hcall
        have HQ := Lib.hid hq
        clear hq
        go_wp2_with (go_at_fn g; refine hcall.mono ?_; rintro e w' ⟨rfl, hb'⟩)
        go_ret
        exact ⟨_, rfl, ⟨fun _ => by rw [List.any_eq_true]; exact ⟨x, HM.out, HQ.out⟩, fun _ => by omega⟩, hb'⟩
      | false =>
        rw [hq] at hcall
        have HQ := Lib.hid hq
        clear hq
        go_wp2_with (go_at_fn g; refine hcall.mono ?_; rintro e w' ⟨rfl, hb'⟩)
        go_roundw
        case rel =>
          refine ⟨k + 1, by omega, by go_num, Lib.hid hb', Lib.hid ?_⟩
          rw [HT.out]
          intro y hy
          rcases List.mem_append.1 hy with hy | hy
          · exact HA.out y hy
          · rw [List.mem_singleton] at hy; rw [hy]; exact HQ.out
        case measure => simp [intOf]; omega
    · have hkk : k = es.length := by omega
      subst hkk
      rw [List.take_length] at HA
      go_wp2
      go_ret
      refine ⟨-1, rfl, ⟨fun h => by omega, fun h => ?_⟩, HB.out⟩
      rw [List.any_eq_true] at h
      obtain ⟨x, hx, hpx⟩ := h
      rw [HA.out x hx] at hpx
      cases hpx
theorem has_spanE (g : Nat) (lb : Array Value) (eg : ∀ args w, (callFunc g args).run Tryz.prog w = .ok (.enter g args) w) (p : Int × Int → Bool) (v : Value) (es : List (Int × Int)) (w : World) (hes : es.length ≤ 1000000000) (hE : SpansOf w.heap.size v es w) (hp : PredS g lb es p w) :
    Calls Tryz.prog 163 #[v, .func (.func g) #[] lb] w fun e w' => e = .returned (.bool (es.any p)) ∧ Below w.heap.size w w' := by
  have hi := idx_spanE g lb eg p v es w hes hE hp
  generalize es.any p = q at hi ⊢
  have HI := Lib.hid hi
  obtain ⟨ao, ec, rfl, _⟩ := hE
  clear hp eg hi
  go_enter Tryz.func163, Tryz.ntmps163
  go_wp2_with fail
  refine HI.out.mono ?_
  rintro e w' ⟨r, rfl, hr, hb⟩
  cases q with
  | true =>
    have h0 : 0 ≤ r := hr.2 rfl
    clear hr
    go_wp2
    go_ret
    exact ⟨rfl, hb⟩
  | false =>
    have h0 : ¬ 0 ≤ r := fun h => by have := hr.1 h; cases this
    have h1 : decide (0 ≤ r) = false := decide_eq_false h0
    have h2 : r < 0 := by omega
    clear hr
    go_wp2
    go_ret
    exact ⟨rfl, hb⟩
end Go.Proofs.YtenfkejbndifdaaGreatDoor

namespace Go.Proofs.YtenfkejbndifdaaGreatDoor
set_option linter.unusedVariables false
set_option linter.unusedSimpArgs false
open Go Go.RowKit Go.Maps

theorem lawI : Keyed Tryz.prog 3 := int_keyed Tryz.underlying3
theorem wfI {a : Int} (h1 : -9223372036854775808 ≤ a) (h2 : a ≤ 9223372036854775807) : (Lit.int .i64 a).wf = true := by
  simp [Lit.wf, IntKind.min, IntKind.max, IntKind.signed, IntKind.bits]
  omega
theorem keyI {a : Int} (h1 : -9223372036854775808 ≤ a) (h2 : a ≤ 9223372036854775807) : keyOf Tryz.prog 3 (.int .i64 a) = some (.int .i64 a) := keyOf_int_mk Tryz.underlying3 (wfI h1 h2)
theorem elI_mk {a : Int} (h1 : -9223372036854775808 ≤ a) (h2 : a ≤ 9223372036854775807) : plainElem (H := Unit) Tryz.prog 3 (.int .i64 a) = some (.lit (.int .i64 a), []) := plainElem_int Tryz.underlying3 (wfI h1 h2)
/-- a map's datum reads as f, with the keys K. -/
def ReadsI (D : DataW Unit) (f : Int → Int) (K : Int → Prop) : Prop :=
  IsMap D ∧ (∀ q, D.atKey (.int .i64 q) (.lit (.int .i64 0)) = .lit (.int .i64 (f q))) ∧ ∀ q, Maps.has D (.int .i64 q) = true ↔ K q
theorem readsI_nil : ReadsI (.map []) (fun _ => 0) (fun _ => False) := ⟨isMap_empty, fun q => rfl, fun q => ⟨(fun h => by cases h), False.elim⟩⟩
theorem ReadsI.put {D : DataW Unit} {f : Int → Int} {K : Int → Prop} (h : ReadsI D f K) (q c : Int) :
    ReadsI (D.put (.int .i64 q) (.lit (.int .i64 c))) (fun x => if x = q then c else f x) (fun x => x = q ∨ K x) := by
  obtain ⟨h1, h2, h3⟩ := h
  refine ⟨h1.put _ _, fun x => ?_, fun x => ?_⟩
  · show _ = DataW.lit (Lit.int .i64 (if x = q then c else f x))
    by_cases hx : x = q
    · subst hx; rw [if_pos rfl]; exact atKey_put_same h1 (by trivial) _ _
    · rw [if_neg hx, atKey_put_other (fun e => hx (by injection e)), h2]
  · by_cases hx : x = q
    · subst hx; exact ⟨fun _ => .inl rfl, fun _ => has_put_same h1 (by trivial) _⟩
    · rw [has_put_other (fun e => hx (by injection e)), h3]
      exact ⟨.inr, fun h => h.resolve_left hx⟩
theorem ReadsI.ext {D : DataW Unit} {f f' : Int → Int} {K K' : Int → Prop} (h : ReadsI D f K) (hf : ∀ x, f x = f' x) (hK : ∀ x, K x ↔ K' x) : ReadsI D f' K' :=
  ⟨h.1, fun q => by rw [h.2.1, hf], fun q => by rw [h.2.2, hK]⟩
theorem ReadsI.at_ {D : DataW Unit} {f : Int → Int} {K : Int → Prop} (h : ReadsI D f K) {q c : Int} (hc : D.atKey (.int .i64 q) (.lit (.int .i64 0)) = .lit (.int .i64 c)) : c = f q := by
  rw [h.2.1] at hc
  injection hc with hc
  injection hc with _ hc
  exact hc.symm
theorem own_below {W W' : World} {B k b n : Nat} {R : Value → Option (DataW Unit × List MemPlace)} {D : DataW Unit} (h : W.ownsMap Tryz.prog k R b n D) (hb : RowKit.Below B W W') (hB : b < B) : W'.ownsMap Tryz.prog k R b n D := by
  obtain ⟨es, clock, h1, h2⟩ := h
  exact ⟨es, clock, (hb.block b hB).trans h1, h2⟩

/-- what a number changes when a span more is told. -/
theorem chgE_snoc (E : List (Int × Int)) (x : Int × Int) (q : Int) : chgE (E ++ [x]) q = chgE E q + ((if x.1 = q then 1 else 0) - (if x.2 = q then 1 else 0)) := by
  unfold chgE
  rw [List.countP_append, List.countP_append]
  by_cases h1 : x.1 = q <;> by_cases h2 : x.2 = q <;> simp [h1, h2] <;> omega
theorem chgE_bd (E : List (Int × Int)) (q : Int) : -(E.length : Int) ≤ chgE E q ∧ chgE E q ≤ E.length := by
  unfold chgE
  have := List.countP_le_length (p := fun x : Int × Int => decide (x.1 = q)) (l := E)
  have := List.countP_le_length (p := fun x : Int × Int => decide (x.2 = q)) (l := E)
  omega
/-- which bounds are told. -/
def keyE (E : List (Int × Int)) (q : Int) : Prop := q = 0 ∨ q = 1000000 ∨ ∃ x ∈ E, q = x.1 ∨ q = x.2
theorem keyE_snoc (E : List (Int × Int)) (x : Int × Int) (q : Int) : keyE (E ++ [x]) q ↔ q = x.2 ∨ q = x.1 ∨ keyE E q := by
  unfold keyE
  constructor
  · rintro (h | h | ⟨y, hy, h⟩)
    · exact .inr (.inr (.inl h))
    · exact .inr (.inr (.inr (.inl h)))
    · rcases List.mem_append.1 hy with hy | hy
      · exact .inr (.inr (.inr (.inr ⟨y, hy, h⟩)))
      · rcases List.mem_singleton.1 hy with rfl
        exact h.elim (fun h => .inr (.inl h)) .inl
  · rintro (h | h | h | h | ⟨y, hy, h⟩)
    · exact .inr (.inr ⟨x, by simp, .inr h⟩)
    · exact .inr (.inr ⟨x, by simp, .inl h⟩)
    · exact .inl h
    · exact .inr (.inl h)
    · exact .inr (.inr ⟨y, by simp [hy], h⟩)
/-- a span's two ends are told. -/
theorem ReadsI.span {D : DataW Unit} {E : List (Int × Int)} {x : Int × Int} {c1 c2 : Int} (h : ReadsI D (chgE E) (keyE E)) (hx : x.1 ≠ x.2)
    (h1 : D.atKey (.int .i64 x.1) (.lit (.int .i64 0)) = .lit (.int .i64 c1))
    (h2 : (D.put (.int .i64 x.1) (.lit (.int .i64 (c1 + 1)))).atKey (.int .i64 x.2) (.lit (.int .i64 0)) = .lit (.int .i64 c2)) :
    ReadsI ((D.put (.int .i64 x.1) (.lit (.int .i64 (c1 + 1)))).put (.int .i64 x.2) (.lit (.int .i64 (c2 - 1)))) (chgE (E ++ [x])) (keyE (E ++ [x])) := by
  have e1 := h.at_ h1
  have e2 := (h.put x.1 (c1 + 1)).at_ h2
  simp only [if_neg (Ne.symm hx)] at e2
  refine ((h.put x.1 (c1 + 1)).put x.2 (c2 - 1)).ext (fun q => ?_) (fun q => (keyE_snoc E x q).symm)
  rw [chgE_snoc]
  by_cases hq2 : q = x.2
  · subst hq2
    rw [if_pos rfl, if_neg hx, if_pos rfl, e2]
    omega
  · rw [if_neg hq2, if_neg (Ne.symm hq2)]
    by_cases hq1 : q = x.1
    · subst hq1
      rw [if_pos rfl, if_pos rfl, e1]
      omega
    · rw [if_neg hq1, if_neg (Ne.symm hq1)]
      omega
theorem spansOf_snoc (l : List (List (Int × Int))) (s : List (Int × Int)) : spansOf (l ++ [s]) = spansOf l ++ canon s := by
  unfold spansOf
  rw [List.flatMap_append]
  simp

/-- a slice of sets that reads as a list of lists. -/
def SetsOf (B : Nat) (v : Value) (l : List (List (Int × Int))) (W : World) : Prop :=
  ∃ ao cap, v = .slice ao l.length cap ∧ ∀ i s, l[i]? = some s → ∃ b off r, ao = some ⟨b, off, none⟩ ∧ b < B ∧ W.cell? ⟨b, off + i, none⟩ = some r ∧ SpansOf B r s W
theorem SetsOf.below {B B' : Nat} {v : Value} {l : List (List (Int × Int))} {W W' : World} (h : SetsOf B v l W) (hb : RowKit.Below B' W W') (hB : B ≤ B') : SetsOf B v l W' := by
  obtain ⟨ao, cap, rfl, h⟩ := h
  refine ⟨ao, cap, rfl, fun i s hs => ?_⟩
  obtain ⟨b, off, r, rfl, hlt, h1, h2⟩ := h i s hs
  exact ⟨b, off, r, rfl, hlt, (hb.cell (p := ⟨b, off + i, none⟩) (by simp; omega)).trans h1, h2.below hb hB⟩
theorem SetsOf.mono {B B' : Nat} {v : Value} {l : List (List (Int × Int))} {W : World} (h : SetsOf B v l W) (hB : B ≤ B') : SetsOf B' v l W := by
  obtain ⟨ao, cap, rfl, h⟩ := h
  refine ⟨ao, cap, rfl, fun i s hs => ?_⟩
  obtain ⟨b, off, r, rfl, hlt, h1, h2⟩ := h i s hs
  exact ⟨b, off, r, rfl, by omega, h1, h2.mono hB⟩

/-- the keys met so far in a range over a map of numbers. -/
def CollI (D : DataW Unit) (left : Lit → Bool) (ks : List Int) : Prop := ks.Nodup ∧ ∀ x, x ∈ ks ↔ (Maps.has D (.int .i64 x) = true ∧ left (.int .i64 x) = false)
theorem CollI.start (D : DataW Unit) : CollI D (Maps.has D) [] := ⟨List.nodup_nil, fun x => by cases Maps.has D (.int .i64 x) <;> simp⟩
theorem CollI.step {D : DataW Unit} {left : Lit → Bool} {ks : List Int} (h : CollI D left ks) {x : Int} {y : DataW Unit} (hlk : left (.int .i64 x) = true) (hat : ∀ zd, D.atKey (.int .i64 x) zd = y) :
    CollI D (fun z => left z && !z.sameKey (.int .i64 x)) (ks ++ [x]) := by
  have hhas : Maps.has D (.int .i64 x) = true := has_true_of_atKey hat
  have hnew : x ∉ ks := fun hx => by have := ((h.2 x).1 hx).2; rw [hlk] at this; cases this
  refine ⟨List.nodup_append.2 ⟨h.1, by simp, fun a ha b hb => by simp at hb; subst hb; exact fun e => hnew (e ▸ ha)⟩, fun y => ?_⟩
  by_cases hy : y = x
  · subst hy; simp [hhas, Lit.sameKey]
  · simp [h.2 y, hy, Lit.sameKey]
theorem sets_one {B b : Nat} {v : Value} {s : List (Int × Int)} {W : World} (hB : b < B) (hc : W.cell? ⟨b, 0, none⟩ = some v) (hE : SpansOf B v s W) : SetsOf B (.slice (some ⟨b, 0, none⟩) 1 1) [s] W :=
  ⟨_, _, rfl, fun i x hx => by
    have hi : i = 0 := by have := (List.getElem?_eq_some_iff.1 hx).1; simpa using this
    subst hi
    cases hx
    exact ⟨b, 0, v, rfl, hB, hc, hE⟩⟩
theorem sets_two {B b : Nat} {v u : Value} {s t : List (Int × Int)} {W : World} (hB : b < B) (hc : W.cell? ⟨b, 0, none⟩ = some v) (hd : W.cell? ⟨b, 1, none⟩ = some u) (hE : SpansOf B v s W) (hF : SpansOf B u t W) : SetsOf B (.slice (some ⟨b, 0, none⟩) 2 2) [s, t] W :=
  ⟨_, _, rfl, fun i x hx => by
    have hi : i < 2 := by have := (List.getElem?_eq_some_iff.1 hx).1; simpa using this
    rcases (show i = 0 ∨ i = 1 by omega) with rfl | rfl
    · cases hx
      exact ⟨b, 0, v, rfl, hB, hc, hE⟩
    · cases hx
      exact ⟨b, 0, u, rfl, hB, hd, hF⟩⟩
theorem own_form {W : World} {B e s n : Nat} {v : Value} {xs : List Value} (h : W.ownsRow B e s v n xs) : ∃ a c, v = .slice a n c := by
  rcases h.2 with ⟨rfl, rfl⟩ | ⟨g, cap, cur, rfl, _⟩
  · exact ⟨_, _, rfl⟩
  · exact ⟨_, _, rfl⟩
end Go.Proofs.YtenfkejbndifdaaGreatDoor
