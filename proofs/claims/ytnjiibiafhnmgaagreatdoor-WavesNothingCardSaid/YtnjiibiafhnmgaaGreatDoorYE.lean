/- A slice of slices that a call makes itself, each row of its own. Rows of spans in memory that read as lists of pairs. -/
import Derived.Test.YtnjiibiafhnmgaaGreatDoorYD
import Derived.Laws.OwnMore
import Derived.Sort.OwnSortedInts
import Derived.Deep.OwnRows
import Derived.Outline
import Derived.Shelf.GgClosure.Gives
import Derived.Test.YtnjiibiafhnmgaaGreatDoorYA
import Derived.Maps.Own
import Derived.Maps.OwnOps
import Derived.Maps.OwnSet
import Derived.Maps.Views
import Derived.Maps.RangeWalk
import Derived.Sort.KeysCollected
import Derived.Test.YtnjiibiafhnmgaaGreatDoorQShelf
import Derived.Shelf.SlicesQ.Equal
import Derived.Laws.StructEq
namespace Go.Proofs.YtnjiibiafhnmgaaGreatDoor
set_option linter.unusedVariables false
set_option linter.unusedSimpArgs false
open Go Go.RowKit

abbrev intC (x : Int) : Value := .int .i64 x

theorem own_ne {W : World} {B B' e e' n n' s s' : Nat} {v v' : Value} {xs xs' : List Value} (h : W.ownsRow B e s v n xs) (h' : W.ownsRow B' e' s' v' n' xs') (he : e ≠ e') : v.ownBlock = none ∨ v.ownBlock ≠ v'.ownBlock := by
  rcases h.2 with ⟨rfl, _⟩ | ⟨g, cap, cur, rfl, _, hg, _⟩
  · exact .inl rfl
  · right
    rcases h'.2 with ⟨rfl, _⟩ | ⟨g', cap', cur', rfl, _, hg', _⟩
    · simp [Value.ownBlock]
    · intro h3
      simp [Value.ownBlock] at h3
      subst h3
      rw [hg] at hg'
      simp at hg'
      exact he hg'.2
theorem blk_ne {W : World} {b B e s n t : Nat} {cs : Array Value} {f : Nat × Nat} {v : Value} {xs : List Value} (hb : W.heap[b]? = some (.cells cs t f)) (h : W.ownsRow B e s v n xs) (ht : t ≠ e) : some b ≠ v.ownBlock := by
  rcases h.2 with ⟨rfl, _⟩ | ⟨g, cap, cur, rfl, _, hg, _⟩
  · simp [Value.ownBlock]
  · intro h3
    simp [Value.ownBlock] at h3
    subst h3
    rw [hb] at hg
    simp at hg
    exact ht hg.2.1
theorem own_far {W W' : World} {B e n s : Nat} {v : Value} {xs : List Value} (h : W.ownsRow B e s v n xs) (hk : ∀ k, v.ownBlock = some k → W'.heap[k]? = W.heap[k]?) : W'.ownsRow B e s v n xs := by
  refine ⟨h.1, ?_⟩
  rcases h.2 with h2 | ⟨g, cap, cur, rfl, hb, hg, r⟩
  · exact .inl h2
  · exact .inr ⟨g, cap, cur, rfl, hb, (hk g rfl).trans hg, r⟩
theorem own_cell {W : World} {B e n g cap : Nat} {xs : List Value} (h : W.ownsRow B e 1 (.slice (some ⟨g, 0, none⟩) n cap) n xs) (i : Nat) (x : Value) (hx : xs[i]? = some x) : W.cell? ⟨g, i, none⟩ = some x := by
  have hl := h.1
  have hi : i < xs.length := (List.getElem?_eq_some_iff.1 hx).1
  rw [h.cellAt i (by omega), hx]
theorem own_shape {W : World} {B e n : Nat} {v : Value} {xs : List Value} (h : W.ownsRow B e 1 v n xs) (hn : 0 < n) : ∃ g cap, v = .slice (some ⟨g, 0, none⟩) n cap ∧ B ≤ g ∧ g < W.heap.size ∧ n ≤ cap := by
  rcases h.2 with ⟨_, h0⟩ | ⟨g, cap, cur, hv, hb, hg, hc, _⟩
  · omega
  · exact ⟨g, cap, hv, hb, (Array.getElem?_eq_some_iff.1 hg).1, hc⟩
theorem own_row {α : Type} {enc : α → Value} {W : World} {B e n : Nat} {v : Value} {l : List α} (h : W.ownsRow B e 1 v n (l.map enc)) : n = l.length ∧ RowOf enc W.heap.size v l W := by
  have hl : n = l.length := by have := h.1; simp at this; omega
  subst hl
  refine ⟨rfl, ?_⟩
  rcases h.2 with ⟨rfl, h0⟩ | ⟨g, cap, cur, rfl, hb, hg, hc, _⟩
  · exact .inl ⟨List.length_eq_zero_iff.1 h0, _, _, rfl⟩
  · refine .inr ⟨g, 0, cap, rfl, (Array.getElem?_eq_some_iff.1 hg).1, fun i x hx => ?_⟩
    rw [Nat.zero_add]
    exact own_cell h i _ (by rw [List.getElem?_map, hx]; rfl)

structure Grid (B : Nat) (v : Value) (vs : List Value) (L : List (List Value)) (W : World) : Prop where
  top : W.ownsRow B 120 1 v L.length vs
  row : ∀ (i : Nat) (u : Value) (l : List Value), vs[i]? = some u → L[i]? = some l → W.ownsRow B 3 1 u l.length l
  apart : ∀ (i j : Nat) (u u' : Value) (b : Nat), vs[i]? = some u → vs[j]? = some u' → u.ownBlock = some b → u'.ownBlock = some b → i = j
  base : B ≤ W.heap.size

theorem Grid.len {B : Nat} {v : Value} {vs : List Value} {L : List (List Value)} {W : World} (h : Grid B v vs L W) : vs.length = L.length := by have := h.top.1; omega
theorem Grid.below {B : Nat} {v : Value} {vs : List Value} {L : List (List Value)} {W W' : World} (h : Grid B v vs L W) (hb : Below W.heap.size W W') : Grid B v vs L W' :=
  ⟨own_far h.top (fun k hk => hb.block k (h.top.lt k hk).2), fun i u l hu hl => own_far (h.row i u l hu hl) (fun k hk => hb.block k ((h.row i u l hu hl).lt k hk).2), h.apart, by have := h.base; have := hb.size; omega⟩
theorem Grid.keep {B : Nat} {v : Value} {vs : List Value} {L : List (List Value)} {W W' : World} (h : Grid B v vs L W) (hs : W.heap.size ≤ W'.heap.size) (ht : ∀ k, v.ownBlock = some k → W'.heap[k]? = W.heap[k]?)
    (hr : ∀ (i : Nat) (u : Value) (k : Nat), vs[i]? = some u → u.ownBlock = some k → W'.heap[k]? = W.heap[k]?) : Grid B v vs L W' :=
  ⟨own_far h.top ht, fun i u l hu hl => own_far (h.row i u l hu hl) (fun k hk => hr i u k hu hk), h.apart, by have := h.base; omega⟩
theorem Grid.made (B n : Nat) (W : World) (hB : B ≤ W.heap.size) (hn : n ≤ maxLen) (W' : World) (v : Value) (hv : W'.ownsRow B 120 1 v n (List.replicate n (.slice none 0 0))) (hs : W.heap.size ≤ W'.heap.size) :
    Grid B v (List.replicate n (.slice none 0 0)) (List.replicate n []) W' := by
  refine ⟨by rw [List.length_replicate]; exact hv, fun i u l hu hl => ?_, fun i j u u' b hu _ hb _ => ?_, by omega⟩
  · obtain rfl := (List.eq_of_mem_replicate (List.mem_of_getElem? hu))
    obtain rfl := (List.eq_of_mem_replicate (List.mem_of_getElem? hl))
    exact World.ownsRow_nil _ _ _ _
  · obtain rfl := (List.eq_of_mem_replicate (List.mem_of_getElem? hu))
    simp [Value.ownBlock] at hb

theorem Grid.put {B g n cap : Nat} {vs : List Value} {L : List (List Value)} {W W1 : World} (h : Grid B (.slice (some ⟨g, 0, none⟩) n cap) vs L W) (i : Nat) (u u' : Value) (l l' : List Value) (hn : n = L.length) (hu : vs[i]? = some u) (hl : L[i]? = some l)
    (hgrow : W.grownBy W1 u.ownBlock) (hown : W1.ownsRow B 3 1 u' l'.length l') (hat : u'.ownBlock = u.ownBlock ∨ ∀ k, u'.ownBlock = some k → W.heap.size ≤ k) :
    Grid B (.slice (some ⟨g, 0, none⟩) n cap) (vs.set i u') (L.set i l') (W1.setCell ⟨g, i, none⟩ u') := by
  subst hn
  have hlen := h.len
  have hi : i < vs.length := (List.getElem?_eq_some_iff.1 hu).1
  have hri := h.row i u l hu hl
  have htop1 : W1.ownsRow B 120 1 (.slice (some ⟨g, 0, none⟩) L.length cap) L.length vs := h.top.kept hgrow (own_ne h.top hri (by decide))
  have hst := htop1.stored i u'
  have hsz : W1.heap.size ≤ (W1.setCell ⟨g, i, none⟩ u').heap.size := by simp
  refine ⟨by rw [List.length_set]; exact hst.1, fun j v l2 hv hl2 => ?_, fun j k v v' b hv hv' hb hb' => ?_, by have := h.base; have := hgrow.size; omega⟩
  · by_cases hij : j = i
    · subst hij
      rw [List.getElem?_set_self (by omega)] at hv hl2
      cases hv; cases hl2
      exact hown.kept hst.2 (by have := own_ne hown htop1 (by decide); simpa [Value.ownBlock] using this)
    · rw [List.getElem?_set_ne (Ne.symm hij)] at hv hl2
      have hr := h.row j v l2 hv hl2
      have hr1 : W1.ownsRow B 3 1 v l2.length l2 := hr.kept hgrow (by
        cases hb : v.ownBlock with
        | none => exact .inl rfl
        | some b =>
          right
          intro hb'
          exact hij (h.apart j i v u b hv hu hb hb'.symm))
      exact hr1.kept hst.2 (by have := own_ne hr1 htop1 (by decide); simpa [Value.ownBlock] using this)
  · have key : ∀ (j : Nat) (v : Value) (b : Nat), j ≠ i → (vs.set i u')[j]? = some v → v.ownBlock = some b → u'.ownBlock = some b → False := by
      intro j v b hji hv hb hb'
      rw [List.getElem?_set_ne (Ne.symm hji)] at hv
      rcases hat with hat | hat
      · exact hji (h.apart j i v u b hv hu hb (hat ▸ hb'))
      · have hjl : j < L.length := by have := (List.getElem?_eq_some_iff.1 hv).1; omega
        have := ((h.row j v L[j] hv (by simp [hjl])).lt b hb).2
        have := hat b hb'
        omega
    by_cases hj : j = i
    · by_cases hk : k = i
      · omega
      · subst hj
        rw [List.getElem?_set_self (by omega)] at hv
        cases hv
        exact (key k v' b hk hv' hb' hb).elim
    · by_cases hk : k = i
      · subst hk
        rw [List.getElem?_set_self (by omega)] at hv'
        cases hv'
        exact (key j v b hj hv hb hb').elim
      · rw [List.getElem?_set_ne (Ne.symm hj)] at hv
        rw [List.getElem?_set_ne (Ne.symm hk)] at hv'
        exact h.apart j k v v' b hv hv' hb hb'
theorem Grid.turn {B : Nat} {v : Value} {vs : List Value} {L : List (List Value)} {W W1 : World} (h : Grid B v vs L W) (i : Nat) (u : Value) (l l' : List Value) (hu : vs[i]? = some u) (hl : L[i]? = some l)
    (hgrow : W.grownBy W1 u.ownBlock) (hown : W1.ownsRow B 3 1 u l'.length l') : Grid B v vs (L.set i l') W1 := by
  have hlen := h.len
  have hi : i < vs.length := (List.getElem?_eq_some_iff.1 hu).1
  have hri := h.row i u l hu hl
  refine ⟨by rw [List.length_set]; exact h.top.kept hgrow (own_ne h.top hri (by decide)), fun j v l2 hv hl2 => ?_, h.apart, by have := h.base; have := hgrow.size; omega⟩
  by_cases hij : j = i
  · subst hij
    rw [List.getElem?_set_self (by omega)] at hl2
    cases hl2
    rw [hu] at hv
    cases hv
    exact hown
  · rw [List.getElem?_set_ne (Ne.symm hij)] at hl2
    exact (h.row j v l2 hv hl2).kept hgrow (by
      cases hb : v.ownBlock with
      | none => exact .inl rfl
      | some b =>
        right
        intro hb'
        exact hij (h.apart j i v u b hv hu hb hb'.symm))
theorem Grid.rows {B : Nat} {v : Value} {vs : List Value} {S : List (List Nat)} {W : World} (h : Grid B v vs (S.map (·.map natC)) W) : RowsOf W.heap.size v S W := by
  have hlen := h.len
  simp only [List.length_map] at hlen
  rcases h.top.2 with ⟨rfl, h0⟩ | ⟨g, cap, cur, rfl, hb, hg, hc, _⟩
  · simp only [List.length_map] at h0
    exact .inl ⟨List.length_eq_zero_iff.1 h0, _, _, rfl⟩
  · refine .inr ⟨g, 0, cap, by rw [List.length_map], (Array.getElem?_eq_some_iff.1 hg).1, fun i l hl => ?_⟩
    have hi : i < vs.length := by have := (List.getElem?_eq_some_iff.1 hl).1; omega
    refine ⟨vs[i], ?_, ?_⟩
    · rw [Nat.zero_add]
      exact own_cell h.top i _ (by simp [hi])
    · exact (own_row (h.row i vs[i] (l.map natC) (by simp [hi]) (by rw [List.getElem?_map, hl]; rfl))).2
theorem Grid.shape {B : Nat} {v : Value} {vs : List Value} {L : List (List Value)} {W : World} (h : Grid B v vs L W) : ∃ a c, v = .slice a L.length c := by
  rcases h.top.2 with ⟨rfl, h0⟩ | ⟨g, cap, cur, rfl, _⟩
  · exact ⟨none, 0, by rw [h0]⟩
  · exact ⟨_, _, rfl⟩
-- grid_shape
end Go.Proofs.YtnjiibiafhnmgaaGreatDoor

namespace Go.Proofs.YtnjiibiafhnmgaaGreatDoor
set_option linter.unusedVariables false
set_option linter.unusedSimpArgs false
open Go Go.RowKit Go.Sort

def SpansOf (B : Nat) (v : Value) (es : List (Int × Int)) (W : World) : Prop :=
  ∃ ao cap, v = .slice ao es.length cap ∧ ∀ i x, es[i]? = some x → ∃ b off, ao = some ⟨b, off, none⟩ ∧ b < B ∧ W.cell? ⟨b, off + i * 2, none⟩ = some (intC x.1) ∧ W.cell? ⟨b, off + i * 2 + 1, none⟩ = some (intC x.2)
theorem SpansOf.below {B B' : Nat} {v : Value} {es : List (Int × Int)} {W W' : World} (h : SpansOf B v es W) (hb : Below B' W W') (hB : B ≤ B') : SpansOf B v es W' := by
  obtain ⟨ao, cap, rfl, h⟩ := h
  refine ⟨ao, cap, rfl, fun i x hx => ?_⟩
  obtain ⟨b, off, rfl, hlt, h1, h2⟩ := h i x hx
  exact ⟨b, off, rfl, hlt, (hb.cell (p := ⟨b, off + i * 2, none⟩) (by simp; omega)).trans h1, (hb.cell (p := ⟨b, off + i * 2 + 1, none⟩) (by simp; omega)).trans h2⟩
theorem SpansOf.mono {B B' : Nat} {v : Value} {es : List (Int × Int)} {W : World} (h : SpansOf B v es W) (hB : B ≤ B') : SpansOf B' v es W := by
  obtain ⟨ao, cap, rfl, h⟩ := h
  refine ⟨ao, cap, rfl, fun i x hx => ?_⟩
  obtain ⟨b, off, rfl, hlt, h1, h2⟩ := h i x hx
  exact ⟨b, off, rfl, by omega, h1, h2⟩
def spanCells (es : List (Int × Int)) : List Value := es.flatMap fun x => [intC x.1, intC x.2]
theorem spanCells_snoc (es : List (Int × Int)) (x : Int × Int) : spanCells (es ++ [x]) = spanCells es ++ [intC x.1, intC x.2] := by unfold spanCells; rw [List.flatMap_append]; rfl
theorem spanCells_length (es : List (Int × Int)) : (spanCells es).length = es.length * 2 := by
  induction es with
  | nil => rfl
  | cons x es ih => show (intC x.1 :: intC x.2 :: spanCells es).length = _; simp [ih]; omega
theorem spanCells_get (es : List (Int × Int)) (i : Nat) (x : Int × Int) (h : es[i]? = some x) : (spanCells es)[i * 2]? = some (intC x.1) ∧ (spanCells es)[i * 2 + 1]? = some (intC x.2) := by
  induction es generalizing i with
  | nil => simp at h
  | cons y es ih =>
    cases i with
    | zero => simp at h; subst h; exact ⟨rfl, rfl⟩
    | succ i =>
      have := ih i (by simpa using h)
      have e : ∀ j, (spanCells (y :: es))[j + 2]? = (spanCells es)[j]? := fun j => rfl
      rw [show (i + 1) * 2 = i * 2 + 2 by omega, show i * 2 + 2 + 1 = (i * 2 + 1) + 2 by omega, e, e]
      exact this
theorem own_spans {W : World} {B n : Nat} {v : Value} {es : List (Int × Int)} (h : W.ownsRow B 111 2 v n (spanCells es)) : SpansOf W.heap.size v es W := by
  have hl : n = es.length := by have := h.1; rw [spanCells_length] at this; omega
  subst hl
  rcases h.2 with ⟨rfl, h0⟩ | ⟨g, cap, cur, rfl, hb, hg, hc, _⟩
  · obtain rfl := List.length_eq_zero_iff.1 h0
    exact ⟨none, 0, rfl, fun i x hx => by simp at hx⟩
  · refine ⟨_, cap, rfl, fun i x hx => ⟨g, 0, rfl, (Array.getElem?_eq_some_iff.1 hg).1, ?_, ?_⟩⟩
    · have hi := (List.getElem?_eq_some_iff.1 hx).1
      rw [Nat.zero_add, h.cellAt (i * 2) (by omega)]
      exact (spanCells_get es i x hx).1
    · have hi := (List.getElem?_eq_some_iff.1 hx).1
      rw [Nat.zero_add, h.cellAt (i * 2 + 1) (by omega)]
      exact (spanCells_get es i x hx).2
theorem info_spans : (Tryz.prog.info? 111).map (fun i => (i.zero, i.size, i.bytes)) = some (some (.agg #[.int .i64 0, .int .i64 0]), 2, 16) := by kernel_rfl
theorem set_twoS {W : World} {g t : Nat} {x y x' y' : Value} (h : W.heap[g]? = some (.cells #[x, y] t (0, 0))) : ((W.setCell ⟨g, 0, none⟩ x').setCell ⟨g, 1, none⟩ y').heap[g]? = some (.cells #[x', y'] t (0, 0)) := by
  have h1 := heap_setCell_same W g 0 #[x, y] t x' h
  exact heap_setCell_same _ g 1 _ t y' h1
abbrev spanV (x : Int × Int) : Value := .agg #[intC x.1, intC x.2]
def PredS (g : Nat) (lb : Array Value) (es : List (Int × Int)) (p : Int × Int → Bool) (w : World) : Prop :=
  ∀ (W : World) (x : Int × Int), x ∈ es → Below w.heap.size w W → Calls Tryz.prog g (#[spanV x] ++ lb) W fun e w' => e = .returned (.bool (p x)) ∧ Below w.heap.size w w'
set_option maxRecDepth 100000 in
set_option maxHeartbeats 2000000 in
theorem idx_spanE (g : Nat) (lb : Array Value) (eg : ∀ args w, (callFunc g args).run Tryz.prog w = .ok (.enter g args) w) (p : Int × Int → Bool) (v : Value) (es : List (Int × Int)) (w : World) (hes : es.length ≤ 1000000000) (hE : SpansOf w.heap.size v es w) (hp : PredS g lb es p w) :
    Calls Tryz.prog 189 #[v, .func (.func g) #[] lb] w fun e w' => ∃ r : Int, e = .returned (.int .i64 r) ∧ (0 ≤ r ↔ es.any p = true) ∧ Below w.heap.size w w' := by
  obtain ⟨ao, ec, rfl, hE⟩ := hE
  have HE := Lib.hid hE
  have HP := Lib.hid hp
  clear hE hp
  go_enter Tryz.func189, Tryz.ntmps189
  go_wp2
  go_loopw [8] (fun s wr => ∃ k : Nat, k ≤ es.length ∧ s = .int .i64 k ∧ Hid (Below w.heap.size w wr) ∧ Hid (∀ x ∈ es.take k, p x = false)) (fun s _ => es.length - (intOf s).toNat)
  case atStart => exact ⟨0, by omega, rfl, Lib.hid (Below.refl _ _), Lib.hid (by simp)⟩
  case round =>
    obtain ⟨k, hk, rfl, HB, HA⟩ := hrel
    by_cases hlt : k < es.length
    · have hlt2 : (k : Int) < (es.length : Int) := by omega
      obtain ⟨b, off, rfl, hb, hc1, hc2⟩ := HE.out k es[k] (by simp [hlt])
      have hc1 := (HB.out.cell (p := ⟨b, off + k * 2, none⟩) hb).trans hc1
      have hc2 := (HB.out.cell (p := ⟨b, off + k * 2 + 1, none⟩) hb).trans hc2
      have HT : Hid (es.take (k + 1) = es.take k ++ [es[k]]) := Lib.hid (List.take_succ_eq_append_getElem hlt)
      have hcall := HP.out wr es[k] (List.getElem_mem hlt) HB.out
      have HM : Hid (es[k] ∈ es) := Lib.hid (List.getElem_mem hlt)
      generalize es[k] = x at *
      cases hq : p x with
      | true =>
        rw [hq] at hcall
        have HQ := Lib.hid hq
        clear hq
        go_wp2_with (go_at_fn g; refine hcall.mono ?_; rintro e w' ⟨rfl, hb'⟩)
        go_ret
        exact ⟨_, rfl, ⟨fun _ => by rw [List.any_eq_true]; exact ⟨x, HM.out, HQ.out⟩, fun _ => by omega⟩, hb'⟩
      | false =>
        rw [hq] at hcall
        have HQ := Lib.hid hq
        clear hq
        go_wp2_with (go_at_fn g; refine hcall.mono ?_; rintro e w' ⟨rfl, hb'⟩)
        go_roundw
        case rel =>
          refine ⟨k + 1, by omega, by go_num, Lib.hid hb', Lib.hid ?_⟩
          rw [HT.out]
          intro y hy
          rcases List.mem_append.1 hy with hy | hy
          · exact HA.out y hy
          · rw [List.mem_singleton] at hy; rw [hy]; exact HQ.out
        case measure => simp [intOf]; omega
    · have hkk : k = es.length := by omega
      subst hkk
      rw [List.take_length] at HA
      go_wp2
      go_ret
      refine ⟨-1, rfl, ⟨fun h => by omega, fun h => ?_⟩, HB.out⟩
      rw [List.any_eq_true] at h
      obtain ⟨x, hx, hpx⟩ := h
      rw [HA.out x hx] at hpx
      cases hpx
theorem has_spanE (g : Nat) (lb : Array Value) (eg : ∀ args w, (callFunc g args).run Tryz.prog w = .ok (.enter g args) w) (p : Int × Int → Bool) (v : Value) (es : List (Int × Int)) (w : World) (hes : es.length ≤ 1000000000) (hE : SpansOf w.heap.size v es w) (hp : PredS g lb es p w) :
    Calls Tryz.prog 158 #[v, .func (.func g) #[] lb] w fun e w' => e = .returned (.bool (es.any p)) ∧ Below w.heap.size w w' := by
  have hi := idx_spanE g lb eg p v es w hes hE hp
  generalize es.any p = q at hi ⊢
  have HI := Lib.hid hi
  obtain ⟨ao, ec, rfl, _⟩ := hE
  clear hp eg hi
  go_enter Tryz.func158, Tryz.ntmps158
  go_wp2_with fail
  refine HI.out.mono ?_
  rintro e w' ⟨r, rfl, hr, hb⟩
  cases q with
  | true =>
    have h0 : 0 ≤ r := hr.2 rfl
    clear hr
    go_wp2
    go_ret
    exact ⟨rfl, hb⟩
  | false =>
    have h0 : ¬ 0 ≤ r := fun h => by have := hr.1 h; cases this
    have h1 : decide (0 ≤ r) = false := decide_eq_false h0
    have h2 : r < 0 := by omega
    clear hr
    go_wp2
    go_ret
    exact ⟨rfl, hb⟩
end Go.Proofs.YtnjiibiafhnmgaaGreatDoor

namespace Go.Proofs.YtnjiibiafhnmgaaGreatDoor
set_option linter.unusedVariables false
set_option linter.unusedSimpArgs false
open Go Go.RowKit Go.Maps

def ReadsI (D : DataW Unit) (f : Int → Int) (K : Int → Prop) : Prop :=
  IsMap D ∧ (∀ q, D.atKey (.int .i64 q) (.lit (.int .i64 0)) = .lit (.int .i64 (f q))) ∧ ∀ q, Maps.has D (.int .i64 q) = true ↔ K q
def keyE (E : List (Int × Int)) (q : Int) : Prop := q = 0 ∨ q = 1000000 ∨ ∃ x ∈ E, q = x.1 ∨ q = x.2
def SetsOf (B : Nat) (v : Value) (l : List (List (Int × Int))) (W : World) : Prop :=
  ∃ ao cap, v = .slice ao l.length cap ∧ ∀ i s, l[i]? = some s → ∃ b off r, ao = some ⟨b, off, none⟩ ∧ b < B ∧ W.cell? ⟨b, off + i, none⟩ = some r ∧ SpansOf B r s W
def CollI (D : DataW Unit) (left : Lit → Bool) (ks : List Int) : Prop := ks.Nodup ∧ ∀ x, x ∈ ks ↔ (Maps.has D (.int .i64 x) = true ∧ left (.int .i64 x) = false)
end Go.Proofs.YtnjiibiafhnmgaaGreatDoor

namespace Go.Proofs.YtnjiibiafhnmgaaGreatDoor
set_option linter.unusedVariables false
set_option linter.unusedSimpArgs false
open Go Go.RowKit

def ReqsOf (B : Nat) (v : Value) (l : List ReqL) (W : World) : Prop :=
  ∃ ao cap, v = .slice ao l.length cap ∧ ∀ i q, l[i]? = some q → ∃ b off r, ao = some ⟨b, off, none⟩ ∧ b < B ∧ W.cell? ⟨b, off + i * 2, none⟩ = some (.string q.1) ∧ W.cell? ⟨b, off + i * 2 + 1, none⟩ = some r ∧ SpansOf B r q.2 W
theorem ReqsOf.below {B B' : Nat} {v : Value} {l : List ReqL} {W W' : World} (h : ReqsOf B v l W) (hb : Below B' W W') (hB : B ≤ B') : ReqsOf B v l W' := by
  obtain ⟨ao, cap, rfl, h⟩ := h
  refine ⟨ao, cap, rfl, fun i q hq => ?_⟩
  obtain ⟨b, off, r, rfl, hlt, h1, h2, h3⟩ := h i q hq
  exact ⟨b, off, r, rfl, hlt, (hb.cell (p := ⟨b, off + i * 2, none⟩) (by simp; omega)).trans h1, (hb.cell (p := ⟨b, off + i * 2 + 1, none⟩) (by simp; omega)).trans h2, h3.below hb hB⟩
theorem ReqsOf.mono {B B' : Nat} {v : Value} {l : List ReqL} {W : World} (h : ReqsOf B v l W) (hB : B ≤ B') : ReqsOf B' v l W := by
  obtain ⟨ao, cap, rfl, h⟩ := h
  refine ⟨ao, cap, rfl, fun i q hq => ?_⟩
  obtain ⟨b, off, r, rfl, hlt, h1, h2, h3⟩ := h i q hq
  exact ⟨b, off, r, rfl, by omega, h1, h2, h3.mono hB⟩
theorem ReqsOf.on {w w' : World} {v : Value} {l : List ReqL} (h : ReqsOf w.heap.size v l w) (hb : Below w.heap.size w w') : ReqsOf w'.heap.size v l w' := (h.below hb (Nat.le_refl _)).mono hb.size
def SelsOf (B : Nat) (v : Value) (l : List SelL) (W : World) : Prop :=
  ∃ ao cap, v = .slice ao l.length cap ∧ ∀ i y, l[i]? = some y → ∃ b off, ao = some ⟨b, off, none⟩ ∧ b < B ∧ W.cell? ⟨b, off + i * 4, none⟩ = some (.string y.1) ∧ W.cell? ⟨b, off + i * 4 + 1, none⟩ = some (intC y.2.1) ∧ W.cell? ⟨b, off + i * 4 + 2, none⟩ = some (intC y.2.2.1) ∧ W.cell? ⟨b, off + i * 4 + 3, none⟩ = some (intC y.2.2.2)
theorem SelsOf.below {B B' : Nat} {v : Value} {l : List SelL} {W W' : World} (h : SelsOf B v l W) (hb : Below B' W W') (hB : B ≤ B') : SelsOf B v l W' := by
  obtain ⟨ao, cap, rfl, h⟩ := h
  refine ⟨ao, cap, rfl, fun i q hq => ?_⟩
  obtain ⟨b, off, rfl, hlt, h1, h2, h3, h4⟩ := h i q hq
  have key : ∀ j, W'.cell? ⟨b, j, none⟩ = W.cell? ⟨b, j, none⟩ := fun j => hb.cell (p := ⟨b, j, none⟩) (by simp; omega)
  exact ⟨b, off, rfl, hlt, (key _).trans h1, (key _).trans h2, (key _).trans h3, (key _).trans h4⟩
theorem SelsOf.mono {B B' : Nat} {v : Value} {l : List SelL} {W : World} (h : SelsOf B v l W) (hB : B ≤ B') : SelsOf B' v l W := by
  obtain ⟨ao, cap, rfl, h⟩ := h
  refine ⟨ao, cap, rfl, fun i q hq => ?_⟩
  obtain ⟨b, off, rfl, hlt, h1⟩ := h i q hq
  exact ⟨b, off, rfl, by omega, h1⟩
theorem SelsOf.on {w w' : World} {v : Value} {l : List SelL} (h : SelsOf w.heap.size v l w) (hb : Below w.heap.size w w') : SelsOf w'.heap.size v l w' := (h.below hb (Nat.le_refl _)).mono hb.size
def RelAt (B : Nat) (b o : Nat) (x : RelL) (W : World) : Prop :=
  ∃ r, W.cell? ⟨b, o, none⟩ = some (.string x.path) ∧ W.cell? ⟨b, o + 1, none⟩ = some (intC x.ver.1) ∧ W.cell? ⟨b, o + 2, none⟩ = some (intC x.ver.2.1) ∧ W.cell? ⟨b, o + 3, none⟩ = some (intC x.ver.2.2) ∧ W.cell? ⟨b, o + 4, none⟩ = some r ∧
    W.cell? ⟨b, o + 5, none⟩ = some (.string x.ar) ∧ W.cell? ⟨b, o + 6, none⟩ = some (.string x.ifc) ∧ W.cell? ⟨b, o + 7, none⟩ = some (.string x.cert) ∧ W.cell? ⟨b, o + 8, none⟩ = some (.bool x.yk) ∧ ReqsOf B r x.reqs W
theorem RelAt.below {B B' b o : Nat} {x : RelL} {W W' : World} (h : RelAt B b o x W) (hb : Below B' W W') (hB : B ≤ B') (hlt : b < B') : RelAt B b o x W' := by
  obtain ⟨r, h0, h1, h2, h3, h4, h5, h6, h7, h8, h9⟩ := h
  have key : ∀ j, W'.cell? ⟨b, j, none⟩ = W.cell? ⟨b, j, none⟩ := fun j => hb.cell (p := ⟨b, j, none⟩) hlt
  exact ⟨r, (key _).trans h0, (key _).trans h1, (key _).trans h2, (key _).trans h3, (key _).trans h4, (key _).trans h5, (key _).trans h6, (key _).trans h7, (key _).trans h8, h9.below hb hB⟩
theorem RelAt.mono {B B' b o : Nat} {x : RelL} {W : World} (h : RelAt B b o x W) (hB : B ≤ B') : RelAt B' b o x W := by
  obtain ⟨r, h0, h1, h2, h3, h4, h5, h6, h7, h8, h9⟩ := h
  exact ⟨r, h0, h1, h2, h3, h4, h5, h6, h7, h8, h9.mono hB⟩
def RelsOf (B : Nat) (v : Value) (l : List RelL) (W : World) : Prop :=
  ∃ ao cap, v = .slice ao l.length cap ∧ ∀ i x, l[i]? = some x → ∃ b off, ao = some ⟨b, off, none⟩ ∧ b < B ∧ RelAt B b (off + i * 9) x W
theorem RelsOf.below {B B' : Nat} {v : Value} {l : List RelL} {W W' : World} (h : RelsOf B v l W) (hb : Below B' W W') (hB : B ≤ B') : RelsOf B v l W' := by
  obtain ⟨ao, cap, rfl, h⟩ := h
  refine ⟨ao, cap, rfl, fun i q hq => ?_⟩
  obtain ⟨b, off, rfl, hlt, h1⟩ := h i q hq
  exact ⟨b, off, rfl, hlt, h1.below hb hB (by omega)⟩
theorem RelsOf.mono {B B' : Nat} {v : Value} {l : List RelL} {W : World} (h : RelsOf B v l W) (hB : B ≤ B') : RelsOf B' v l W := by
  obtain ⟨ao, cap, rfl, h⟩ := h
  refine ⟨ao, cap, rfl, fun i q hq => ?_⟩
  obtain ⟨b, off, rfl, hlt, h1⟩ := h i q hq
  exact ⟨b, off, rfl, by omega, h1.mono hB⟩
theorem RelsOf.on {w w' : World} {v : Value} {l : List RelL} (h : RelsOf w.heap.size v l w) (hb : Below w.heap.size w w') : RelsOf w'.heap.size v l w' := (h.below hb (Nat.le_refl _)).mono hb.size
end Go.Proofs.YtnjiibiafhnmgaaGreatDoor

namespace Go.Proofs.YtnjiibiafhnmgaaGreatDoor
set_option linter.unusedVariables false
set_option linter.unusedSimpArgs false
open Go Go.RowKit Go.Shelf Go.Lib

def spanRen : Ren := ⟨fun _ => 215, fun x => if x = 0 then 0 else if x = 3 then 3 else if x = 4 then 4 else if x = 22 then 98 else 111, fun x => x⟩
theorem spanLays8 : SlLaysQ.n8 Tryz.prog spanRen := {
  mixed := by kernel_rfl
  f8 := ⟨Tryz.f215.name, by decide, Tryz.func215.trans (congrArg some (by kernel_rfl))⟩
  t0 := Tryz.underlying0
  a0 := Tryz.isAgg0
  z0 := Tryz.sizeOf0
  v0 := Tryz.zeroValue0
  t3 := Tryz.underlying3
  a3 := Tryz.isAgg3
  z3 := Tryz.sizeOf3
  v3 := Tryz.zeroValue3
  t4 := Tryz.underlying4
  a4 := Tryz.isAgg4
  z4 := Tryz.sizeOf4
  v4 := Tryz.zeroValue4
  t22 := Tryz.underlying98
  a22 := Tryz.isAgg98
  z22 := Tryz.sizeOf98
  v22 := Tryz.zeroValue98 }
def spanC (x : Int × Int) : List Value := [.int .i64 x.1, .int .i64 x.2]
theorem span_neq : NeqAt Tryz.prog 111 (fun x => .agg (spanC x).toArray) (fun x y => x.1 == y.1 && x.2 == y.2) := by
  refine ⟨fun x y w => ?_, GuardAt.agg _ (by kernel_rfl)⟩
  have u3 := Tryz.underlying3
  have a3 := Tryz.isAgg3
  have z3 := Tryz.sizeOf3
  have hS : Tryz.prog.underlying 111 = some (.struct (Tryz.prog.fieldsOf 111)) := by kernel_rfl
  have hp : Tryz.prog.stoodInHeld 111 = false := by kernel_rfl
  simp only [spanC]
  rw [run_neq_struct, show (10000 : Nat) = 9999 + 1 from rfl, run_equalIn_agg w 9999 111 _ _ hS hp]
  simp only [Program.fieldsOf, Tryz.underlying111]
  go_simp
  by_cases h1 : x.fst = y.fst <;> by_cases h2 : x.snd = y.snd <;> simp [h1, h2]
theorem spanEq_eq : ∀ (xs ys : List (Int × Int)), Lib.allEq (fun x y : Int × Int => x.1 == y.1 && x.2 == y.2) xs ys = decide (xs = ys)
  | [], [] => rfl
  | [], _ :: _ => rfl
  | _ :: _, [] => rfl
  | (a, b) :: xs, (c, d) :: ys => by
    simp only [Lib.allEq, spanEq_eq xs ys]
    by_cases h1 : a = c <;> by_cases h2 : b = d <;> by_cases h3 : xs = ys <;> simp [h1, h2, h3]
theorem spans_cells {B b off cap : Nat} {es : List (Int × Int)} {w : World} (h : SpansOf B (.slice (some ⟨b, off, none⟩) es.length cap) es w) : ∀ j, j < es.length → ∀ i v, (spanC es[j]!)[i]? = some v → w.cell? ⟨b, off + j * 2 + i, none⟩ = some v := by
  obtain ⟨ao, c, e, h⟩ := h
  cases e
  intro j hj i v hv
  rw [getElem!_pos es j hj] at hv
  obtain ⟨b', off', e, _, h1, h2⟩ := h j es[j] (by simp [hj])
  cases e
  match i, hv with
  | 0, hv => cases hv; exact h1
  | 1, hv => cases hv; exact h2
  | i + 2, hv => simp [spanC] at hv
set_option maxRecDepth 100000 in
theorem Equal_spans (v u : Value) (B : Nat) (xs ys : List (Int × Int)) (w : World) (hxl : xs.length ≤ 1000000000) (hyl : ys.length ≤ 1000000000) (h1 : SpansOf B v xs w) (h2 : SpansOf B u ys w) :
    Calls Tryz.prog 215 #[v, u] w fun e w' => e = .returned (.bool (decide (xs = ys))) ∧ ∃ q, w' = w.drewN q := by
  have g1 := h1
  have g2 := h2
  obtain ⟨a1, c1, rfl, k1⟩ := h1
  obtain ⟨a2, c2, rfl, k2⟩ := h2
  by_cases hl : xs.length = ys.length
  · by_cases hp : 0 < xs.length
    · obtain ⟨b1, o1, rfl, _⟩ := k1 0 xs[0] (by simp [hp])
      obtain ⟨b2, o2, rfl, _⟩ := k2 0 (ys[0]'(by omega)) (by simp)
      refine (AnyQ.slices_Equal spanLays8 2 Tryz.isAgg111 Tryz.sizeOf111 spanC (fun _ => rfl) _ span_neq b1 o1 xs.length c1 b2 o2 ys.length c2 xs ys w (Nat.le_refl _) (Nat.le_refl _) (by omega) (by omega) (spans_cells g1) (spans_cells g2)).mono ?_
      rintro e w' ⟨rfl, q, rfl⟩
      exact ⟨by rw [List.take_length, List.take_length, spanEq_eq], q, rfl⟩
    · have e1 : xs = [] := List.length_eq_zero_iff.1 (by omega)
      subst e1
      have e2 : ys = [] := List.length_eq_zero_iff.1 (by simpa using hl.symm)
      subst e2
      clear g1 g2 k1 k2 hxl hyl hp hl
      go_enter Tryz.func215, Tryz.ntmps215
      go_wp2_with fail
      go_loopw [13] (fun q wr => q = .int .i64 0 ∧ wr = w) (fun _ _ => 0)
      case atStart => exact ⟨rfl, rfl⟩
      case round =>
        obtain ⟨rfl, rfl⟩ := hrel
        go_wp2_with fail
        go_ret
        exact ⟨rfl, 0, rfl⟩
  · have hne : decide (xs = ys) = false := decide_eq_false fun e => hl (by rw [e])
    rw [hne]
    clear g1 g2 k1 k2 hne
    have hl2 : ¬ ((xs.length : Int) = (ys.length : Int)) := by omega
    have hl3 : decide ((xs.length : Int) = (ys.length : Int)) = false := decide_eq_false hl2
    go_enter Tryz.func215, Tryz.ntmps215
    go_wp2_with fail
    go_ret
    exact ⟨rfl, 0, rfl⟩
end Go.Proofs.YtnjiibiafhnmgaaGreatDoor

namespace Go.Proofs.YtnjiibiafhnmgaaGreatDoor
set_option linter.unusedVariables false
set_option linter.unusedSimpArgs false
open Go

theorem ltB_irrefl (a : ByteArray) : ltB a a = false := by
  unfold ltB
  generalize a.toList = l
  induction l with
  | nil => rfl
  | cons c l ih => simp [Op.bytesLess, ih]
def pathIx (s : List SelL) (p : ByteArray) : Option Nat := s.findIdx? fun z => decide (z.1 = p)
def nodeE (s : List SelL) (i : Nat) (l : List ReqL) : List (Int × Int) := l.filterMap fun q => (pathIx s q.1).map fun k => ((i : Int), (k : Int))
def reqsOf (X : List RelL) (y : SelL) : List ReqL := match findR X y with
  | some r => r.reqs
  | none => []
def edgesK (X : List RelL) (s : List SelL) (k : Nat) : List (Int × Int) := (List.range k).flatMap fun i => nodeE s i (reqsOf X (s.getD i default))
noncomputable def ofV (X : List RelL) (s : List SelL) : (List ByteArray × List (Int × Int)) × Int := open Classical in
  if checkX X ≠ 0 ∨ ¬ incrS s then (([], []), 1)
  else if (s.all fun y => (findR X y).isSome) = true then ((s.map (·.1), edgesK X s s.length), 0)
  else (([], []), 6)
inductive Need (X : List RelL) (roots : List ReqL) (s : List SelL) : ByteArray → Prop
  | root {q : ReqL} (h : q ∈ roots) : Need X roots s q.1
  | step {y : SelL} {q : ReqL} (hy : y ∈ s) (h : Need X roots s y.1) (hq : q ∈ reqsOf X y) : Need X roots s q.1
def metB (s : List SelL) (q : ReqL) : Bool := s.any fun y => decide (y.1 = q.1) && hasB q.2 (1000 * y.2.2.1 + y.2.2.2)
end Go.Proofs.YtnjiibiafhnmgaaGreatDoor
