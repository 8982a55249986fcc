/- A slice of slices that a call makes itself, each row of its own. -/
import Derived.Test.YtdhihdiifgcfdaaGreatDoorGBase
import Derived.Laws.OwnMore
import Derived.Sort.OwnSortedInts
namespace Go.Proofs.YtdhihdiifgcfdaaGreatDoor
set_option linter.unusedVariables false
set_option linter.unusedSimpArgs false
open Go Go.RowKit

/-- a number as a value. -/
abbrev intC (x : Int) : Value := .int .i64 x

theorem own_ne {W : World} {B B' e e' n n' s s' : Nat} {v v' : Value} {xs xs' : List Value} (h : W.ownsRow B e s v n xs) (h' : W.ownsRow B' e' s' v' n' xs') (he : e ≠ e') : v.ownBlock = none ∨ v.ownBlock ≠ v'.ownBlock := by
  rcases h.2 with ⟨rfl, _⟩ | ⟨g, cap, cur, rfl, _, hg, _⟩
  · exact .inl rfl
  · right
    rcases h'.2 with ⟨rfl, _⟩ | ⟨g', cap', cur', rfl, _, hg', _⟩
    · simp [Value.ownBlock]
    · intro h3
      simp [Value.ownBlock] at h3
      subst h3
      rw [hg] at hg'
      simp at hg'
      exact he hg'.2
theorem blk_ne {W : World} {b B e s n t : Nat} {cs : Array Value} {f : Nat × Nat} {v : Value} {xs : List Value} (hb : W.heap[b]? = some (.cells cs t f)) (h : W.ownsRow B e s v n xs) (ht : t ≠ e) : some b ≠ v.ownBlock := by
  rcases h.2 with ⟨rfl, _⟩ | ⟨g, cap, cur, rfl, _, hg, _⟩
  · simp [Value.ownBlock]
  · intro h3
    simp [Value.ownBlock] at h3
    subst h3
    rw [hb] at hg
    simp at hg
    exact ht hg.2.1
theorem own_far {W W' : World} {B e n s : Nat} {v : Value} {xs : List Value} (h : W.ownsRow B e s v n xs) (hk : ∀ k, v.ownBlock = some k → W'.heap[k]? = W.heap[k]?) : W'.ownsRow B e s v n xs := by
  refine ⟨h.1, ?_⟩
  rcases h.2 with h2 | ⟨g, cap, cur, rfl, hb, hg, r⟩
  · exact .inl h2
  · exact .inr ⟨g, cap, cur, rfl, hb, (hk g rfl).trans hg, r⟩
/-- what a row holds is read off its cells. -/
theorem own_cell {W : World} {B e n g cap : Nat} {xs : List Value} (h : W.ownsRow B e 1 (.slice (some ⟨g, 0, none⟩) n cap) n xs) (i : Nat) (x : Value) (hx : xs[i]? = some x) : W.cell? ⟨g, i, none⟩ = some x := by
  have hl := h.1
  have hi : i < xs.length := (List.getElem?_eq_some_iff.1 hx).1
  rw [h.cellAt i (by omega), hx]
theorem own_shape {W : World} {B e n : Nat} {v : Value} {xs : List Value} (h : W.ownsRow B e 1 v n xs) (hn : 0 < n) : ∃ g cap, v = .slice (some ⟨g, 0, none⟩) n cap ∧ B ≤ g ∧ g < W.heap.size ∧ n ≤ cap := by
  rcases h.2 with ⟨_, h0⟩ | ⟨g, cap, cur, hv, hb, hg, hc, _⟩
  · omega
  · exact ⟨g, cap, hv, hb, (Array.getElem?_eq_some_iff.1 hg).1, hc⟩
theorem own_row {α : Type} {enc : α → Value} {W : World} {B e n : Nat} {v : Value} {l : List α} (h : W.ownsRow B e 1 v n (l.map enc)) : n = l.length ∧ RowOf enc W.heap.size v l W := by
  have hl : n = l.length := by have := h.1; simp at this; omega
  subst hl
  refine ⟨rfl, ?_⟩
  rcases h.2 with ⟨rfl, h0⟩ | ⟨g, cap, cur, rfl, hb, hg, hc, _⟩
  · exact .inl ⟨List.length_eq_zero_iff.1 h0, _, _, rfl⟩
  · refine .inr ⟨g, 0, cap, rfl, (Array.getElem?_eq_some_iff.1 hg).1, fun i x hx => ?_⟩
    rw [Nat.zero_add]
    exact own_cell h i _ (by rw [List.getElem?_map, hx]; rfl)

/-- a slice of slices: its headers vs, its rows L. -/
structure Grid (B : Nat) (v : Value) (vs : List Value) (L : List (List Value)) (W : World) : Prop where
  top : W.ownsRow B 54 1 v L.length vs
  row : ∀ (i : Nat) (u : Value) (l : List Value), vs[i]? = some u → L[i]? = some l → W.ownsRow B 3 1 u l.length l
  apart : ∀ (i j : Nat) (u u' : Value) (b : Nat), vs[i]? = some u → vs[j]? = some u' → u.ownBlock = some b → u'.ownBlock = some b → i = j
  base : B ≤ W.heap.size

theorem Grid.len {B : Nat} {v : Value} {vs : List Value} {L : List (List Value)} {W : World} (h : Grid B v vs L W) : vs.length = L.length := by have := h.top.1; omega
theorem Grid.below {B : Nat} {v : Value} {vs : List Value} {L : List (List Value)} {W W' : World} (h : Grid B v vs L W) (hb : Below W.heap.size W W') : Grid B v vs L W' :=
  ⟨own_far h.top (fun k hk => hb.block k (h.top.lt k hk).2), fun i u l hu hl => own_far (h.row i u l hu hl) (fun k hk => hb.block k ((h.row i u l hu hl).lt k hk).2), h.apart, by have := h.base; have := hb.size; omega⟩
/-- what turns none of its blocks. -/
theorem Grid.keep {B : Nat} {v : Value} {vs : List Value} {L : List (List Value)} {W W' : World} (h : Grid B v vs L W) (hs : W.heap.size ≤ W'.heap.size) (ht : ∀ k, v.ownBlock = some k → W'.heap[k]? = W.heap[k]?)
    (hr : ∀ (i : Nat) (u : Value) (k : Nat), vs[i]? = some u → u.ownBlock = some k → W'.heap[k]? = W.heap[k]?) : Grid B v vs L W' :=
  ⟨own_far h.top ht, fun i u l hu hl => own_far (h.row i u l hu hl) (fun k hk => hr i u k hu hk), h.apart, by have := h.base; omega⟩
theorem Grid.made (B n : Nat) (W : World) (hB : B ≤ W.heap.size) (hn : n ≤ maxLen) (W' : World) (v : Value) (hv : W'.ownsRow B 54 1 v n (List.replicate n (.slice none 0 0))) (hs : W.heap.size ≤ W'.heap.size) :
    Grid B v (List.replicate n (.slice none 0 0)) (List.replicate n []) W' := by
  refine ⟨by rw [List.length_replicate]; exact hv, fun i u l hu hl => ?_, fun i j u u' b hu _ hb _ => ?_, by omega⟩
  · obtain rfl := (List.eq_of_mem_replicate (List.mem_of_getElem? hu))
    obtain rfl := (List.eq_of_mem_replicate (List.mem_of_getElem? hl))
    exact World.ownsRow_nil _ _ _ _
  · obtain rfl := (List.eq_of_mem_replicate (List.mem_of_getElem? hu))
    simp [Value.ownBlock] at hb

/-- a row's header is written anew, behind what has turned that row alone. -/
theorem Grid.put {B g n cap : Nat} {vs : List Value} {L : List (List Value)} {W W1 : World} (h : Grid B (.slice (some ⟨g, 0, none⟩) n cap) vs L W) (i : Nat) (u u' : Value) (l l' : List Value) (hn : n = L.length) (hu : vs[i]? = some u) (hl : L[i]? = some l)
    (hgrow : W.grownBy W1 u.ownBlock) (hown : W1.ownsRow B 3 1 u' l'.length l') (hat : u'.ownBlock = u.ownBlock ∨ ∀ k, u'.ownBlock = some k → W.heap.size ≤ k) :
    Grid B (.slice (some ⟨g, 0, none⟩) n cap) (vs.set i u') (L.set i l') (W1.setCell ⟨g, i, none⟩ u') := by
  subst hn
  have hlen := h.len
  have hi : i < vs.length := (List.getElem?_eq_some_iff.1 hu).1
  have hri := h.row i u l hu hl
  have htop1 : W1.ownsRow B 54 1 (.slice (some ⟨g, 0, none⟩) L.length cap) L.length vs := h.top.kept hgrow (own_ne h.top hri (by decide))
  have hst := htop1.stored i u'
  have hsz : W1.heap.size ≤ (W1.setCell ⟨g, i, none⟩ u').heap.size := by simp
  refine ⟨by rw [List.length_set]; exact hst.1, fun j v l2 hv hl2 => ?_, fun j k v v' b hv hv' hb hb' => ?_, by have := h.base; have := hgrow.size; omega⟩
  · by_cases hij : j = i
    · subst hij
      rw [List.getElem?_set_self (by omega)] at hv hl2
      cases hv; cases hl2
      exact hown.kept hst.2 (by have := own_ne hown htop1 (by decide); simpa [Value.ownBlock] using this)
    · rw [List.getElem?_set_ne (Ne.symm hij)] at hv hl2
      have hr := h.row j v l2 hv hl2
      have hr1 : W1.ownsRow B 3 1 v l2.length l2 := hr.kept hgrow (by
        cases hb : v.ownBlock with
        | none => exact .inl rfl
        | some b =>
          right
          intro hb'
          exact hij (h.apart j i v u b hv hu hb hb'.symm))
      exact hr1.kept hst.2 (by have := own_ne hr1 htop1 (by decide); simpa [Value.ownBlock] using this)
  · have key : ∀ (j : Nat) (v : Value) (b : Nat), j ≠ i → (vs.set i u')[j]? = some v → v.ownBlock = some b → u'.ownBlock = some b → False := by
      intro j v b hji hv hb hb'
      rw [List.getElem?_set_ne (Ne.symm hji)] at hv
      rcases hat with hat | hat
      · exact hji (h.apart j i v u b hv hu hb (hat ▸ hb'))
      · have hjl : j < L.length := by have := (List.getElem?_eq_some_iff.1 hv).1; omega
        have := ((h.row j v L[j] hv (by simp [hjl])).lt b hb).2
        have := hat b hb'
        omega
    by_cases hj : j = i
    · by_cases hk : k = i
      · omega
      · subst hj
        rw [List.getElem?_set_self (by omega)] at hv
        cases hv
        exact (key k v' b hk hv' hb' hb).elim
    · by_cases hk : k = i
      · subst hk
        rw [List.getElem?_set_self (by omega)] at hv'
        cases hv'
        exact (key j v b hj hv hb hb').elim
      · rw [List.getElem?_set_ne (Ne.symm hj)] at hv
        rw [List.getElem?_set_ne (Ne.symm hk)] at hv'
        exact h.apart j k v v' b hv hv' hb hb'
/-- a row is turned in place. -/
theorem Grid.turn {B : Nat} {v : Value} {vs : List Value} {L : List (List Value)} {W W1 : World} (h : Grid B v vs L W) (i : Nat) (u : Value) (l l' : List Value) (hu : vs[i]? = some u) (hl : L[i]? = some l)
    (hgrow : W.grownBy W1 u.ownBlock) (hown : W1.ownsRow B 3 1 u l'.length l') : Grid B v vs (L.set i l') W1 := by
  have hlen := h.len
  have hi : i < vs.length := (List.getElem?_eq_some_iff.1 hu).1
  have hri := h.row i u l hu hl
  refine ⟨by rw [List.length_set]; exact h.top.kept hgrow (own_ne h.top hri (by decide)), fun j v l2 hv hl2 => ?_, h.apart, by have := h.base; have := hgrow.size; omega⟩
  by_cases hij : j = i
  · subst hij
    rw [List.getElem?_set_self (by omega)] at hl2
    cases hl2
    rw [hu] at hv
    cases hv
    exact hown
  · rw [List.getElem?_set_ne (Ne.symm hij)] at hl2
    exact (h.row j v l2 hv hl2).kept hgrow (by
      cases hb : v.ownBlock with
      | none => exact .inl rfl
      | some b =>
        right
        intro hb'
        exact hij (h.apart j i v u b hv hu hb hb'.symm))
/-- a slice of slices reads as its rows. -/
theorem Grid.rows {B : Nat} {v : Value} {vs : List Value} {S : List (List Nat)} {W : World} (h : Grid B v vs (S.map (·.map natC)) W) : RowsOf W.heap.size v S W := by
  have hlen := h.len
  simp only [List.length_map] at hlen
  rcases h.top.2 with ⟨rfl, h0⟩ | ⟨g, cap, cur, rfl, hb, hg, hc, _⟩
  · simp only [List.length_map] at h0
    exact .inl ⟨List.length_eq_zero_iff.1 h0, _, _, rfl⟩
  · refine .inr ⟨g, 0, cap, by rw [List.length_map], (Array.getElem?_eq_some_iff.1 hg).1, fun i l hl => ?_⟩
    have hi : i < vs.length := by have := (List.getElem?_eq_some_iff.1 hl).1; omega
    refine ⟨vs[i], ?_, ?_⟩
    · rw [Nat.zero_add]
      exact own_cell h.top i _ (by simp [hi])
    · exact (own_row (h.row i vs[i] (l.map natC) (by simp [hi]) (by rw [List.getElem?_map, hl]; rfl))).2
theorem Grid.shape {B : Nat} {v : Value} {vs : List Value} {L : List (List Value)} {W : World} (h : Grid B v vs L W) : ∃ a c, v = .slice a L.length c := by
  rcases h.top.2 with ⟨rfl, h0⟩ | ⟨g, cap, cur, rfl, _⟩
  · exact ⟨none, 0, by rw [h0]⟩
  · exact ⟨_, _, rfl⟩
-- grid_shape
end Go.Proofs.YtdhihdiifgcfdaaGreatDoor
