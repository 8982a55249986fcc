/- The graph's exist; slices.ContainsFunc at numbers. Contract of the graph's Reverse. The graph of a selection: graph.Of. -/
import Derived.Test.YtnjiibiafhnmgaaGreatDoorYP
import Derived.Test.YtnjiibiafhnmgaaGreatDoorYF
import Derived.Test.YtnjiibiafhnmgaaGreatDoorYO
namespace Go.Proofs.YtnjiibiafhnmgaaGreatDoor
set_option linter.unusedVariables false
set_option linter.unusedSimpArgs false
open Go Go.RowKit

theorem rowOf_open {α : Type} {enc : α → Value} {B : Nat} {v : Value} {l : List α} {W : World} (h : RowOf enc B v l W) :
    ∃ ao cap, v = .slice ao l.length cap ∧ ∀ i x, l[i]? = some x → ∃ b off, ao = some ⟨b, off, none⟩ ∧ b < B ∧ W.cell? ⟨b, off + i, none⟩ = some (enc x) := by
  rcases h with ⟨rfl, a, c, rfl⟩ | ⟨b, off, cap, rfl, hb, h⟩
  · exact ⟨a, c, rfl, fun i x hx => by simp at hx⟩
  · exact ⟨_, cap, rfl, fun i x hx => ⟨b, off, rfl, hb, h i x hx⟩⟩
def PredI (g : Nat) (lb : Array Value) (es : List (Int)) (p : Int → Bool) (w : World) : Prop :=
  ∀ (W : World) (x : Int), x ∈ es → Below w.heap.size w W → Calls Tryz.prog g (#[intC x] ++ lb) W fun e w' => e = .returned (.bool (p x)) ∧ Below w.heap.size w w'

set_option maxRecDepth 100000 in
set_option maxHeartbeats 2000000 in
theorem idx_int (g : Nat) (lb : Array Value) (eg : ∀ args w, (callFunc g args).run Tryz.prog w = .ok (.enter g args) w) (p : Int → Bool) (v : Value) (es : List (Int)) (w : World) (hes : es.length ≤ 1000000000) (hE : RowOf intC w.heap.size v es w) (hp : PredI g lb es p w) :
    Calls Tryz.prog 142 #[v, .func (.func g) #[] lb] w fun e w' => ∃ r : Int, e = .returned (.int .i64 r) ∧ (0 ≤ r ↔ es.any p = true) ∧ Below w.heap.size w w' := by
  obtain ⟨ao, ec, rfl, hE2⟩ := rowOf_open hE
  have HE := Lib.hid hE2
  have HP := Lib.hid hp
  clear hE hE2 hp
  go_enter Tryz.func142, Tryz.ntmps142
  go_wp2
  go_loopw [8] (fun s wr => ∃ k : Nat, k ≤ es.length ∧ s = .int .i64 k ∧ Hid (Below w.heap.size w wr) ∧ Hid (∀ x ∈ es.take k, p x = false)) (fun s _ => es.length - (intOf s).toNat)
  case atStart => exact ⟨0, by omega, rfl, Lib.hid (Below.refl _ _), Lib.hid (by simp)⟩
  case round =>
    obtain ⟨k, hk, rfl, HB, HA⟩ := hrel
    by_cases hlt : k < es.length
    · have hlt2 : (k : Int) < (es.length : Int) := by omega
      obtain ⟨b, off, rfl, hb, hc1⟩ := HE.out k es[k] (by simp [hlt])
      have hc1 := (HB.out.cell (p := ⟨b, off + k, none⟩) hb).trans hc1
      have HT : Hid (es.take (k + 1) = es.take k ++ [es[k]]) := Lib.hid (List.take_succ_eq_append_getElem hlt)
      have hcall := HP.out wr es[k] (List.getElem_mem hlt) HB.out
      have HM : Hid (es[k] ∈ es) := Lib.hid (List.getElem_mem hlt)
      generalize es[k] = x at *
      cases hq : p x with
      | true =>
        rw [hq] at hcall
        have HQ := Lib.hid hq
        clear hq
        go_wp2_with (go_at_fn g; refine hcall.mono ?_; rintro e w' ⟨rfl, hb'⟩)
        go_ret
        exact ⟨_, rfl, ⟨fun _ => by rw [List.any_eq_true]; exact ⟨x, HM.out, HQ.out⟩, fun _ => by omega⟩, hb'⟩
      | false =>
        rw [hq] at hcall
        have HQ := Lib.hid hq
        clear hq
        go_wp2_with (go_at_fn g; refine hcall.mono ?_; rintro e w' ⟨rfl, hb'⟩)
        go_roundw
        case rel =>
          refine ⟨k + 1, by omega, by go_num, Lib.hid hb', Lib.hid ?_⟩
          rw [HT.out]
          intro y hy
          rcases List.mem_append.1 hy with hy | hy
          · exact HA.out y hy
          · rw [List.mem_singleton] at hy; rw [hy]; exact HQ.out
        case measure => simp [intOf]; omega
    · have hkk : k = es.length := by omega
      subst hkk
      rw [List.take_length] at HA
      go_wp2
      go_ret
      refine ⟨-1, rfl, ⟨fun h => by omega, fun h => ?_⟩, HB.out⟩
      rw [List.any_eq_true] at h
      obtain ⟨x, hx, hpx⟩ := h
      rw [HA.out x hx] at hpx
      cases hpx

theorem has_int (g : Nat) (lb : Array Value) (eg : ∀ args w, (callFunc g args).run Tryz.prog w = .ok (.enter g args) w) (p : Int → Bool) (v : Value) (es : List (Int)) (w : World) (hes : es.length ≤ 1000000000) (hE : RowOf intC w.heap.size v es w) (hp : PredI g lb es p w) :
    Calls Tryz.prog 110 #[v, .func (.func g) #[] lb] w fun e w' => e = .returned (.bool (es.any p)) ∧ Below w.heap.size w w' := by
  have hi := idx_int g lb eg p v es w hes hE hp
  generalize es.any p = q at hi ⊢
  have HI := Lib.hid hi
  obtain ⟨ao, ec, rfl, _⟩ := rowOf_open hE
  clear hp eg hi
  go_enter Tryz.func110, Tryz.ntmps110
  go_wp2_with fail
  refine HI.out.mono ?_
  rintro e w' ⟨r, rfl, hr, hb⟩
  cases q with
  | true =>
    have h0 : 0 ≤ r := hr.2 rfl
    clear hr
    go_wp2
    go_ret
    exact ⟨rfl, hb⟩
  | false =>
    have h0 : ¬ 0 ≤ r := fun h => by have := hr.1 h; cases this
    have h1 : decide (0 ≤ r) = false := decide_eq_false h0
    have h2 : r < 0 := by omega
    clear hr
    go_wp2
    go_ret
    exact ⟨rfl, hb⟩


end Go.Proofs.YtnjiibiafhnmgaaGreatDoor

namespace Go.Proofs.YtnjiibiafhnmgaaGreatDoor
set_option linter.unusedVariables false
set_option linter.unusedSimpArgs false
open Go Go.RowKit

def revE (n : Nat) (es : List (Int × Int)) : List (Int × Int) := if validG n es = true then es.map swapE else []
def revN {α : Type} (ns : List α) (es : List (Int × Int)) : List α := if validG ns.length es = true then ns else []
def edgeCells (es : List (Int × Int)) : List Value := es.flatMap fun x => [intC x.1, intC x.2]
theorem edgeCells_snoc (es : List (Int × Int)) (x : Int × Int) : edgeCells (es ++ [x]) = edgeCells es ++ [intC x.1, intC x.2] := by unfold edgeCells; rw [List.flatMap_append]; rfl
theorem edgeCells_length (es : List (Int × Int)) : (edgeCells es).length = es.length * 2 := by
  induction es with
  | nil => rfl
  | cons x es ih => show (intC x.1 :: intC x.2 :: edgeCells es).length = _; simp [ih]; omega
theorem edgeCells_get (es : List (Int × Int)) (i : Nat) (x : Int × Int) (h : es[i]? = some x) : (edgeCells es)[i * 2]? = some (intC x.1) ∧ (edgeCells es)[i * 2 + 1]? = some (intC x.2) := by
  induction es generalizing i with
  | nil => simp at h
  | cons y es ih =>
    cases i with
    | zero => simp at h; subst h; exact ⟨rfl, rfl⟩
    | succ i =>
      have := ih i (by simpa using h)
      have e : ∀ j, (edgeCells (y :: es))[j + 2]? = (edgeCells es)[j]? := fun j => rfl
      rw [show (i + 1) * 2 = i * 2 + 2 by omega, show i * 2 + 2 + 1 = (i * 2 + 1) + 2 by omega, e, e]
      exact this
theorem own_edges {W : World} {B n : Nat} {v : Value} {es : List (Int × Int)} (h : W.ownsRow B 43 2 v n (edgeCells es)) : EdgesOf W.heap.size v es W := by
  have hl : n = es.length := by have := h.1; rw [edgeCells_length] at this; omega
  subst hl
  rcases h.2 with ⟨rfl, h0⟩ | ⟨g, cap, cur, rfl, hb, hg, hc, _⟩
  · obtain rfl := List.length_eq_zero_iff.1 h0
    exact ⟨none, 0, rfl, fun i x hx => by simp at hx⟩
  · refine ⟨_, cap, rfl, fun i x hx => ⟨g, 0, rfl, (Array.getElem?_eq_some_iff.1 hg).1, ?_, ?_⟩⟩
    · have hi := (List.getElem?_eq_some_iff.1 hx).1
      rw [Nat.zero_add, h.cellAt (i * 2) (by omega)]
      exact (edgeCells_get es i x hx).1
    · have hi := (List.getElem?_eq_some_iff.1 hx).1
      rw [Nat.zero_add, h.cellAt (i * 2 + 1) (by omega)]
      exact (edgeCells_get es i x hx).2
theorem info_edges : (Tryz.prog.info? 43).map (fun i => (i.zero, i.size, i.bytes)) = some (some (.agg #[.int .i64 0, .int .i64 0]), 2, 16) := by kernel_rfl

theorem clone_strs (nv : Value) (ns : List ByteArray) (w : World) (hn : ns.length ≤ 1000000) (h : RowOf Value.string w.heap.size nv ns w) :
    Calls Tryz.prog 72 #[nv] w fun e w' => ∃ ao cap, e = .returned (.slice ao ns.length cap) ∧ RowOf Value.string w'.heap.size (.slice ao ns.length cap) ns w' ∧ Below w.heap.size w w' := by
  rcases h with ⟨rfl, a, c, rfl⟩ | ⟨b, off, cap, rfl, hb, h⟩
  · cases a with
    | none =>
      refine (Tryz.slices_Clone_string_nil 0 c w).mono ?_
      rintro e w' ⟨rfl, rfl⟩
      exact ⟨none, 0, rfl, .inl ⟨rfl, _, _, rfl⟩, Below.refl _ _⟩
    | some a =>
      refine (Tryz.slices_Clone_string_zero a c w).mono ?_
      rintro e w' ⟨v', rfl, ho, _, hb⟩
      rcases ho.2 with ⟨rfl, _⟩ | ⟨g, cap, cur, rfl, _⟩
      · exact ⟨none, 0, rfl, .inl ⟨rfl, _, _, rfl⟩, hb⟩
      · exact ⟨_, cap, rfl, .inl ⟨rfl, _, _, rfl⟩, hb⟩
  · refine (Tryz.slices_Clone_string b off ns.length cap ns w (Nat.le_refl _) (by omega) (fun j hj => by
      have := h j ns[j] (by simp [hj])
      rw [this, List.getD_eq_getElem?_getD, List.getElem?_eq_getElem hj]
      rfl)).mono ?_
    rintro e w' ⟨v', rfl, ho, _, hb⟩
    rw [List.take_length] at ho
    have hr := own_row ho
    rcases ho.2 with ⟨rfl, h0⟩ | ⟨g, cap, cur, rfl, _⟩
    · obtain rfl := List.length_eq_zero_iff.1 h0
      exact ⟨none, 0, rfl, .inl ⟨rfl, _, _, rfl⟩, hb⟩
    · exact ⟨_, cap, rfl, hr.2, hb⟩

theorem set_two {W : World} {g t : Nat} {x y x' y' : Value} (h : W.heap[g]? = some (.cells #[x, y] t (0, 0))) : ((W.setCell ⟨g, 0, none⟩ x').setCell ⟨g, 1, none⟩ y').heap[g]? = some (.cells #[x', y'] t (0, 0)) := by
  have h1 := heap_setCell_same W g 0 #[x, y] t x' h
  exact heap_setCell_same _ g 1 _ t y' h1
end Go.Proofs.YtnjiibiafhnmgaaGreatDoor

namespace Go.Proofs.YtnjiibiafhnmgaaGreatDoor
set_option linter.unusedVariables false
set_option linter.unusedSimpArgs false
open Go Go.RowKit

def incrK (s : List SelL) (k : Nat) : Prop := ∀ j, j + 1 < k → ltB (s.getD j default).1 (s.getD (j + 1) default).1 = true
theorem incrK_all {s : List SelL} : incrK s s.length ↔ incrS s := by
  have hg : ∀ i (hi : i < s.length), s.getD i default = s[i] := fun i hi => by rw [List.getD_eq_getElem?_getD, List.getElem?_eq_getElem hi]; rfl
  constructor
  · intro h
    unfold incrS
    rw [List.pairwise_iff_getElem]
    intro i j hi hj hij
    obtain ⟨d, rfl⟩ : ∃ d, j = i + d + 1 := ⟨j - i - 1, by omega⟩
    clear hij
    induction d with
    | zero => have := h i (by omega); rwa [hg i hi, hg (i + 1) (by omega)] at this
    | succ d ih =>
      have := h (i + d + 1) (by omega)
      rw [hg (i + d + 1) (by omega), hg (i + d + 1 + 1) (by omega)] at this
      exact ltB_trans (ih (by omega)) this
  · intro h j hj
    rw [hg j (by omega), hg (j + 1) hj]
    exact List.pairwise_iff_getElem.1 h j (j + 1) (by omega) hj (by omega)
theorem incrK_step {s : List SelL} {k : Nat} (h : incrK s k) (h2 : 0 < k → ltB (s.getD (k - 1) default).1 (s.getD k default).1 = true) : incrK s (k + 1) := fun j hj => by
  by_cases e : j + 1 = k
  · subst e
    exact h2 (by omega)
  · exact h j (by omega)
theorem SelsOf.at {B : Nat} {ao : Option Addr} {n cap : Nat} {s : List SelL} {W : World} (h : SelsOf B (.slice ao n cap) s W) {i : Nat} (hi : i < s.length) :
    ∃ b off, ao = some ⟨b, off, none⟩ ∧ b < B ∧ W.cell? ⟨b, off + i * 4, none⟩ = some (.string (s.getD i default).1) ∧ W.cell? ⟨b, off + i * 4 + 1, none⟩ = some (intC (s.getD i default).2.1) ∧ W.cell? ⟨b, off + i * 4 + 2, none⟩ = some (intC (s.getD i default).2.2.1) ∧ W.cell? ⟨b, off + i * 4 + 3, none⟩ = some (intC (s.getD i default).2.2.2) := by
  obtain ⟨ao', cap', e, h⟩ := h
  cases e
  obtain ⟨b, off, e, h0, h1⟩ := h i s[i] (by simp [hi])
  have hg : s.getD i default = s[i] := by rw [List.getD_eq_getElem?_getD, List.getElem?_eq_getElem hi]; rfl
  rw [hg]
  exact ⟨b, off, e, h0, h1⟩
def GraphR (w : World) (g : (List ByteArray × List (Int × Int)) × Int) (e : Ending) (w' : World) : Prop :=
  ∃ nv ev, e = .returned (.tuple #[.agg #[nv, ev], .int .i64 g.2]) ∧ RowOf Value.string w'.heap.size nv g.1.1 w' ∧ EdgesOf w'.heap.size ev g.1.2 w' ∧ Below w.heap.size w w'
theorem eqs_dec (a b : ByteArray) : (a.toList == b.toList) = decide (a = b) := by
  by_cases h : a = b
  · subst h; simp
  · have : ¬ a.toList = b.toList := fun e => h (bytes_inj e)
    simp [h, this]
structure OfJ (w1 : World) (g : Nat) (s : List SelL) (k : Nat) (es : List (Int × Int)) (nv ev : Value) (W : World) : Prop where
  bel : Below w1.heap.size w1 W
  lo : w1.heap.size ≤ g
  out : W.heap[g]? = some (.cells #[nv, ev] 32 (0, 0))
  nodes : W.ownsRow (g + 1) 9 1 nv k ((s.take k).map (fun y => .string y.1))
  edges : W.ownsRow (g + 1) 43 2 ev es.length (edgeCells es)
variable {w1 : World} {g : Nat} {s : List SelL} {k : Nat} {es : List (Int × Int)} {nv ev : Value} {W : World}
end Go.Proofs.YtnjiibiafhnmgaaGreatDoor

namespace Go.Proofs.YtnjiibiafhnmgaaGreatDoor
open Go Go.RowKit Go.Maps

def selCells (l : List SelL) : List Value := l.flatMap selC
theorem selCells_len : ∀ l : List SelL, (selCells l).length = l.length * 4
  | [] => rfl
  | y :: l => by
    have ih := selCells_len l
    unfold selCells at ih ⊢
    rw [List.flatMap_cons, List.length_append, ih, List.length_cons]
    simp [selC]
    omega
theorem selCells_at : ∀ {l : List SelL} {i j : Nat}, i < l.length → j < 4 → (selCells l)[i * 4 + j]? = (selC (l.getD i default))[j]?
  | y :: l, 0, j, hi, hj => by
    unfold selCells
    rw [List.flatMap_cons, Nat.zero_mul, Nat.zero_add, List.getElem?_append_left (by simp [selC]; omega)]
    rfl
  | y :: l, i + 1, j, hi, hj => by
    have ih := selCells_at (l := l) (i := i) (j := j) (by simpa using hi) hj
    unfold selCells at ih ⊢
    rw [List.flatMap_cons, List.getElem?_append_right (by simp [selC]; omega), show (i + 1) * 4 + j - (selC y).length = i * 4 + j by simp [selC]; omega, ih]
    rfl
theorem own_sels {W : World} {B : Nat} {v : Value} {l : List SelL} (h : W.ownsRow B 53 4 v l.length (selCells l)) : SelsOf W.heap.size v l W := by
  have hxl := selCells_len l
  have hat := @selCells_at l
  generalize selCells l = xs at *
  obtain ⟨hl, ⟨rfl, h0⟩ | ⟨g, cap, cur, rfl, h1, h2, h3, h4, h5, h6⟩⟩ := h
  · obtain rfl := List.length_eq_zero_iff.1 h0
    exact ⟨none, 0, rfl, fun i q hq => by simp at hq⟩
  · refine ⟨_, cap, rfl, fun i q hq => ?_⟩
    have hi := (List.getElem?_eq_some_iff.1 hq).1
    have hqd : l.getD i default = q := by rw [List.getD_eq_getElem?_getD, hq]; rfl
    have key : ∀ j u, j < 4 → (selC q)[j]? = some u → W.cell? ⟨g, 0 + i * 4 + j, none⟩ = some u := fun j u hj hu => by
      have hu2 := hat hi hj
      rw [hqd, hu] at hu2
      have hj2 := (List.getElem?_eq_some_iff.1 hu2).1
      rw [cell_of_row _ _ _ _ _ _ h2, ← hu2, ← h6, List.getElem?_take, if_pos (by omega)]
      simp
    exact ⟨g, 0, rfl, (Array.getElem?_eq_some_iff.1 h2).1, key 0 _ (by omega) rfl, key 1 _ (by omega) rfl, key 2 _ (by omega) rfl, key 3 _ (by omega) rfl⟩
theorem info_sel : (Tryz.prog.info? 53).map (fun i => (i.zero, i.size, i.bytes)) = some (some (.agg #[.string ⟨#[]⟩, .int .i64 0, .int .i64 0, .int .i64 0]), 4, 40) := by kernel_rfl
def SelF (G : RelL → Value → Prop) (s : List SelL) (f : Lit → Option Value) : Prop :=
  ∀ p : ByteArray, (∃ x r, keyL x ∈ s ∧ x.path = p ∧ G x r ∧ f (.string p.data.toList) = some (.agg (relC x r))) ∨ (f (.string p.data.toList) = none ∧ ∀ y ∈ s, y.1 ≠ p)
theorem metB_none {s : List SelL} {q : ReqL} (h : ∀ y ∈ s, y.1 ≠ q.1) : metB s q = false := by
  unfold metB
  rw [List.any_eq_false]
  intro y hy e
  rw [Bool.and_eq_true] at e
  exact h y hy (of_decide_eq_true e.1)
theorem nodup_one {s : List SelL} (hn : (s.map (·.1)).Nodup) {a b : SelL} (ha : a ∈ s) (hb : b ∈ s) (e : a.1 = b.1) : a = b := by
  induction s with
  | nil => cases ha
  | cons y s ih =>
    rw [List.map_cons, List.nodup_cons] at hn
    rcases List.mem_cons.1 ha with h1 | h1 <;> rcases List.mem_cons.1 hb with h2 | h2
    · rw [h1, h2]
    · subst h1; exact absurd (List.mem_map.2 ⟨b, h2, e.symm⟩) hn.1
    · subst h2; exact absurd (List.mem_map.2 ⟨a, h1, e⟩) hn.1
    · exact ih hn.2 h1 h2
theorem metB_one {s : List SelL} {q : ReqL} {y : SelL} (hn : (s.map (·.1)).Nodup) (hy : y ∈ s) (e : y.1 = q.1) : metB s q = hasB q.2 (1000 * y.2.2.1 + y.2.2.2) := by
  unfold metB
  cases hb : hasB q.2 (1000 * y.2.2.1 + y.2.2.2) with
  | true =>
    rw [List.any_eq_true]
    exact ⟨y, hy, by rw [hb, Bool.and_true]; exact decide_eq_true e⟩
  | false =>
    rw [List.any_eq_false]
    intro z hz h
    rw [Bool.and_eq_true] at h
    have hzy : z.1 = y.1 := (of_decide_eq_true h.1).trans e.symm
    have : z = y := nodup_one hn hz hy hzy
    subst this
    rw [hb] at h
    cases h.2
theorem SelF.start (G : RelL → Value → Prop) : SelF G [] (fun _ => none) := fun _ => .inr ⟨rfl, fun _ h => by cases h⟩
theorem SelF.put {G : RelL → Value → Prop} {s : List SelL} {f : Lit → Option Value} {k : Nat} (h : SelF G (s.take k) f) (hk : k < s.length) {x : RelL} {r : Value} (hx : keyL x = s.getD k default) (hg : G x r) :
    SelF G (s.take (k + 1)) (putF f (.string x.path.data.toList) (.agg (relC x r))) := by
  have hs : s.take (k + 1) = s.take k ++ [keyL x] := by
    rw [hx, List.take_succ_eq_append_getElem hk, List.getD_eq_getElem?_getD, List.getElem?_eq_getElem hk]; rfl
  intro p
  rw [hs]
  by_cases e : x.path = p
  · refine .inl ⟨x, r, by simp, e, hg, ?_⟩
    subst e
    simp [putF]
  · have hne : ¬ (Lit.string p.data.toList = Lit.string x.path.data.toList) := fun h => by
      injection h with h
      exact e (ByteArray.ext (Array.toList_inj.1 h.symm))
    rcases h p with ⟨x2, r2, h1, h2, h3, h4⟩ | ⟨h1, h2⟩
    · refine .inl ⟨x2, r2, by simp [h1], h2, h3, ?_⟩
      unfold putF
      rw [if_neg hne, h4]
    · refine .inr ⟨?_, fun y hy => ?_⟩
      · unfold putF
        rw [if_neg hne, h1]
      · rcases List.mem_append.1 hy with hy | hy
        · exact h2 y hy
        · rw [List.mem_singleton.1 hy]; exact e
theorem valid_of_check {X : List RelL} (h : checkX X = 0) {x : RelL} (hx : x ∈ X) : validB x.ver.1 x.ver.2.1 x.ver.2.2 = true := by
  obtain ⟨k, hk, rfl⟩ := List.mem_iff_getElem.1 hx
  unfold checkX at h
  split at h
  · exact absurd h (by decide)
  · have h1 := firstE_zero h k hk
    unfold idxErr at h1
    have h2 : relE (X.getD k default) = 0 := by
      by_cases e : relE (X.getD k default) = 0
      · exact e
      · rw [if_pos e] at h1; exact absurd h1 e
    rw [List.getD_eq_getElem?_getD, List.getElem?_eq_getElem hk] at h2
    simp only [Option.getD_some] at h2
    unfold relE at h2
    split at h2
    · exact absurd h2 (by decide)
    · split at h2
      · exact absurd h2 (by decide)
      · rename_i h3
        have h3 : ¬ (validB X[k].ver.1 X[k].ver.2.1 X[k].ver.2.2 && _) = false := h3
        rw [Bool.not_eq_false, Bool.and_eq_true] at h3
        exact h3.1
theorem all_met {s : List SelL} {es : List ReqL} (h : es.any (fun q => !metB s q) = false) : ∀ q ∈ es, metB s q = true := fun q hq => by
  rw [List.any_eq_false] at h
  have := h q hq
  simpa using this
end Go.Proofs.YtnjiibiafhnmgaaGreatDoor
