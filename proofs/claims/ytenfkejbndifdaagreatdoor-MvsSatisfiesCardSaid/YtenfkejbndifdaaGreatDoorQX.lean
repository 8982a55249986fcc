/- The selected releases, in memory. Solves: the queue of requirements and the paths that have been seen, in memory. Maps of rows of numbers by paths; the world of an index, in memory. -/
import Derived.Test.YtenfkejbndifdaaGreatDoorQW
import Derived.Test.YtenfkejbndifdaaGreatDoorQT
import Derived.Test.YtenfkejbndifdaaGreatDoorQO
namespace Go.Proofs.YtenfkejbndifdaaGreatDoor
set_option linter.unusedVariables false
set_option linter.unusedSimpArgs false
open Go Go.RowKit Go.Maps

theorem relXs_at : ∀ {l : List RelL} {rs : List Value}, rs.length = l.length → ∀ {i j : Nat}, i < l.length → j < 9 → (relXs l rs)[i * 9 + j]? = (relC (l.getD i default) (rs.getD i undef)).toList[j]?
  | x :: l, r :: rs, h, 0, j, hi, hj => by
    unfold relXs
    rw [List.zip_cons_cons, List.flatMap_cons, Nat.zero_mul, Nat.zero_add, List.getElem?_append_left (by simp [relC]; omega)]
    rfl
  | x :: l, r :: rs, h, i + 1, j, hi, hj => by
    have ih := relXs_at (l := l) (rs := rs) (by simpa using h) (i := i) (j := j) (by simpa using hi) hj
    unfold relXs at ih ⊢
    rw [List.zip_cons_cons, List.flatMap_cons, List.getElem?_append_right (by simp [relC]; omega), show (i + 1) * 9 + j - (relC x r).toList.length = i * 9 + j by simp [relC]; omega, ih]
    rfl
/-- releases in a row of the call's own. -/
theorem own_rels {W : World} {B B2 : Nat} {v : Value} {l : List RelL} {rs : List Value} (hrl : rs.length = l.length) (h : W.ownsRow B 71 9 v l.length (relXs l rs)) (hB : B2 ≤ W.heap.size)
    (he : ∀ i, i < l.length → ReqsOf B2 (rs.getD i undef) (l.getD i default).reqs W) : RelsOf W.heap.size v l W := by
  have hxl := relXs_length hrl
  have hat := @relXs_at l rs hrl
  generalize relXs l rs = xs at *
  obtain ⟨hl, ⟨rfl, h0⟩ | ⟨g, cap, cur, rfl, h1, h2, h3, h4, h5, h6⟩⟩ := h
  · obtain rfl := List.length_eq_zero_iff.1 h0
    exact ⟨none, 0, rfl, fun i q hq => by simp at hq⟩
  · refine ⟨_, cap, rfl, fun i q hq => ?_⟩
    have hi := (List.getElem?_eq_some_iff.1 hq).1
    have hqd : l.getD i default = q := by rw [List.getD_eq_getElem?_getD, hq]; rfl
    have key : ∀ j u, j < 9 → (relC q (rs.getD i undef)).toList[j]? = some u → W.cell? ⟨g, 0 + i * 9 + j, none⟩ = some u := fun j u hj hu => by
      have hu2 := hat hi hj
      rw [hqd, hu] at hu2
      have hj2 := (List.getElem?_eq_some_iff.1 hu2).1
      rw [cell_of_row _ _ _ _ _ _ h2, ← hu2, ← h6, List.getElem?_take, if_pos (by omega)]
      simp
    refine ⟨g, 0, rfl, (Array.getElem?_eq_some_iff.1 h2).1, rs.getD i undef, key 0 _ (by omega) rfl, key 1 _ (by omega) rfl, key 2 _ (by omega) rfl, key 3 _ (by omega) rfl, key 4 _ (by omega) rfl, key 5 _ (by omega) rfl, key 6 _ (by omega) rfl, key 7 _ (by omega) rfl, key 8 _ (by omega) rfl, ?_⟩
    have := he i hi
    rw [hqd] at this
    exact this.mono hB
end Go.Proofs.YtenfkejbndifdaaGreatDoor

namespace Go.Proofs.YtenfkejbndifdaaGreatDoor
set_option linter.unusedVariables false
set_option linter.unusedSimpArgs false
open Go Go.RowKit Go.Maps

/-- the release that is picked for a selected name. -/
theorem pick_at {X : List RelL} {s : List SelL} (hc : checkX X = 0) (hfo : ∀ y ∈ s, (findX X y).isSome = true) {k : Nat} (h : k < s.length) :
    ∃ x, (pickK X s s.length)[k]? = some x ∧ findR X (s.getD k default) = some x ∧ x ∈ X ∧ keyL x = s.getD k default ∧ reqsOf X (s.getD k default) = x.reqs := by
  have hm : s.getD k default ∈ s := by rw [List.getD_eq_getElem?_getD, List.getElem?_eq_getElem h]; exact List.getElem_mem h
  obtain ⟨x, hx⟩ := Option.isSome_iff_exists.1 (hfo _ hm)
  have hf : findR X (s.getD k default) = some x := by
    unfold findX at hx
    rwa [if_pos hc] at hx
  refine ⟨x, ?_, hf, ?_, ?_, ?_⟩
  · unfold pickK
    rw [List.take_length, List.getElem?_map, List.getElem?_eq_getElem h]
    rw [List.getD_eq_getElem?_getD, List.getElem?_eq_getElem h] at hx
    simp only [Option.map_some, Option.getD_some] at hx ⊢
    rw [hx]
    rfl
  · unfold findR at hf
    exact List.mem_of_find?_eq_some hf
  · unfold findR at hf
    have := List.find?_some hf
    simpa using this
  · unfold reqsOf
    rw [hf]
/-- requirements' paths in a row of cells. -/
def PathXs (l : List ReqL) (xs : List Value) : Prop := ∀ i q, l[i]? = some q → xs[i * 2]? = some (.string q.1) ∧ ∃ a n c, xs[i * 2 + 1]? = some (.slice a n c)
theorem ReqXs.paths {B : Nat} {l : List ReqL} {xs : List Value} {W : World} (h : ReqXs B l xs W) : PathXs l xs := fun i q hq => by
  obtain ⟨r, h1, h2, a, c, rfl, _⟩ := h i q hq
  exact ⟨h1, _, _, _, h2⟩
theorem PathXs.tail {q : ReqL} {l : List ReqL} {xs : List Value} (h : PathXs (q :: l) xs) : PathXs l (xs.drop 2) := fun i x hx => by
  have := h (i + 1) x (by simpa using hx)
  rw [List.getElem?_drop, List.getElem?_drop, show 2 + i * 2 = (i + 1) * 2 by omega, show 2 + (i * 2 + 1) = (i + 1) * 2 + 1 by omega]
  exact this
theorem PathXs.app {l m : List ReqL} {xs ys : List Value} (h : PathXs l xs) (hl : xs.length = l.length * 2) (h2 : PathXs m ys) : PathXs (l ++ m) (xs ++ ys) := fun i x hx => by
  by_cases hi : i < l.length
  · rw [List.getElem?_append_left hi] at hx
    obtain ⟨g1, a, n, c, g2⟩ := h i x hx
    rw [List.getElem?_append_left (by omega), List.getElem?_append_left (by omega)]
    exact ⟨g1, a, n, c, g2⟩
  · rw [List.getElem?_append_right (by omega)] at hx
    obtain ⟨g1, a, n, c, g2⟩ := h2 (i - l.length) x hx
    rw [List.getElem?_append_right (by omega), List.getElem?_append_right (by omega), show i * 2 - xs.length = (i - l.length) * 2 by omega, show i * 2 + 1 - xs.length = (i - l.length) * 2 + 1 by omega]
    exact ⟨g1, a, n, c, g2⟩
/-- requirements as what an append is given. -/
theorem reqs_src {B : Nat} {l : List ReqL} {W : World} {v : Value} (h : ReqsOf B v l W) : ∃ news, Src Tryz.prog 2 26 v l.length news W ∧ PathXs l news := by
  have h2 := h
  obtain ⟨ao, cap, rfl, hh⟩ := h
  by_cases h0 : l = []
  · subst h0
    cases ao with
    | none => exact ⟨[], Src.ofNil _ Tryz.underlying26 cap, fun i q hq => by cases hq⟩
    | some a => exact ⟨[], Src.ofSlice _ Tryz.underlying26 a 0 cap [] rfl (fun j u hu => by simp at hu) (fun _ h => by cases h), fun i q hq => by cases hq⟩
  · have hp : 0 < l.length := List.length_pos_iff.2 h0
    obtain ⟨b, off, _, rfl, _⟩ := hh 0 l[0] (by simp [hp])
    obtain ⟨xs, hx1, hx2, hx3⟩ := reqs_cells h2
    refine ⟨xs, Src.ofSlice _ Tryz.underlying26 ⟨b, off, none⟩ l.length cap xs hx1 (fun j u hu => by rw [Addr.add_lit]; exact hx2 j u hu) (fun u hu => ?_), fun i q hq => ?_⟩
    · obtain ⟨j, hj, rfl⟩ := List.mem_iff_getElem.1 hu
      obtain ⟨r, h1, h2, h3⟩ := hx3 (j / 2) l[j / 2] (by simp <;> omega)
      obtain ⟨_, _, rfl, _⟩ := h3
      rcases Nat.mod_two_eq_zero_or_one j with hm | hm
      · have e2 : j / 2 * 2 = j := by omega
        rw [e2, List.getElem?_eq_getElem hj] at h1
        rw [Option.some.inj h1]; rfl
      · have e2 : j / 2 * 2 + 1 = j := by omega
        rw [e2, List.getElem?_eq_getElem hj] at h2
        rw [Option.some.inj h2]; rfl
    · obtain ⟨r, h1, h2, a, c, rfl, _⟩ := hx3 i q hq
      exact ⟨h1, _, _, _, h2⟩
/-- how many entries a map of memory has. -/
noncomputable def mapLen (P : Program) (k : TypeId) (W : World) (b : Nat) : Nat :=
  match W.heap[b]? with
  | some (.map es _) => Maps.size (DataW.map ((es.toList.map (WideElems.rg P k RV)).foldr DataW.insert []))
  | _ => 0
theorem mapLen_of {P : Program} {k : TypeId} {W : World} {b n : Nat} {f : Lit → Option Value} (K : Keyed P k) (h : MapF P k W b n f) (ks : List Lit) (hn : ks.Nodup) (hk : ∀ q, q ∈ ks ↔ (f q).isSome = true) : mapLen P k W b = ks.length := by
  obtain ⟨D, h1, h2, h3, h4⟩ := h
  have hs := size_of_keys (h1.canon K) h3 ks hn hk
  obtain ⟨es, clock, e1, _, _, rfl⟩ := h1
  unfold mapLen
  rw [e1]
  exact hs
def keyP (p : ByteArray) : Lit := .string p.data.toList
theorem keyP_inj {p q : ByteArray} (h : keyP p = keyP q) : p = q := by
  unfold keyP at h
  injection h with h
  exact ByteArray.ext (Array.toList_inj.1 h)
/-- the paths that have been seen. -/
def SeenF (seen : List ByteArray) (f : Lit → Option Value) : Prop := (∀ p ∈ seen, f (keyP p) = some (.bool true)) ∧ ∀ q, (∀ p ∈ seen, keyP p ≠ q) → f q = none
theorem SeenF.start : SeenF [] (fun _ => none) := ⟨fun p hp => (by cases hp), fun _ _ => rfl⟩
theorem SeenF.put {seen : List ByteArray} {f : Lit → Option Value} (h : SeenF seen f) (p : ByteArray) : SeenF (p :: seen) (putF f (.string p.data.toList) (.bool true)) := by
  refine ⟨fun r hr => ?_, fun q hq => ?_⟩
  · by_cases e : keyP r = .string p.data.toList
    · rw [e, putF_same]
    · rw [putF_other _ _ e]
      rcases List.mem_cons.1 hr with rfl | hr
      · exact absurd rfl e
      · exact h.1 r hr
  · have e : q ≠ .string p.data.toList := fun e => hq p (by simp) e.symm
    rw [putF_other _ _ e]
    exact h.2 q fun r hr => hq r (by simp [hr])
theorem SeenF.look {seen : List ByteArray} {f : Lit → Option Value} (h : SeenF seen f) (p : ByteArray) : ∃ sb : Bool, (f (.string p.data.toList)).getD (.bool false) = .bool sb ∧ (sb = true ↔ p ∈ seen) := by
  by_cases e : p ∈ seen
  · exact ⟨true, by rw [show Lit.string p.data.toList = keyP p from rfl, h.1 p e]; rfl, by simp [e]⟩
  · have h2 := h.2 (.string p.data.toList) fun r hr e2 => e (keyP_inj (p := r) (q := p) e2 ▸ hr)
    exact ⟨false, by rw [h2]; rfl, by simp [e]⟩
theorem SeenF.keys {seen : List ByteArray} {f : Lit → Option Value} (h : SeenF seen f) : ∀ q, q ∈ seen.map keyP ↔ (f q).isSome = true := fun q => by
  by_cases e : q ∈ seen.map keyP
  · obtain ⟨p, hp, rfl⟩ := List.mem_map.1 e
    rw [h.1 p hp]
    exact ⟨fun _ => rfl, fun _ => e⟩
  · rw [h.2 q fun p hp e2 => e (List.mem_map.2 ⟨p, hp, e2⟩)]
    exact ⟨fun h => absurd h e, fun h => by cases h⟩
theorem seen_nodup {seen : List ByteArray} (h : seen.Nodup) : (seen.map keyP).Nodup := by
  unfold List.Nodup at h ⊢
  rw [List.pairwise_map]
  exact h.imp fun {a b} hab e => hab (keyP_inj e)
theorem SeenF.size {P : Program} {k : TypeId} {W : World} {b n : Nat} {seen : List ByteArray} {f : Lit → Option Value} (K : Keyed P k) (h : SeenF seen f) (hm : MapF P k W b n f) (hn : seen.Nodup) : mapLen P k W b = seen.length := by
  rw [mapLen_of K hm _ (seen_nodup hn) h.keys, List.length_map]
theorem field_reqs (x : RelL) (r : Value) (w : World) : (Instr.field 71 (.agg #[.string x.path, intC x.ver.1, intC x.ver.2.1, intC x.ver.2.2, r, .string x.ar, .string x.ifc, .string x.cert, .bool x.yk]) 2).run Tryz.prog w = .ok r w := by
  have hu := Tryz.underlying71
  simp [Instr.field, run_underlying hu]
  go_simp
  simp [asAgg]
def sliceN : Value → Nat
  | .slice _ n _ => n
  | _ => 0
end Go.Proofs.YtenfkejbndifdaaGreatDoor

namespace Go.Proofs.YtenfkejbndifdaaGreatDoor
set_option linter.unusedVariables false
set_option linter.unusedSimpArgs false
open Go Go.RowKit Go.Maps

/-- rows of numbers, each in a block of its own. -/
structure PathsL (W : World) (B : Nat) (f : Lit → Option Value) (L : Lit → List Nat) : Prop where
  seg : ∀ q v, f q = some v → SegC W B 1 v (L q).length ((L q).map natC)
  emp : ∀ q, f q = none → L q = []
  inj : ∀ q1 q2 v1 v2 g, f q1 = some v1 → f q2 = some v2 → segK v1 = some g → segK v2 = some g → q1 = q2
theorem PathsL.start (W : World) (B : Nat) : PathsL W B (fun _ => Option.none) (fun _ => []) := ⟨fun _ _ h => (by cases h), fun _ _ => rfl, fun _ _ _ _ _ h => (by cases h)⟩
theorem PathsL.far {W W' : World} {B : Nat} {f : Lit → Option Value} {L : Lit → List Nat} (h : PathsL W B f L) (hs : W.heap.size ≤ W'.heap.size) (hk : ∀ g, B ≤ g → g < W.heap.size → W'.heap[g]? = W.heap[g]?) : PathsL W' B f L :=
  ⟨fun q v hv => (h.seg q v hv).far hs fun g hg => hk g ((h.seg q v hv).lt g hg).1 ((h.seg q v hv).lt g hg).2, h.emp, h.inj⟩
theorem PathsL.below {W W' : World} {B : Nat} {f : Lit → Option Value} {L : Lit → List Nat} (h : PathsL W B f L) (hb : RowKit.Below W.heap.size W W') : PathsL W' B f L := h.far hb.size fun g _ hg => hb.block g hg
theorem PathsL.same {W : World} {B : Nat} {f : Lit → Option Value} {L L' : Lit → List Nat} (h : PathsL W B f L) (he : ∀ q, L' q = L q) : PathsL W B f L' := by
  have : L' = L := funext he
  rwa [this]
theorem PathsL.get {W : World} {B : Nat} {f : Lit → Option Value} {L : Lit → List Nat} (h : PathsL W B f L) (q : Lit) : SegC W B 1 ((f q).getD (.slice none 0 0)) (L q).length ((L q).map natC) := by
  cases e : f q with
  | some v => exact h.seg q v e
  | none => rw [h.emp q e]; exact SegC.nil W B 1 Option.none
theorem PathsL.put {W W' : World} {B n : Nat} {f : Lit → Option Value} {L L' : Lit → List Nat} {q : Lit} {v' : Value} (h : PathsL W B f L) (hL : L' q = L q ++ [n]) (hL2 : ∀ p, p ≠ q → L' p = L p) (hs : SegC W' B 1 v' ((L q).length + 1) ((L q).map natC ++ [natC n]))
    (hg : W.grownBy W' (segK ((f q).getD (.slice Option.none 0 0)))) (hb : segK v' = segK ((f q).getD (.slice Option.none 0 0)) ∨ ∀ g, segK v' = some g → W.heap.size ≤ g) : PathsL W' B (putF f q v') L' := by
  have old : ∀ g, segK ((f q).getD (.slice Option.none 0 0)) = some g → ∃ v, f q = some v ∧ segK v = some g := fun g h => by
    cases e : f q with
    | some v => rw [e] at h; exact ⟨v, rfl, h⟩
    | none => rw [e] at h; simp [segK] at h
  have lt : ∀ q2 v2 g, f q2 = some v2 → segK v2 = some g → g < W.heap.size := fun q2 v2 g h1 h2 => ((h.seg q2 v2 h1).lt g h2).2
  refine ⟨fun q2 v2 h2 => ?_, fun q2 h2 => ?_, fun q1 q2 v1 v2 g h1 h2 g1 g2 => ?_⟩
  · by_cases e : q2 = q
    · subst e
      rw [putF_same] at h2
      cases h2
      rw [hL, List.length_append, List.map_append]
      exact hs
    · rw [putF_other f v' e] at h2
      rw [hL2 _ e]
      have h3 := h.seg q2 v2 h2
      exact h3.far hg.size fun g hgb => hg.block g (h3.lt g hgb).2 fun e2 => by
        obtain ⟨v, hv, hvb⟩ := old g e2.symm
        exact e (h.inj q2 q v2 v g h2 hv hgb hvb)
  · by_cases e : q2 = q
    · subst e
      rw [putF_same] at h2
      cases h2
    · rw [putF_other f v' e] at h2
      rw [hL2 _ e]
      exact h.emp q2 h2
  · by_cases e1 : q1 = q
    · by_cases e2 : q2 = q
      · rw [e1, e2]
      · subst e1
        rw [putF_same] at h1
        cases h1
        rw [putF_other f _ e2] at h2
        rcases hb with hb | hb
        · rw [hb] at g1
          obtain ⟨v, hv, hvb⟩ := old g g1
          exact h.inj q1 q2 v v2 g hv h2 hvb g2
        · have := hb g g1
          have := lt q2 v2 g h2 g2
          omega
    · rw [putF_other f _ e1] at h1
      by_cases e2 : q2 = q
      · subst e2
        rw [putF_same] at h2
        cases h2
        rcases hb with hb | hb
        · rw [hb] at g2
          obtain ⟨v, hv, hvb⟩ := old g g2
          exact h.inj q1 q2 v1 v g h1 hv g1 hvb
        · have := hb g g2
          have := lt q1 v1 g h1 g1
          omega
      · rw [putF_other f _ e2] at h2
        exact h.inj q1 q2 v1 v2 g h1 h2 g1 g2
theorem seg_rowOf {W : World} {B : Nat} {v : Value} {l : List Nat} (h : SegC W B 1 v l.length (l.map natC)) : RowOf natC W.heap.size v l W := by
  rcases h.val with ⟨ao, rfl, h0⟩ | ⟨g, off, cap, rfl, _, _, _, hg, h5, _⟩
  · exact .inl ⟨List.length_eq_zero_iff.1 h0, ao, 0, rfl⟩
  · refine .inr ⟨g, off, cap + 1, rfl, hg, fun i x hx => ?_⟩
    have hi := (List.getElem?_eq_some_iff.1 hx).1
    rw [h5 i (by omega), List.getElem?_map, hx]
    rfl
/-- the available releases of a path, among the first ones. -/
def availK (X : List RelL) (k : Nat) (p : ByteArray) : List Nat := (List.range k).filter fun i => decide (p = (X.getD i default).path) && !(X.getD i default).yk
theorem availK_all (X : List RelL) (p : ByteArray) : availK X X.length p = availI X p := rfl
theorem availK_succ (X : List RelL) (k : Nat) (p : ByteArray) : availK X (k + 1) p = if (p = (X.getD k default).path ∧ (X.getD k default).yk = false) then availK X k p ++ [k] else availK X k p := by
  unfold availK
  rw [List.range_succ, List.filter_append]
  by_cases h : p = (X.getD k default).path ∧ (X.getD k default).yk = false
  · rw [if_pos h, List.filter_cons, h.2, decide_eq_true h.1]; rfl
  · rw [if_neg h, List.filter_cons]
    have : ¬ ((decide (p = (X.getD k default).path) && !(X.getD k default).yk) = true) := fun e => h (by
      rw [Bool.and_eq_true, decide_eq_true_iff, Bool.not_eq_true'] at e
      exact e)
    rw [if_neg this, List.filter_nil, List.append_nil]
theorem availK_len (X : List RelL) (k : Nat) (p : ByteArray) : (availK X k p).length ≤ k := by
  have := List.length_filter_le (fun i => decide (p = (X.getD i default).path) && !(X.getD i default).yk) (List.range k)
  rw [List.length_range] at this
  exact this
/-- the same, by a map's key. -/
def availL (X : List RelL) (k : Nat) : Lit → List Nat
  | .string b => availK X k ⟨b.toArray⟩
  | _ => []
theorem availL_key (X : List RelL) (k : Nat) (p : ByteArray) : availL X k (.string p.data.toList) = availK X k p := by
  unfold availL
  simp
theorem availL_zero (X : List RelL) (q : Lit) : availL X 0 q = [] := by
  unfold availL
  split <;> rfl
theorem availL_yes {X : List RelL} {k : Nat} (hy : (X.getD k default).yk = false) : availL X (k + 1) (.string (X.getD k default).path.data.toList) = availL X k (.string (X.getD k default).path.data.toList) ++ [k] := by
  rw [availL_key, availL_key, availK_succ, if_pos ⟨rfl, hy⟩]
theorem availL_other {X : List RelL} {k : Nat} (q : Lit) (h : q ≠ .string (X.getD k default).path.data.toList) : availL X (k + 1) q = availL X k q := by
  unfold availL
  split
  · rename_i b
    rw [availK_succ, if_neg]
    rintro ⟨e, _⟩
    apply h
    rw [← e]
  · rfl
theorem availL_no {X : List RelL} {k : Nat} (hy : (X.getD k default).yk = true) (q : Lit) : availL X (k + 1) q = availL X k q := by
  unfold availL
  split
  · rw [availK_succ, if_neg]
    rintro ⟨_, e⟩
    rw [hy] at e
    cases e
  · rfl
/-- a world: block g holds the releases and a map, which holds the available ones of each path. -/
structure WorldOf (W : World) (g : Nat) (X : List RelL) (a : Option Addr) (c m n : Nat) (f : Lit → Option Value) : Prop where
  box : W.heap[g]? = some (.cells #[.slice a X.length c, .map (some m)] 86 (0, 0))
  map : MapF Tryz.prog 9 W m n f
  rows : ∀ p : ByteArray, RowOf natC W.heap.size ((f (.string p.data.toList)).getD (.slice none 0 0)) (availI X p) W
  rels : RelsOf W.heap.size (.slice a X.length c) X W
theorem WorldOf.below {W W' : World} {g : Nat} {X : List RelL} {a : Option Addr} {c m n : Nat} {f : Lit → Option Value} (h : WorldOf W g X a c m n f) (hb : RowKit.Below W.heap.size W W') : WorldOf W' g X a c m n f :=
  ⟨(hb.block g (Array.getElem?_eq_some_iff.1 h.box).1).trans h.box, h.map.below hb, fun p => ((h.rows p).below hb (Nat.le_refl _)).mono hb.size, h.rels.on hb⟩
theorem WorldOf.lt {W : World} {g : Nat} {X : List RelL} {a : Option Addr} {c m n : Nat} {f : Lit → Option Value} (h : WorldOf W g X a c m n f) : g < W.heap.size := (Array.getElem?_eq_some_iff.1 h.box).1
theorem WorldOf.c0 {W : World} {g : Nat} {X : List RelL} {a : Option Addr} {c m n : Nat} {f : Lit → Option Value} (h : WorldOf W g X a c m n f) : W.cell? ⟨g, 0, none⟩ = some (.slice a X.length c) := cell_of_row _ _ 0 _ _ _ h.box
theorem WorldOf.c1 {W : World} {g : Nat} {X : List RelL} {a : Option Addr} {c m n : Nat} {f : Lit → Option Value} (h : WorldOf W g X a c m n f) : W.cell? ⟨g, 1, none⟩ = some (.map (some m)) := cell_of_row _ _ 1 _ _ _ h.box
/-- between two rounds of newWorld. -/
structure NwJ (w : World) (X : List RelL) (v iv : Value) (k : Nat) (W : World) : Prop where
  bel : RowKit.Below w.heap.size w W
  size : w.heap.size + 1 + 1 < W.heap.size
  idx : W.heap[w.heap.size]? = some (.cells #[v, iv] 25 (0, 0))
  wld : W.heap[w.heap.size + 1 + 1]? = some (.cells #[v, .map (some (w.heap.size + 1))] 86 (0, 0))
  map : ∃ f, MapF Tryz.prog 9 W (w.heap.size + 1) k f ∧ PathsL W (w.heap.size + 1 + 1 + 1) f (availL X k)
theorem NwJ.below {w : World} {X : List RelL} {v iv : Value} {k : Nat} {W W' : World} (h : NwJ w X v iv k W) (hb : RowKit.Below W.heap.size W W') : NwJ w X v iv k W' := by
  obtain ⟨h1, h2, h3, h4, f, h5, h6⟩ := h
  exact ⟨h1.trans (hb.mono h1.size), Nat.lt_of_lt_of_le h2 hb.size, (hb.block _ (by omega)).trans h3, (hb.block _ h2).trans h4, f, h5.below hb, h6.below hb⟩
theorem NwJ.start (w : World) (X : List RelL) (v iv : Value) :
    NwJ w X v iv 0 (((w.alloc (.cells #[v, iv] 25)).alloc (.map #[] 0)).alloc (.cells #[v, .map (some (w.heap.size + 1))] 86)) := by
  have hget : ∀ (w : World) (o : Obj) (k : Nat), (w.alloc o).heap[k]? = if k = w.heap.size then some o else w.heap[k]? := fun w o k => by
    show (w.heap.push o)[k]? = _
    rw [Array.getElem?_push]
  refine ⟨(by repeat (first | exact Below.refl _ _ | refine Below.drew ?_ | refine Below.alloc ?_ (by simp <;> omega) _ | refine Below.setCell ?_ (by simp <;> omega) _)), by simp only [World.size_alloc]; omega, ?_, ?_, fun _ => none, ?_, (PathsL.start _ _).same (availL_zero X)⟩
  · simp only [hget, World.size_alloc]; repeat (first | rw [if_pos trivial] | rw [if_neg (by omega)] | rw [if_pos (by omega)])
  · simp only [hget, World.size_alloc]; repeat (first | rw [if_pos trivial] | rw [if_neg (by omega)] | rw [if_pos (by omega)])
  · have := (MapF.made Tryz.prog 9 (w.alloc (.cells #[v, iv] 25))).alloc (.cells #[v, .map (some (w.heap.size + 1))] 86)
    simpa only [World.size_alloc] using this
theorem NwJ.world {w : World} {X : List RelL} {a : Option Addr} {c : Nat} {iv : Value} {W : World} (h : NwJ w X (.slice a X.length c) iv X.length W) (hR : RelsOf w.heap.size (.slice a X.length c) X w) : ∃ f, WorldOf W (w.heap.size + 1 + 1) X a c (w.heap.size + 1) X.length f := by
  obtain ⟨h1, h2, h3, h4, f, h5, h6⟩ := h
  refine ⟨f, h4, h5, fun p => ?_, hR.on h1⟩
  have := h6.get (.string p.data.toList)
  rw [availL_key, availK_all] at this
  exact seg_rowOf this
end Go.Proofs.YtenfkejbndifdaaGreatDoor
