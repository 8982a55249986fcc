/- Solves: the queue of requirements and the paths that have been seen, in memory. Maps of rows of numbers by paths; the world of an index, in memory. -/
import Derived.Test.YtenfkejbndifdaaGreatDoorUM
import Derived.Test.YtenfkejbndifdaaGreatDoorUK
import Derived.Test.YtenfkejbndifdaaGreatDoorUI
namespace Go.Proofs.YtenfkejbndifdaaGreatDoor
set_option linter.unusedVariables false
set_option linter.unusedSimpArgs false
open Go Go.RowKit Go.Maps

def PathXs (l : List ReqL) (xs : List Value) : Prop := ∀ i q, l[i]? = some q → xs[i * 2]? = some (.string q.1) ∧ ∃ a n c, xs[i * 2 + 1]? = some (.slice a n c)
noncomputable def mapLen (P : Program) (k : TypeId) (W : World) (b : Nat) : Nat :=
  match W.heap[b]? with
  | some (.map es _) => Maps.size (DataW.map ((es.toList.map (WideElems.rg P k RV)).foldr DataW.insert []))
  | _ => 0
theorem mapLen_of {P : Program} {k : TypeId} {W : World} {b n : Nat} {f : Lit → Option Value} (K : Keyed P k) (h : MapF P k W b n f) (ks : List Lit) (hn : ks.Nodup) (hk : ∀ q, q ∈ ks ↔ (f q).isSome = true) : mapLen P k W b = ks.length := by
  obtain ⟨D, h1, h2, h3, h4⟩ := h
  have hs := size_of_keys (h1.canon K) h3 ks hn hk
  obtain ⟨es, clock, e1, _, _, rfl⟩ := h1
  unfold mapLen
  rw [e1]
  exact hs
def keyP (p : ByteArray) : Lit := .string p.data.toList
theorem keyP_inj {p q : ByteArray} (h : keyP p = keyP q) : p = q := by
  unfold keyP at h
  injection h with h
  exact ByteArray.ext (Array.toList_inj.1 h)
def SeenF (seen : List ByteArray) (f : Lit → Option Value) : Prop := (∀ p ∈ seen, f (keyP p) = some (.bool true)) ∧ ∀ q, (∀ p ∈ seen, keyP p ≠ q) → f q = none
def sliceN : Value → Nat
  | .slice _ n _ => n
  | _ => 0
end Go.Proofs.YtenfkejbndifdaaGreatDoor

namespace Go.Proofs.YtenfkejbndifdaaGreatDoor
set_option linter.unusedVariables false
set_option linter.unusedSimpArgs false
open Go Go.RowKit Go.Maps

structure PathsL (W : World) (B : Nat) (f : Lit → Option Value) (L : Lit → List Nat) : Prop where
  seg : ∀ q v, f q = some v → SegC W B 1 v (L q).length ((L q).map natC)
  emp : ∀ q, f q = none → L q = []
  inj : ∀ q1 q2 v1 v2 g, f q1 = some v1 → f q2 = some v2 → segK v1 = some g → segK v2 = some g → q1 = q2
theorem PathsL.start (W : World) (B : Nat) : PathsL W B (fun _ => Option.none) (fun _ => []) := ⟨fun _ _ h => (by cases h), fun _ _ => rfl, fun _ _ _ _ _ h => (by cases h)⟩
theorem PathsL.far {W W' : World} {B : Nat} {f : Lit → Option Value} {L : Lit → List Nat} (h : PathsL W B f L) (hs : W.heap.size ≤ W'.heap.size) (hk : ∀ g, B ≤ g → g < W.heap.size → W'.heap[g]? = W.heap[g]?) : PathsL W' B f L :=
  ⟨fun q v hv => (h.seg q v hv).far hs fun g hg => hk g ((h.seg q v hv).lt g hg).1 ((h.seg q v hv).lt g hg).2, h.emp, h.inj⟩
theorem PathsL.below {W W' : World} {B : Nat} {f : Lit → Option Value} {L : Lit → List Nat} (h : PathsL W B f L) (hb : RowKit.Below W.heap.size W W') : PathsL W' B f L := h.far hb.size fun g _ hg => hb.block g hg
theorem PathsL.same {W : World} {B : Nat} {f : Lit → Option Value} {L L' : Lit → List Nat} (h : PathsL W B f L) (he : ∀ q, L' q = L q) : PathsL W B f L' := by
  have : L' = L := funext he
  rwa [this]
theorem PathsL.get {W : World} {B : Nat} {f : Lit → Option Value} {L : Lit → List Nat} (h : PathsL W B f L) (q : Lit) : SegC W B 1 ((f q).getD (.slice none 0 0)) (L q).length ((L q).map natC) := by
  cases e : f q with
  | some v => exact h.seg q v e
  | none => rw [h.emp q e]; exact SegC.nil W B 1 Option.none
theorem PathsL.put {W W' : World} {B n : Nat} {f : Lit → Option Value} {L L' : Lit → List Nat} {q : Lit} {v' : Value} (h : PathsL W B f L) (hL : L' q = L q ++ [n]) (hL2 : ∀ p, p ≠ q → L' p = L p) (hs : SegC W' B 1 v' ((L q).length + 1) ((L q).map natC ++ [natC n]))
    (hg : W.grownBy W' (segK ((f q).getD (.slice Option.none 0 0)))) (hb : segK v' = segK ((f q).getD (.slice Option.none 0 0)) ∨ ∀ g, segK v' = some g → W.heap.size ≤ g) : PathsL W' B (putF f q v') L' := by
  have old : ∀ g, segK ((f q).getD (.slice Option.none 0 0)) = some g → ∃ v, f q = some v ∧ segK v = some g := fun g h => by
    cases e : f q with
    | some v => rw [e] at h; exact ⟨v, rfl, h⟩
    | none => rw [e] at h; simp [segK] at h
  have lt : ∀ q2 v2 g, f q2 = some v2 → segK v2 = some g → g < W.heap.size := fun q2 v2 g h1 h2 => ((h.seg q2 v2 h1).lt g h2).2
  refine ⟨fun q2 v2 h2 => ?_, fun q2 h2 => ?_, fun q1 q2 v1 v2 g h1 h2 g1 g2 => ?_⟩
  · by_cases e : q2 = q
    · subst e
      rw [putF_same] at h2
      cases h2
      rw [hL, List.length_append, List.map_append]
      exact hs
    · rw [putF_other f v' e] at h2
      rw [hL2 _ e]
      have h3 := h.seg q2 v2 h2
      exact h3.far hg.size fun g hgb => hg.block g (h3.lt g hgb).2 fun e2 => by
        obtain ⟨v, hv, hvb⟩ := old g e2.symm
        exact e (h.inj q2 q v2 v g h2 hv hgb hvb)
  · by_cases e : q2 = q
    · subst e
      rw [putF_same] at h2
      cases h2
    · rw [putF_other f v' e] at h2
      rw [hL2 _ e]
      exact h.emp q2 h2
  · by_cases e1 : q1 = q
    · by_cases e2 : q2 = q
      · rw [e1, e2]
      · subst e1
        rw [putF_same] at h1
        cases h1
        rw [putF_other f _ e2] at h2
        rcases hb with hb | hb
        · rw [hb] at g1
          obtain ⟨v, hv, hvb⟩ := old g g1
          exact h.inj q1 q2 v v2 g hv h2 hvb g2
        · have := hb g g1
          have := lt q2 v2 g h2 g2
          omega
    · rw [putF_other f _ e1] at h1
      by_cases e2 : q2 = q
      · subst e2
        rw [putF_same] at h2
        cases h2
        rcases hb with hb | hb
        · rw [hb] at g2
          obtain ⟨v, hv, hvb⟩ := old g g2
          exact h.inj q1 q2 v1 v g h1 hv g1 hvb
        · have := hb g g2
          have := lt q1 v1 g h1 g1
          omega
      · rw [putF_other f _ e2] at h2
        exact h.inj q1 q2 v1 v2 g h1 h2 g1 g2
theorem seg_rowOf {W : World} {B : Nat} {v : Value} {l : List Nat} (h : SegC W B 1 v l.length (l.map natC)) : RowOf natC W.heap.size v l W := by
  rcases h.val with ⟨ao, rfl, h0⟩ | ⟨g, off, cap, rfl, _, _, _, hg, h5, _⟩
  · exact .inl ⟨List.length_eq_zero_iff.1 h0, ao, 0, rfl⟩
  · refine .inr ⟨g, off, cap + 1, rfl, hg, fun i x hx => ?_⟩
    have hi := (List.getElem?_eq_some_iff.1 hx).1
    rw [h5 i (by omega), List.getElem?_map, hx]
    rfl
def availK (X : List RelL) (k : Nat) (p : ByteArray) : List Nat := (List.range k).filter fun i => decide (p = (X.getD i default).path) && !(X.getD i default).yk
theorem availK_all (X : List RelL) (p : ByteArray) : availK X X.length p = availI X p := rfl
theorem availK_succ (X : List RelL) (k : Nat) (p : ByteArray) : availK X (k + 1) p = if (p = (X.getD k default).path ∧ (X.getD k default).yk = false) then availK X k p ++ [k] else availK X k p := by
  unfold availK
  rw [List.range_succ, List.filter_append]
  by_cases h : p = (X.getD k default).path ∧ (X.getD k default).yk = false
  · rw [if_pos h, List.filter_cons, h.2, decide_eq_true h.1]; rfl
  · rw [if_neg h, List.filter_cons]
    have : ¬ ((decide (p = (X.getD k default).path) && !(X.getD k default).yk) = true) := fun e => h (by
      rw [Bool.and_eq_true, decide_eq_true_iff, Bool.not_eq_true'] at e
      exact e)
    rw [if_neg this, List.filter_nil, List.append_nil]
theorem availK_len (X : List RelL) (k : Nat) (p : ByteArray) : (availK X k p).length ≤ k := by
  have := List.length_filter_le (fun i => decide (p = (X.getD i default).path) && !(X.getD i default).yk) (List.range k)
  rw [List.length_range] at this
  exact this
def availL (X : List RelL) (k : Nat) : Lit → List Nat
  | .string b => availK X k ⟨b.toArray⟩
  | _ => []
theorem availL_key (X : List RelL) (k : Nat) (p : ByteArray) : availL X k (.string p.data.toList) = availK X k p := by
  unfold availL
  simp
theorem availL_zero (X : List RelL) (q : Lit) : availL X 0 q = [] := by
  unfold availL
  split <;> rfl
theorem availL_yes {X : List RelL} {k : Nat} (hy : (X.getD k default).yk = false) : availL X (k + 1) (.string (X.getD k default).path.data.toList) = availL X k (.string (X.getD k default).path.data.toList) ++ [k] := by
  rw [availL_key, availL_key, availK_succ, if_pos ⟨rfl, hy⟩]
theorem availL_other {X : List RelL} {k : Nat} (q : Lit) (h : q ≠ .string (X.getD k default).path.data.toList) : availL X (k + 1) q = availL X k q := by
  unfold availL
  split
  · rename_i b
    rw [availK_succ, if_neg]
    rintro ⟨e, _⟩
    apply h
    rw [← e]
  · rfl
theorem availL_no {X : List RelL} {k : Nat} (hy : (X.getD k default).yk = true) (q : Lit) : availL X (k + 1) q = availL X k q := by
  unfold availL
  split
  · rw [availK_succ, if_neg]
    rintro ⟨_, e⟩
    rw [hy] at e
    cases e
  · rfl
structure WorldOf (W : World) (g : Nat) (X : List RelL) (a : Option Addr) (c m n : Nat) (f : Lit → Option Value) : Prop where
  box : W.heap[g]? = some (.cells #[.slice a X.length c, .map (some m)] 86 (0, 0))
  map : MapF Tryz.prog 9 W m n f
  rows : ∀ p : ByteArray, RowOf natC W.heap.size ((f (.string p.data.toList)).getD (.slice none 0 0)) (availI X p) W
  rels : RelsOf W.heap.size (.slice a X.length c) X W
theorem WorldOf.below {W W' : World} {g : Nat} {X : List RelL} {a : Option Addr} {c m n : Nat} {f : Lit → Option Value} (h : WorldOf W g X a c m n f) (hb : RowKit.Below W.heap.size W W') : WorldOf W' g X a c m n f :=
  ⟨(hb.block g (Array.getElem?_eq_some_iff.1 h.box).1).trans h.box, h.map.below hb, fun p => ((h.rows p).below hb (Nat.le_refl _)).mono hb.size, h.rels.on hb⟩
theorem WorldOf.lt {W : World} {g : Nat} {X : List RelL} {a : Option Addr} {c m n : Nat} {f : Lit → Option Value} (h : WorldOf W g X a c m n f) : g < W.heap.size := (Array.getElem?_eq_some_iff.1 h.box).1
theorem WorldOf.c0 {W : World} {g : Nat} {X : List RelL} {a : Option Addr} {c m n : Nat} {f : Lit → Option Value} (h : WorldOf W g X a c m n f) : W.cell? ⟨g, 0, none⟩ = some (.slice a X.length c) := cell_of_row _ _ 0 _ _ _ h.box
theorem WorldOf.c1 {W : World} {g : Nat} {X : List RelL} {a : Option Addr} {c m n : Nat} {f : Lit → Option Value} (h : WorldOf W g X a c m n f) : W.cell? ⟨g, 1, none⟩ = some (.map (some m)) := cell_of_row _ _ 1 _ _ _ h.box
structure NwJ (w : World) (X : List RelL) (v iv : Value) (k : Nat) (W : World) : Prop where
  bel : RowKit.Below w.heap.size w W
  size : w.heap.size + 1 + 1 < W.heap.size
  idx : W.heap[w.heap.size]? = some (.cells #[v, iv] 25 (0, 0))
  wld : W.heap[w.heap.size + 1 + 1]? = some (.cells #[v, .map (some (w.heap.size + 1))] 86 (0, 0))
  map : ∃ f, MapF Tryz.prog 9 W (w.heap.size + 1) k f ∧ PathsL W (w.heap.size + 1 + 1 + 1) f (availL X k)
theorem NwJ.below {w : World} {X : List RelL} {v iv : Value} {k : Nat} {W W' : World} (h : NwJ w X v iv k W) (hb : RowKit.Below W.heap.size W W') : NwJ w X v iv k W' := by
  obtain ⟨h1, h2, h3, h4, f, h5, h6⟩ := h
  exact ⟨h1.trans (hb.mono h1.size), Nat.lt_of_lt_of_le h2 hb.size, (hb.block _ (by omega)).trans h3, (hb.block _ h2).trans h4, f, h5.below hb, h6.below hb⟩
theorem NwJ.start (w : World) (X : List RelL) (v iv : Value) :
    NwJ w X v iv 0 (((w.alloc (.cells #[v, iv] 25)).alloc (.map #[] 0)).alloc (.cells #[v, .map (some (w.heap.size + 1))] 86)) := by
  have hget : ∀ (w : World) (o : Obj) (k : Nat), (w.alloc o).heap[k]? = if k = w.heap.size then some o else w.heap[k]? := fun w o k => by
    show (w.heap.push o)[k]? = _
    rw [Array.getElem?_push]
  refine ⟨(by repeat (first | exact Below.refl _ _ | refine Below.drew ?_ | refine Below.alloc ?_ (by simp <;> omega) _ | refine Below.setCell ?_ (by simp <;> omega) _)), by simp only [World.size_alloc]; omega, ?_, ?_, fun _ => none, ?_, (PathsL.start _ _).same (availL_zero X)⟩
  · simp only [hget, World.size_alloc]; repeat (first | rw [if_pos trivial] | rw [if_neg (by omega)] | rw [if_pos (by omega)])
  · simp only [hget, World.size_alloc]; repeat (first | rw [if_pos trivial] | rw [if_neg (by omega)] | rw [if_pos (by omega)])
  · have := (MapF.made Tryz.prog 9 (w.alloc (.cells #[v, iv] 25))).alloc (.cells #[v, .map (some (w.heap.size + 1))] 86)
    simpa only [World.size_alloc] using this
theorem NwJ.world {w : World} {X : List RelL} {a : Option Addr} {c : Nat} {iv : Value} {W : World} (h : NwJ w X (.slice a X.length c) iv X.length W) (hR : RelsOf w.heap.size (.slice a X.length c) X w) : ∃ f, WorldOf W (w.heap.size + 1 + 1) X a c (w.heap.size + 1) X.length f := by
  obtain ⟨h1, h2, h3, h4, f, h5, h6⟩ := h
  refine ⟨f, h4, h5, fun p => ?_, hR.on h1⟩
  have := h6.get (.string p.data.toList)
  rw [availL_key, availK_all] at this
  exact seg_rowOf this
end Go.Proofs.YtenfkejbndifdaaGreatDoor

namespace Go.Proofs.YtenfkejbndifdaaGreatDoor
set_option linter.unusedVariables false
set_option linter.unusedSimpArgs false
open Go Go.RowKit Go.Maps

def NewW (w : World) (X : List RelL) (e : Ending) (w' : World) : Prop := ∃ g a c m n f, e = .returned (.pointer (some ⟨g, 0, none⟩)) ∧ WorldOf w' g X a c m n f ∧ RowKit.Below w.heap.size w w'
def HeldW (t g m k : Nat) (p : ByteArray) (f : Lit → Option Value) (W : World) : Prop := W.cell? ⟨t, 1, none⟩ = some (.map (some m)) ∧ W.cell? ⟨g, 0, none⟩ = some (.string p) ∧ MapF Tryz.prog 9 W m k f
set_option maxRecDepth 100000 in
set_option maxHeartbeats 8000000 in
theorem newWorld_any (v iv : Value) (X : List RelL) (w : World) (hX : X.length ≤ 1000000) (hq : ∀ x ∈ X, RelBd x) (hR : RelsOf w.heap.size v X w) :
    Calls Tryz.prog 49 #[.agg #[v, iv]] w (NewW w X) := by
  have HR0 := Lib.hid hR
  obtain ⟨ao, cap, rv, rfl, hrv⟩ := hR.rv
  have HRV := Lib.hid hrv
  have HQ := Lib.hid hq
  clear hrv hR hq
  have hmm := @run_makeMap Tryz.prog
  have HJ0 := Lib.hid (NwJ.start w X (.slice ao X.length cap) iv)
  go_enter Tryz.func49, Tryz.ntmps49
  go_upto_region 2 with fail
  generalize ((w.alloc (.cells #[.slice ao X.length cap, iv] 25)).alloc (.map #[] 0)).alloc (.cells #[.slice ao X.length cap, .map (some (w.heap.size + 1))] 86) = W at *
  have c0 : W.cell? ⟨w.heap.size, 0, none⟩ = some (.slice ao X.length cap) := cell_of_row _ _ 0 _ _ _ HJ0.out.idx
  clear hmm
  go_wp2_with fail
  clear c0
  go_loopw [14] (fun p wr => ∃ k : Nat, k ≤ X.length ∧ p = .int .i64 k ∧ Hid (NwJ w X (.slice ao X.length cap) iv k wr)) (fun p _ => X.length - (intOf p).toNat)
  case atStart => exact ⟨0, Nat.zero_le _, rfl, HJ0⟩
  case round =>
    obtain ⟨k, hk, rfl, HJ⟩ := hrel
    by_cases hlt : k < X.length
    case neg =>
      have hk2 : k = X.length := by omega
      subst hk2
      obtain ⟨f, hf⟩ := HJ.out.world HR0.out
      have HF := Lib.hid hf
      clear hf
      go_wp2_with fail
      go_ret
      exact ⟨_, _, _, _, _, f, rfl, HF.out, HJ.out.bel⟩
    case pos =>
      obtain ⟨b, off, rfl, hbl, hcs, hrq⟩ := HRV.out k X[k] (by simp [hlt])
      have hgd : X.getD k default = X[k] := by rw [List.getD_eq_getElem?_getD, List.getElem?_eq_getElem hlt]; rfl
      have hbd := HQ.out X[k] (List.getElem_mem hlt)
      obtain ⟨x, hx⟩ : ∃ x, X[k] = x := ⟨_, rfl⟩
      have HXK := Lib.hid (hgd.trans hx)
      rw [hx] at hcs hrq hbd
      have hps : x.path.size ≤ maxLen := by have := hbd.path; unfold maxLen; omega
      clear hx hgd hbd
      obtain ⟨r, hr⟩ : ∃ r, rv k = r := ⟨_, rfl⟩
      rw [hr] at hcs hrq
      clear hr
      obtain ⟨ra, rc, rfl, _⟩ := hrq
      have hbw : b < wr.heap.size := Nat.lt_of_lt_of_le hbl HJ.out.bel.size
      obtain ⟨d0, d1, d2, d3, d4, d5, d6, d7, d8⟩ := hcs.below HJ.out.bel hbl
      clear hcs
      go_upto_region 5 with fail
      have HJ7 := Lib.hid (HJ.out.below (belQ wr (.cells (relC x (.slice ra x.reqs.length rc)) 71)))
      have HG7 : Hid (BoxR (wr.alloc (.cells (relC x (.slice ra x.reqs.length rc)) 71)) wr.heap.size x (.slice ra x.reqs.length rc)) := Lib.hid (BoxR.made _ _ _)
      have HH : Hid (w.heap.size + 1 + 1 + 1 ≤ wr.heap.size) := Lib.hid HJ.out.size
      obtain ⟨f, hf, hpl⟩ := HJ.out.map
      have HMF := Lib.hid (hf.below (belQ wr (.cells (relC x (.slice ra x.reqs.length rc)) 71)))
      have HPL := Lib.hid (hpl.below (belQ wr (.cells (relC x (.slice ra x.reqs.length rc)) 71)))
      have HLB : Hid (∀ q b, segK ((f q).getD (.slice none 0 0)) = some b → b < wr.heap.size) := Lib.hid (fun q b hb => ((hpl.get q).lt b hb).2)
      clear HJ d0 d1 d2 d3 d4 d5 d6 d7 d8 hbw hbl hf hpl
      simp only [relC] at HJ7 HG7 HMF HPL
      generalize wr.heap.size = g at *
      generalize wr.alloc (.cells #[.string x.path, intC x.ver.1, intC x.ver.2.1, intC x.ver.2.2, .slice ra x.reqs.length rc, .string x.ar, .string x.ifc, .string x.cert, .bool x.yk] 71) = W at *
      obtain ⟨c0, c1, c2, c3, c4, c5, c6, c7, c8⟩ := HG7.out.cells
      obtain ⟨yk, hyk⟩ : ∃ yk, x.yk = yk := ⟨_, rfl⟩
      rw [hyk] at c8
      have HYK : Hid ((X.getD k default).yk = yk) := Lib.hid (by rw [HXK.out]; exact hyk)
      clear c1 c2 c3 c4 c5 c6 c7 hyk
      cases yk with
      | true =>
        have HJ8 : Hid (NwJ w X (.slice (some ⟨b, off, none⟩) X.length cap) iv (k + 1) W) := Lib.hid (by
          obtain ⟨h1, h2, h3, h4, f, h5, h6⟩ := HJ7.out
          exact ⟨h1, h2, h3, h4, f, h5.mono (by omega), h6.same (availL_no HYK.out)⟩)
        go_wp2_with fail
        go_roundw
        case rel => exact ⟨k + 1, by omega, by go_num, HJ8⟩
        case measure => simp [intOf]; omega
      | false =>
        go_upto_region 6 with fail
        clear c0 c8
        obtain ⟨sv, hsv⟩ : ∃ sv, (f (.string x.path.data.toList)).getD (.slice none 0 0) = sv := ⟨_, rfl⟩
        have HSV := Lib.hid hsv
        have hseg := HPL.out.get (.string x.path.data.toList)
        rw [hsv] at hseg
        have hln : (availL X k (.string x.path.data.toList)).length ≤ k := by rw [availL_key]; exact availK_len X k _
        obtain ⟨av, hav⟩ : ∃ av, availL X k (.string x.path.data.toList) = av := ⟨_, rfl⟩
        have HAV := Lib.hid hav
        rw [hav] at hseg hln
        have HSG := Lib.hid hseg
        have HSL : Hid (∀ b, segK sv = some b → b < g) := Lib.hid (fun b hb => HLB.out (.string x.path.data.toList) b (by rw [hsv]; exact hb))
        clear hsv hseg hav
        have HS : Hid (∀ W', RowKit.Below W.heap.size W W' → HeldW (w.heap.size + 1 + 1) g (w.heap.size + 1) k x.path f W') := Lib.hid (fun W' hb => ⟨cell_of_row _ _ 1 _ _ _ (HJ7.out.below hb).wld, (HG7.out.on hb).cells.1, HMF.out.below hb⟩)
        refine wp_region_noPanic ?_
        refine region_plain_split (S := HeldW (w.heap.size + 1 + 1) g (w.heap.size + 1) k x.path f) 16 (by kernel_rfl) (by kernel_rfl) ?_
        simp only [List.take_succ_cons, List.take_zero]
        have hS0 := HS.out W.drew (RowKit.Below.refl _ _).drew
        (refine zl3 0 ?_ rfl ?_ ?_; rotate_left; (· (rintro w ⟨c0, c1, c2⟩; go_simp; try with_reducible rfl)); (try simp only [zl1]))
        (refine zl3 1 ?_ rfl ?_ ?_; rotate_left; (· (rintro w ⟨c0, c1, c2⟩; go_simp; try with_reducible rfl)); (try simp only [zl1]))
        (refine zl3 2 ?_ rfl ?_ ?_; rotate_left; (· (rintro w ⟨c0, c1, c2⟩; go_simp; try with_reducible rfl)); (try simp only [zl1]))
        (refine zl3 3 ?_ rfl ?_ ?_; rotate_left; (· (rintro w ⟨c0, c1, c2⟩; go_simp; try with_reducible rfl)); (try simp only [zl1]))
        (refine zl3 4 ?_ rfl ?_ ?_; rotate_left; (· (rintro w ⟨c0, c1, c2⟩; go_simp; try with_reducible rfl)); (try simp only [zl1]))
        (refine zl3 5 ?_ rfl ?_ ?_; rotate_left; (· (rintro w ⟨c0, c1, c2⟩; go_simp; try with_reducible rfl)); (try simp only [zl1]))
        (refine zl3 6 ?_ rfl ?_ ?_; rotate_left; (· (rintro w ⟨c0, c1, c2⟩; go_simp; try with_reducible rfl)); (try simp only [zl1]))
        (refine zl3 7 ?_ rfl ?_ ?_; rotate_left; (· (rintro w ⟨c0, c1, c2⟩; go_simp; try with_reducible rfl)); (try simp only [zl1]))
        (refine zl3 8 ?_ rfl ?_ ?_; rotate_left; (· (rintro w ⟨c0, c1, c2⟩; go_simp; try with_reducible rfl)); (try simp only [zl1]))
        (refine zl3 9 ?_ rfl ?_ ?_; rotate_left; (· (rintro w ⟨c0, c1, c2⟩; go_simp; try with_reducible rfl)); (try simp only [zl1]))
        (refine zl3 10 ?_ rfl ?_ ?_; rotate_left; (· (rintro w ⟨c0, c1, c2⟩; go_simp; try with_reducible rfl)); (try simp only [zl1]))
        (refine zl3 11 ?_ rfl ?_ ?_; rotate_left; (· (rintro w ⟨c0, c1, c2⟩; go_simp; try with_reducible rfl)); (try simp only [zl1]))
        refine wpAnyH_take (i := 12) (v := sv) rfl (by kernel_rfl) (by kernel_rfl) (by kernel_rfl) (fun _ _ _ h => h) ?look hS0 ?_
        case look =>
          rw [← HSV.out]
          exact yields_look_F rfl _ _ _ rfl 9 79 lawStr Tryz.underlying84 (fun W => Tryz.zeroValue79 W) (w.heap.size + 1) k f (by rfl) (fun W h => h.2.2) (.string x.path) (.string x.path.data.toList) (by rfl) (keyStr hps)
        (try simp only [zl1])
        (refine zl3 13 ?_ rfl ?_ ?_; rotate_left; (· (rintro w ⟨c0, c1, c2⟩; go_simp; try with_reducible rfl)); (try simp only [zl1]))
        obtain ⟨ki, hki, hk1, hk2, hk3⟩ := info_parts info_ints
        have HBS : Hid (RowKit.Below W.heap.size W ((W.alloc (.cells #[.int .i64 (k : Int)] 3)).drew)) := Lib.hid ((RowKit.Below.refl _ _).alloc (Nat.le_refl _) _).drew
        refine wpAnyH_ready (rs := [14]) (by kernel_rfl) (by simp) (AllReadyH.cons rfl (fun K hK => ?_) AllReadyH.nil)
        go_simp
        refine hK.out _ _ (HS.out _ HBS.out) (fun _ => ?_)
        clear hK K hS0
        (try simp only [zl1])
        have HSG9 : Hid (SegC ((W.alloc (.cells #[.int .i64 (k : Int)] 3)).drew) (w.heap.size + 1 + 1 + 1) 1 sv av.length (av.map natC)) := Lib.hid (HSG.out.far HBS.out.size (fun b hb => HBS.out.block b (HSG.out.lt b hb).2))
        have HN9 : Hid (((W.alloc (.cells #[.int .i64 (k : Int)] 3)).drew).heap[W.heap.size]? = some (.cells #[.int .i64 (k : Int)] 3)) := Lib.hid (World.alloc_heap_new W _)
        have HJ9 := Lib.hid (HJ7.out.below HBS.out)
        have HG9 := Lib.hid (HG7.out.on HBS.out)
        have HM9 := Lib.hid (HMF.out.below HBS.out)
        have HL9 := Lib.hid (HPL.out.below HBS.out)
        have hz9 : w.heap.size + 1 + 1 + 1 ≤ (W.alloc (.cells #[.int .i64 (k : Int)] 3)).drew.heap.size := HJ9.out.size
        have HLT : Hid (∀ b, segK sv = some b → w.heap.size + 1 + 1 < b ∧ b < g) := Lib.hid (fun b hb => ⟨by have := (HSG.out.lt b hb).1; omega, HSL.out b hb⟩)
        have HWS := Lib.hid HBS.out.size
        clear HS HJ7 HG7 HMF HPL HSG HBS
        generalize (W.alloc (.cells #[.int .i64 (k : Int)] 3)).drew = W9 at *
        refine wpAnyH_ready (rs := [15]) (by kernel_rfl) (by simp) (AllReadyH.cons rfl (fun K hK => ?_) AllReadyH.nil)
        refine step_append_segC (by rfl) _ _ _ _ (by rfl) 3 ki _ 8 1 Tryz.underlying79 hki hk1 hk2 hk3 rfl (w.heap.size + 1 + 1 + 1) sv av.length (av.map natC) (by rfl) HSG9.out hz9 1 [.int .i64 (k : Int)]
          (Src.ofSlice _ Tryz.underlying79 ⟨W.heap.size, 0, none⟩ 1 1 _ rfl (World.news_of_block HN9.out) (by simp [Value.oneCell'])) (by unfold maxLen; omega) (by omega) ?_
        intro v10 W10 hs10 g10 hb10
        have HJ10 : Hid (RowKit.Below w.heap.size w W10 ∧ w.heap.size + 1 + 1 < W10.heap.size ∧ W10.heap[w.heap.size]? = some (.cells #[.slice (some ⟨b, off, none⟩) X.length cap, iv] 25 (0, 0)) ∧ W10.heap[w.heap.size + 1 + 1]? = some (.cells #[.slice (some ⟨b, off, none⟩) X.length cap, .map (some (w.heap.size + 1))] 86 (0, 0))) := Lib.hid (by
          obtain ⟨h1, h2, h3, h4, _⟩ := HJ9.out
          refine ⟨h1.grown g10 h1.size (fun b hb => by have := (HLT.out b hb).1; omega), Nat.lt_of_lt_of_le h2 g10.size, (g10.block _ (by omega) (fun e => by have := (HLT.out _ e.symm).1; omega)).trans h3, (g10.block _ h2 (fun e => by have := (HLT.out _ e.symm).1; omega)).trans h4⟩)
        have HG10 : Hid (W10.cell? ⟨g, 0, none⟩ = some (.string x.path)) := Lib.hid (cell_of_row _ _ 0 _ _ _ ((g10.block g HG9.out.lt (fun e => by have := (HLT.out _ e.symm).2; omega)).trans HG9.out))
        have hm10 : MapF Tryz.prog 9 W10 (w.heap.size + 1) k f := HM9.out.kept g10 (fun e => by have := (HLT.out _ e.symm).1; omega)
        have HP10 : Hid (PathsL W10 (w.heap.size + 1 + 1 + 1) (putF f (.string x.path.data.toList) v10) (availL X (k + 1))) := Lib.hid (by
          have hxp : (X.getD k default).path = x.path := by rw [HXK.out]
          have h1 := availL_yes HYK.out
          rw [hxp] at h1
          exact HL9.out.put h1 (fun p hp => availL_other p (by rw [hxp]; exact hp)) (by rw [HAV.out]; exact hs10) (by rw [HSV.out]; exact g10) (by rw [HSV.out]; exact hb10))
        refine hK.out _ _ ⟨cell_of_row _ _ 1 _ _ _ HJ10.out.2.2.2, HG10.out, hm10⟩ (fun _ => ?_)
        clear hK K hs10 g10 hb10 HJ9 HG9 HL9 HSG9 HN9 HM9
        (try simp only [zl1])
        refine wpAnyH_done (by kernel_rfl) ?_ _
        show wpList _ _ _ _ _ _
        simp only [List.drop_succ_cons, List.drop_zero]
        refine wpList_put_F rfl _ _ _ _ rfl 9 79 lawStr Tryz.underlying84 (w.heap.size + 1) k f (by rfl) hm10 (by unfold maxLen; omega) _ _ (.string x.path.data.toList) rfl rfl (keyStr hps) ?_
        intro W11 h11 g11
        have HJ11 : Hid (NwJ w X (.slice (some ⟨b, off, none⟩) X.length cap) iv (k + 1) W11) := Lib.hid (by
          obtain ⟨h1, h2, h3, h4⟩ := HJ10.out
          exact ⟨h1.grown g11 h1.size (fun b hb => by cases hb; omega), Nat.lt_of_lt_of_le h2 g11.size, (g11.block _ (by omega) (fun e => by injection e with e; omega)).trans h3, (g11.block _ h2 (fun e => by injection e with e; omega)).trans h4, _, h11, HP10.out.far g11.size (fun b hb hb2 => g11.block b hb2 (by intro e; cases e; omega))⟩)
        clear h11 g11 hm10 HJ10 HP10
        refine NoPanic.normal ?_
        go_wp2_with fail
        go_roundw
        case rel => exact ⟨k + 1, by omega, by go_num, HJ11⟩
        case measure => simp [intOf]; omega
end Go.Proofs.YtenfkejbndifdaaGreatDoor

namespace Go.Proofs.YtenfkejbndifdaaGreatDoor
set_option linter.unusedVariables false
set_option linter.unusedSimpArgs false
open Go Go.RowKit Go.Maps

def optN : Option Nat → Int
  | some i => (i : Int)
  | none => -1
theorem find_at {α : Type} {p : α → Bool} {l : List α} {k : Nat} (hk : k < l.length) (h : ∀ x ∈ l.take k, p x = false) (h2 : p l[k] = true) : l.find? p = some l[k] := by
  have e : l.find? p = (l.take k ++ l.drop k).find? p := by rw [List.take_append_drop]
  rw [e, List.find?_append, List.find?_eq_none.2 (fun x hx => by rw [h x hx]; decide), Option.none_or, List.drop_eq_getElem_cons hk, List.find?_cons_of_pos h2]
theorem WorldOf.rel {W : World} {g : Nat} {X : List RelL} {a : Option Addr} {c m n : Nat} {f : Lit → Option Value} (h : WorldOf W g X a c m n f) {i : Nat} (hi : i < X.length) : ∃ b off ra rc, a = some ⟨b, off, none⟩ ∧ b < W.heap.size ∧
    CellsAt W b (off + i * 9) (X.getD i default) (.slice ra (X.getD i default).reqs.length rc) ∧ ReqsOf W.heap.size (.slice ra (X.getD i default).reqs.length rc) (X.getD i default).reqs W := by
  obtain ⟨ao, cap, e, hel⟩ := h.rels
  injection e with e1 e2 e3
  subst e1
  obtain ⟨b, off, rfl, hbl, r, a0, a1, a2, a3, a4, a5, a6, a7, a8, g9⟩ := hel i X[i] (List.getElem?_eq_getElem hi)
  have hgd : X.getD i default = X[i] := by rw [List.getD_eq_getElem?_getD, List.getElem?_eq_getElem hi]; rfl
  obtain ⟨rr, rcap, rfl⟩ : ∃ rr rcap, r = .slice rr X[i].reqs.length rcap := by obtain ⟨a, c, e, _⟩ := g9; exact ⟨a, c, e⟩
  rw [hgd]
  exact ⟨b, off, rr, rcap, rfl, hbl, ⟨a0, a1, a2, a3, a4, a5, a6, a7, a8⟩, g9⟩
set_option maxRecDepth 100000 in
set_option maxHeartbeats 4000000 in
theorem oldest_any (g : Nat) (X : List RelL) (a : Option Addr) (c m n : Nat) (f : Lit → Option Value) (l : List Nat) (lv : Value) (mn : Int) (w : World) (hw : WorldOf w g X a c m n f) (hv : ∀ i, i < X.length → validB (X.getD i default).ver.1 (X.getD i default).ver.2.1 (X.getD i default).ver.2.2 = true)
    (hl : ∀ i ∈ l, i < X.length) (hll : l.length ≤ 1000000) (hXl : X.length ≤ 1000000) (hL : RowOf natC w.heap.size lv l w) :
    Calls Tryz.prog 51 #[.pointer (some ⟨g, 0, none⟩), lv, .int .i64 mn] w fun e w' => e = .returned (.int .i64 (optN (l.find? (geB X mn)))) ∧ Below w.heap.size w w' := by
  have HW := Lib.hid hw
  have HV := Lib.hid hv
  have HL := Lib.hid hl
  obtain ⟨la, lc, rfl, hat⟩ := rowOf_open hL
  have HAT := Lib.hid hat
  obtain ⟨R, hR⟩ : ∃ R, optN (l.find? (geB X mn)) = R := ⟨_, rfl⟩
  have HR := Lib.hid hR
  rw [hR]
  clear hw hv hl hL hat hR
  go_enter Tryz.func51, Tryz.ntmps51
  go_wp2_with fail
  go_loopw [11] (fun s wr => ∃ k : Nat, k ≤ l.length ∧ s = .int .i64 k ∧ Hid (Below w.heap.size w wr) ∧ Hid (∀ x ∈ l.take k, geB X mn x = false)) (fun s _ => l.length - (intOf s).toNat)
  case atStart => exact ⟨0, by omega, rfl, Lib.hid (Below.refl _ _), Lib.hid (by simp)⟩
  case round =>
    obtain ⟨k, hk, rfl, HB, HA⟩ := hrel
    by_cases hlt : k < l.length
    · have hlt2 : (k : Int) < (l.length : Int) := by omega
      obtain ⟨lb, lo, rfl, hlb, hlc⟩ := HAT.out k l[k] (by simp [hlt])
      have e0 := (HB.out.cell (p := ⟨lb, lo + k, none⟩) hlb).trans hlc
      have HT : Hid (l.take (k + 1) = l.take k ++ [l[k]]) := Lib.hid (List.take_succ_eq_append_getElem hlt)
      have HF : Hid (geB X mn l[k] = true → R = ((l[k] : Nat) : Int)) := Lib.hid (fun h => by rw [← HR.out, find_at hlt HA.out h]; rfl)
      have hix := HL.out l[k] (List.getElem_mem hlt)
      clear hlb hlc
      generalize l[k] = i at *
      obtain ⟨b, off, ra, rc, rfl, hbl, hcs, hrq⟩ := HW.out.rel hix
      obtain ⟨d0, d1, d2, d3, d4, d5, d6, d7, d8⟩ := hcs.below HB.out hbl
      have c0 := (HB.out.cell (p := ⟨g, 0, none⟩) HW.out.lt).trans HW.out.c0
      have HP := Lib.hid (mplace_any (X.getD i default) (.slice ra (X.getD i default).reqs.length rc) wr ⟨_, _, _, rfl⟩ (HV.out i hix))
      have HGE : Hid (geB X mn i = decide (mn ≤ plc (X.getD i default).ver)) := Lib.hid rfl
      clear hcs hrq
      generalize hx : X.getD i default = x at *
      obtain ⟨pl, hpl⟩ : ∃ pl, plc x.ver = pl := ⟨_, rfl⟩
      rw [hpl] at HP HGE
      clear hx hpl
      simp only [relC] at HP
      have hix2 : (i : Int) < (X.length : Int) := by omega
      by_cases hge : mn ≤ pl
      · have hge2 : decide (mn ≤ pl) = true := decide_eq_true hge
        have HQ := Lib.hid (HF.out (HGE.out.trans hge2))
        go_wp2_with fail
        refine HP.out.mono ?_
        rintro e w2 ⟨rfl, hb2⟩
        have HB2 := Lib.hid (HB.out.trans (hb2.mono HB.out.size))
        clear hb2
        go_wp2_with fail
        go_ret
        exact ⟨by rw [HQ.out]; rfl, HB2.out⟩
      · have hge2 : decide (mn ≤ pl) = false := decide_eq_false hge
        have HQ := Lib.hid (HGE.out.trans hge2)
        go_wp2_with fail
        refine HP.out.mono ?_
        rintro e w2 ⟨rfl, hb2⟩
        have HB2 := Lib.hid (HB.out.trans (hb2.mono HB.out.size))
        clear hb2
        go_wp2_with fail
        go_roundw
        case rel =>
          refine ⟨k + 1, by omega, by go_num, HB2, Lib.hid ?_⟩
          rw [HT.out]
          intro y hy
          rcases List.mem_append.1 hy with hy | hy
          · exact HA.out y hy
          · rw [List.mem_singleton] at hy; rw [hy]; exact HQ.out
        case measure => simp [intOf]; omega
    · have hkk : k = l.length := by omega
      subst hkk
      rw [List.take_length] at HA
      have HN := Lib.hid (show R = -1 by rw [← HR.out, List.find?_eq_none.2 (fun x hx => by rw [HA.out x hx]; decide)]; rfl)
      go_wp2_with fail
      go_ret
      exact ⟨by rw [HN.out]; rfl, HB.out⟩
end Go.Proofs.YtenfkejbndifdaaGreatDoor
