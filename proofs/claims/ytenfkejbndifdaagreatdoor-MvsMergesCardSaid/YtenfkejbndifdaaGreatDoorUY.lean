/- What the card shares: arguments opened and read again. Minimal version selection, plain: where a requirement is put into a sorted list. -/
import Derived.Test.YtenfkejbndifdaaGreatDoorUI
import Derived.Test.YtenfkejbndifdaaGreatDoorRows
import Derived.ProofKit
import Derived.OpenShut
import Derived.Deep.DeepHandedRow
import Derived.Deep.Slices
import Derived.Deep.SlicePairs
import Derived.Shelf.Vars
import Derived.Lay
import Derived.Carry
import Derived.Lib.SmallJoins
import Derived.Test.YtenfkejbndifdaaGreatDoorUX
import Derived.Test.YtenfkejbndifdaaGreatDoorUW
namespace Go.Proofs.YtenfkejbndifdaaGreatDoor
set_option linter.unusedVariables false
set_option linter.unusedSimpArgs false
open Go.ChangeShapes Go.WideShapes Go.ChangeAt Go.RowKit
open Go.ChangeMaps (open_string shut_string)

theorem ownK : ownKnob Tryz.prog.godebug = none := by kernel_rfl
theorem laidOutK : laidOutB Tryz.prog = true := by kernel_rfl
theorem maxOkK {W : World} (h : W.ShapedOpen Tryz.prog) : MaxOk W :=
  cell_of_shapedOpen_int (g := 0) (t := 3) (zero := #[.int .i64 0]) h (of_decide_eq_true (by kernel_rfl)) (by kernel_rfl) rfl (by kernel_rfl) (by kernel_rfl) Tryz.underlying3
theorem trodAll_belowPK {P : Program} (laidOutK : laidOutB P = true) {H : Type} {enc : TypeId × Value → H} {W W' : World} (hb : Below W.heap.size W W') : ∀ {ts : List TypeId} {vs : List Value} {ds : List (DataW H)} {ps : List MemPlace},
    (ts.all fun t => P.readableRec t && decide (t < P.types.size)) = true → DataW.TrodAll enc P W 0 (fun _ => true) true ts vs ds ps → (∀ x ∈ ps, x.block < W.heap.size) →
    DataW.TrodAll enc P W' 0 (fun b => decide (b < W.heap.size)) true ts vs ds ps
  | [], vs, ds, ps, _, h, _ => by
    obtain ⟨rfl, rfl, rfl⟩ := trodAll_nil h
    exact trodAll_mk0
  | t :: ts, vs, ds, ps, hr, h, hlt => by
    obtain ⟨v, vs', d, ds', p, q, rfl, rfl, rfl, hd, hrest⟩ := trodAll_cons h
    simp only [List.all_cons, Bool.and_eq_true, decide_eq_true_eq] at hr
    exact ⟨p, q, Below.trod laidOutK hr.1.1 hr.1.2 hd hb (fun x hx => hlt x (by simp [hx])), trodAll_belowPK laidOutK hb hr.2 hrest (fun x hx => hlt x (by simp [hx])), rfl⟩
theorem spot_noneK {W : World} {a : Addr} {v : Value} (h : W.cell? a = some v) : a.spot = none := by
  unfold World.cell? at h
  cases e : a.spot with
  | none => rfl
  | some j =>
    exfalso
    rw [e] at h
    revert h
    split <;> simp
theorem add_noneK (b o i : Nat) : Addr.add ⟨b, o, none⟩ i = ⟨b, o + i, none⟩ := by unfold Addr.add; split <;> simp_all
theorem open_rowsK {α : Type} [Inhabited α] (Q : α → List Value → Prop) {H : Type} {enc : TypeId × Value → H} {W : World} {fuel : Nat} {v : Value} {x : DataW H × List MemPlace} {t e : TypeId} {c : Nat} (ht : Tryz.prog.underlying t = some (.slice e)) (hc : Tryz.prog.cellsOf e = c) (hc0 : 0 < c)
    (hel : ∀ (n : Nat) (cs : List Value) (y : DataW H × List MemPlace), DataW.trod enc Tryz.prog W 0 (fun _ => true) true n e cs = some y → (∀ p ∈ y.2, p.block < W.heap.size) → ∃ z : α, Q z cs)
    (h : DataW.trod enc Tryz.prog W 0 (fun _ => true) true fuel t [v] = some x) (hlt : ∀ y ∈ x.2, y.block < W.heap.size) :
    ∃ (ao : Option Addr) (cap : Nat) (l : List α), v = .slice ao l.length cap ∧ l.length ≤ maxLen ∧ ∀ i z, l[i]? = some z → ∃ b off cs, ao = some ⟨b, off, none⟩ ∧ b < W.heap.size ∧ Q z cs ∧ ∀ j, j < c → W.cell? ⟨b, off + i * c + j, none⟩ = cs[j]? := by
  rcases Go.Deep.open_slice ht h with ⟨h2, _⟩ | ⟨a, len, cap, m, n2, D, Pl, h2, _, h3, h4, h5, h6, h7⟩
  · cases h2
    exact ⟨none, 0, [], rfl, Nat.zero_le _, fun i s hs => by simp at hs⟩
  · cases h2
    rw [if_pos rfl] at h5
    subst h5
    rw [hc] at h6 h7
    have hp : ∀ i, i < m → ∀ y ∈ Pl i, y.block < W.heap.size := fun i hi y hy => hlt y (by
      rw [h6]
      exact List.mem_append.2 (.inr (List.mem_flatMap.2 ⟨i, List.mem_range.2 hi, hy⟩)))
    have key : ∀ i, i < m → ∃ z : α × List Value, Q z.1 z.2 ∧ z.2.length = c ∧ ∀ j, j < c → W.cell? ((a.add (i * c)).add j) = z.2[j]? := fun i hi => by
      obtain ⟨cs, g1, g2⟩ := h7 i hi
      obtain ⟨_, hcl, g3⟩ := World.cells?_some g1
      obtain ⟨z, hz⟩ := hel n2 cs (D i, Pl i) g2 (hp i hi)
      exact ⟨(z, cs), hz, hcl, g3⟩
    haveI : Inhabited (α × List Value) := ⟨(default, [])⟩
    obtain ⟨F, hF⟩ := Go.Deep.choose_lt key
    have hlen : ((List.range len).map fun i => (F i).1).length = len := by simp
    refine ⟨some a, m, (List.range len).map fun i => (F i).1, by rw [hlen], by rw [hlen]; omega, fun i s hs => ?_⟩
    have hi : i < len := by have := (List.getElem?_eq_some_iff.1 hs).1; rw [hlen] at this; exact this
    rw [List.getElem?_map, List.getElem?_range hi] at hs
    cases hs
    obtain ⟨hQ, hcl, c0⟩ := hF i (by omega)
    obtain ⟨ab, ao, aq⟩ := a
    have hq : aq = none := by
      obtain ⟨_, g2, g3⟩ := hF 0 (by omega)
      have g4 := g3 0 hc0
      rw [List.getElem?_eq_getElem (by omega)] at g4
      have := spot_noneK g4
      simpa [Addr.add] using this
    subst hq
    refine ⟨ab, ao, (F i).2, rfl, ?_, hQ, fun j hj => ?_⟩
    · exact hlt (.cell ab ao) (by
        rw [h6]
        exact List.mem_append.2 (.inl (MemPlace.mem_row.2 ⟨0, Nat.mul_pos (by omega) hc0, by simp⟩)))
    · have := c0 j hj
      rwa [add_noneK, add_noneK] at this
set_option maxRecDepth 100000 in
theorem open_setK {H : Type} {enc : TypeId × Value → H} {W : World} {fuel : Nat} {v : Value} {x : DataW H × List MemPlace} (h : DataW.trod enc Tryz.prog W 0 (fun _ => true) true fuel 56 [v] = some x)
    (hlt : ∀ y ∈ x.2, y.block < W.heap.size) : ∃ es : List (Int × Int), SpansOf W.heap.size v es W := by
  obtain ⟨ao, cap, l, rfl, _, hl⟩ := open_rowsK (fun (z : Int × Int) cs => cs = [intC z.1, intC z.2]) Tryz.underlying56 (c := 2) (by as_aux_lemma => kernel_rfl) (by omega) (fun n cs y hy _ => by
    obtain ⟨y0, y1, m, _, hl, h0, h1⟩ := trod_struct2 Tryz.underlying133 hy
    have hl : cs.length = 2 := hl.trans (by as_aux_lemma => kernel_rfl)
    have hc : Tryz.prog.cellsOf 3 = 1 := by as_aux_lemma => kernel_rfl
    match cs, hl with
    | [c0, c1], _ =>
      simp only [hc] at h0 h1
      obtain ⟨z0, e0, _⟩ := DataW.trod_int Tryz.underlying3 h0
      obtain ⟨z1, e1, _⟩ := DataW.trod_int Tryz.underlying3 h1
      have e0 : c0 = .int .i64 z0 := (List.cons.inj (show [c0] = [.int .i64 z0] from e0)).1
      have e1 : c1 = .int .i64 z1 := (List.cons.inj (show [c1] = [.int .i64 z1] from e1)).1
      exact ⟨(z0, z1), by rw [e0, e1]⟩) h hlt
  refine ⟨l, ao, cap, rfl, fun i x hx => ?_⟩
  obtain ⟨b, off, cs, rfl, hb, rfl, hj⟩ := hl i x hx
  exact ⟨b, off, rfl, hb, hj 0 (by omega), hj 1 (by omega)⟩
set_option maxRecDepth 100000 in
theorem open_reqsK {H : Type} {enc : TypeId × Value → H} {W : World} {fuel : Nat} {v : Value} {x : DataW H × List MemPlace} (h : DataW.trod enc Tryz.prog W 0 (fun _ => true) true fuel 26 [v] = some x)
    (hlt : ∀ y ∈ x.2, y.block < W.heap.size) : ∃ l : List ReqL, ReqsOf W.heap.size v l W ∧ l.length ≤ maxLen := by
  obtain ⟨ao, cap, l, rfl, hm, hl⟩ := open_rowsK (fun (q : ReqL) cs => ∃ r, cs = [.string q.1, r] ∧ SpansOf W.heap.size r q.2 W) Tryz.underlying26 (c := 2) (by as_aux_lemma => kernel_rfl) (by omega) (fun n cs y hy hp => by
    obtain ⟨y0, y1, m, rfl, hl, h0, h1⟩ := trod_struct2 Tryz.underlying58 hy
    have hl : cs.length = 2 := hl.trans (by as_aux_lemma => kernel_rfl)
    have hc : Tryz.prog.cellsOf 9 = 1 := by as_aux_lemma => kernel_rfl
    have hc2 : Tryz.prog.cellsOf 56 = 1 := by as_aux_lemma => kernel_rfl
    match cs, hl with
    | [c0, c1], _ =>
      simp only [hc, hc2] at h0 h1
      obtain ⟨z0, e0, _⟩ := DataW.trod_string Tryz.underlying9 h0
      obtain ⟨es, hs⟩ := open_setK (show DataW.trod enc Tryz.prog W 0 (fun _ => true) true m 56 [c1] = some y1 from h1) (fun y hy => hp y (List.mem_append.2 (.inr hy)))
      have e0 : c0 = .string z0 := (List.cons.inj (show [c0] = [.string z0] from e0)).1
      exact ⟨(z0, es), c1, by rw [e0], hs⟩) h hlt
  refine ⟨l, ⟨ao, cap, rfl, fun i x hx => ?_⟩, hm⟩
  obtain ⟨b, off, cs, rfl, hb, ⟨r, rfl, hs⟩, hj⟩ := hl i x hx
  exact ⟨b, off, r, rfl, hb, hj 0 (by omega), hj 1 (by omega), hs⟩
theorem intOk_ofK {z : Int} (h : (Lit.int .i64 z).wf = true) : IntOk z := by
  unfold IntOk
  simp [Lit.wf, IntKind.min, IntKind.max, IntKind.signed, IntKind.bits] at h
  omega
set_option maxRecDepth 100000 in
theorem ver_cellsK {H : Type} {enc : TypeId × Value → H} {W : World} {sp : Nat → Bool} {n : Nat} {cs : List Value} {x : DataW H × List MemPlace} (h : DataW.trod enc Tryz.prog W 0 sp true n 41 cs = some x) :
    ∃ a b c : Int, cs = [.int .i64 a, .int .i64 b, .int .i64 c] ∧ IntOk a ∧ IntOk b ∧ IntOk c := by
  obtain ⟨y0, y1, y2, m, _, hl, h0, h1, h2⟩ := Go.Deep.trod_struct3 Tryz.underlying41 h
  have hl : cs.length = 3 := hl.trans (by as_aux_lemma => kernel_rfl)
  have hc : Tryz.prog.cellsOf 3 = 1 := by as_aux_lemma => kernel_rfl
  match cs, hl with
  | [c0, c1, c2], _ =>
    simp only [hc] at h0 h1 h2
    obtain ⟨z0, e0, _, w0⟩ := DataW.trod_int Tryz.underlying3 h0
    obtain ⟨z1, e1, _, w1⟩ := DataW.trod_int Tryz.underlying3 h1
    obtain ⟨z2, e2, _, w2⟩ := DataW.trod_int Tryz.underlying3 h2
    have e0 : c0 = .int .i64 z0 := (List.cons.inj (show [c0] = [.int .i64 z0] from e0)).1
    have e1 : c1 = .int .i64 z1 := (List.cons.inj (show [c1] = [.int .i64 z1] from e1)).1
    have e2 : c2 = .int .i64 z2 := (List.cons.inj (show [c2] = [.int .i64 z2] from e2)).1
    exact ⟨z0, z1, z2, by rw [e0, e1, e2], intOk_ofK w0, intOk_ofK w1, intOk_ofK w2⟩
set_option maxRecDepth 100000 in
theorem sel_cellsK {H : Type} {enc : TypeId × Value → H} {W : World} {sp : Nat → Bool} {n : Nat} {cs : List Value} {x : DataW H × List MemPlace} (h : DataW.trod enc Tryz.prog W 0 sp true n 43 cs = some x) :
    ∃ y : SelL, cs = selC y ∧ SelBd y := by
  obtain ⟨y0, y1, m, _, hl, h0, h1⟩ := trod_struct2 Tryz.underlying43 h
  have hl : cs.length = 4 := hl.trans (by as_aux_lemma => kernel_rfl)
  have hc : Tryz.prog.cellsOf 9 = 1 := by as_aux_lemma => kernel_rfl
  have hc2 : Tryz.prog.cellsOf 41 = 3 := by as_aux_lemma => kernel_rfl
  match cs, hl with
  | [c0, c1, c2, c3], _ =>
    simp only [hc, hc2] at h0 h1
    obtain ⟨z0, e0, _, w0⟩ := DataW.trod_string Tryz.underlying9 h0
    obtain ⟨a, b, c, e1, w1, w2, w3⟩ := ver_cellsK (show DataW.trod enc Tryz.prog W 0 sp true m 41 [c1, c2, c3] = some y1 from h1)
    have e0 : c0 = .string z0 := (List.cons.inj (show [c0] = [.string z0] from e0)).1
    injection e1 with e1 e2
    injection e2 with e2 e3
    injection e3 with e3 _
    exact ⟨(z0, (a, b, c)), by rw [e0, e1, e2, e3]; rfl, ⟨w0, w1, w2, w3⟩⟩
set_option maxRecDepth 100000 in
theorem open_selsK {H : Type} {enc : TypeId × Value → H} {W : World} {fuel : Nat} {v : Value} {x : DataW H × List MemPlace} (h : DataW.trod enc Tryz.prog W 0 (fun _ => true) true fuel 27 [v] = some x)
    (hlt : ∀ y ∈ x.2, y.block < W.heap.size) : ∃ l : List SelL, SelsOf W.heap.size v l W ∧ l.length ≤ maxLen ∧ ∀ y ∈ l, SelBd y := by
  obtain ⟨ao, cap, l, rfl, hm, hl⟩ := open_rowsK (fun (q : SelL) cs => cs = selC q ∧ SelBd q) Tryz.underlying27 (c := 4) (by as_aux_lemma => kernel_rfl) (by omega) (fun n cs y hy hp => sel_cellsK hy) h hlt
  refine ⟨l, ⟨ao, cap, rfl, fun i x hx => ?_⟩, hm, fun y hy => ?_⟩
  · obtain ⟨b, off, cs, rfl, hb, ⟨rfl, hs⟩, hj⟩ := hl i x hx
    exact ⟨b, off, rfl, hb, hj 0 (by omega), hj 1 (by omega), hj 2 (by omega), hj 3 (by omega)⟩
  · obtain ⟨i, hi, rfl⟩ := List.mem_iff_getElem.1 hy
    obtain ⟨b, off, cs, _, _, ⟨_, hs⟩, _⟩ := hl i l[i] (List.getElem?_eq_getElem hi)
    exact hs
theorem trod_struct7K {P : Program} {H : Type} {enc : TypeId × Value → H} {w : World} {base : Nat} {spare : Nat → Bool} {held : Bool} {t : TypeId} {f0 f1 f2 f3 f4 f5 f6 : Field} {fuel : Nat} {cs : List Value} {x : DataW H × List MemPlace} (ht : P.underlying t = some (.struct #[f0, f1, f2, f3, f4, f5, f6])) (h : DataW.trod enc P w base spare held fuel t cs = some x) :
    ∃ y0 y1 y2 y3 y4 y5 y6 n, x = (.agg [y0.1, y1.1, y2.1, y3.1, y4.1, y5.1, y6.1], y0.2 ++ (y1.2 ++ (y2.2 ++ (y3.2 ++ (y4.2 ++ (y5.2 ++ y6.2)))))) ∧ cs.length = P.cellsOf t ∧ DataW.trod enc P w base spare held n f0.type ((cs.drop f0.offset).take (P.cellsOf f0.type)) = some y0 ∧ DataW.trod enc P w base spare held n f1.type ((cs.drop f1.offset).take (P.cellsOf f1.type)) = some y1 ∧ DataW.trod enc P w base spare held n f2.type ((cs.drop f2.offset).take (P.cellsOf f2.type)) = some y2 ∧ DataW.trod enc P w base spare held n f3.type ((cs.drop f3.offset).take (P.cellsOf f3.type)) = some y3 ∧ DataW.trod enc P w base spare held n f4.type ((cs.drop f4.offset).take (P.cellsOf f4.type)) = some y4 ∧ DataW.trod enc P w base spare held n f5.type ((cs.drop f5.offset).take (P.cellsOf f5.type)) = some y5 ∧ DataW.trod enc P w base spare held n f6.type ((cs.drop f6.offset).take (P.cellsOf f6.type)) = some y6 := by
  obtain ⟨xs, n, _, rfl, hl, hlen, hf⟩ := DataW.trod_struct ht h
  match xs, hlen with
  | [y0, y1, y2, y3, y4, y5, y6], _ => exact ⟨y0, y1, y2, y3, y4, y5, y6, n, by simp, hl, by simpa using hf 0 f0 rfl, by simpa using hf 1 f1 rfl, by simpa using hf 2 f2 rfl, by simpa using hf 3 f3 rfl, by simpa using hf 4 f4 rfl, by simpa using hf 5 f5 rfl, by simpa using hf 6 f6 rfl⟩
set_option maxRecDepth 100000 in
theorem rel_cellsK {H : Type} {enc : TypeId × Value → H} {W : World} {n : Nat} {cs : List Value} {x : DataW H × List MemPlace} (h : DataW.trod enc Tryz.prog W 0 (fun _ => true) true n 71 cs = some x) (hp : ∀ y ∈ x.2, y.block < W.heap.size) :
    ∃ (z : RelL) (r : Value), cs = (relC z r).toList ∧ ReqsOf W.heap.size r z.reqs W ∧ z.reqs.length ≤ maxLen := by
  obtain ⟨y0, y1, y2, y3, y4, y5, y6, m, rfl, hl, h0, h1, h2, h3, h4, h5, h6⟩ := trod_struct7K Tryz.underlying71 h
  have hl : cs.length = 9 := hl.trans (by as_aux_lemma => kernel_rfl)
  have hc : Tryz.prog.cellsOf 9 = 1 := by as_aux_lemma => kernel_rfl
  have hc2 : Tryz.prog.cellsOf 41 = 3 := by as_aux_lemma => kernel_rfl
  have hc3 : Tryz.prog.cellsOf 26 = 1 := by as_aux_lemma => kernel_rfl
  have hc4 : Tryz.prog.cellsOf 4 = 1 := by as_aux_lemma => kernel_rfl
  match cs, hl with
  | [c0, c1, c2, c3, c4, c5, c6, c7, c8], _ =>
    simp only [hc, hc2, hc3, hc4] at h0 h1 h2 h3 h4 h5 h6
    obtain ⟨z0, e0, _⟩ := DataW.trod_string Tryz.underlying9 h0
    obtain ⟨a, b, c, e1, _⟩ := ver_cellsK (show DataW.trod enc Tryz.prog W 0 (fun _ => true) true m 41 [c1, c2, c3] = some y1 from h1)
    obtain ⟨l, hr, hll⟩ := open_reqsK (show DataW.trod enc Tryz.prog W 0 (fun _ => true) true m 26 [c4] = some y2 from h2) (fun y hy => hp y (by simp [hy]))
    obtain ⟨z3, e3, _⟩ := DataW.trod_string Tryz.underlying9 h3
    obtain ⟨z4, e4, _⟩ := DataW.trod_string Tryz.underlying9 h4
    obtain ⟨z5, e5, _⟩ := DataW.trod_string Tryz.underlying9 h5
    obtain ⟨z6, e6, _⟩ := DataW.trod_bool Tryz.underlying4 h6
    have e0 : c0 = .string z0 := (List.cons.inj (show [c0] = [.string z0] from e0)).1
    have e3 : c5 = .string z3 := (List.cons.inj (show [c5] = [.string z3] from e3)).1
    have e4 : c6 = .string z4 := (List.cons.inj (show [c6] = [.string z4] from e4)).1
    have e5 : c7 = .string z5 := (List.cons.inj (show [c7] = [.string z5] from e5)).1
    have e6 : c8 = .bool z6 := (List.cons.inj (show [c8] = [.bool z6] from e6)).1
    injection e1 with e1 e2
    injection e2 with e2 e7
    injection e7 with e7 _
    exact ⟨⟨z0, (a, b, c), l, z3, z4, z5, z6⟩, c4, by rw [e0, e1, e2, e7, e3, e4, e5, e6]; rfl, hr, hll⟩
set_option maxRecDepth 100000 in
theorem open_relsK {H : Type} {enc : TypeId × Value → H} {W : World} {fuel : Nat} {v : Value} {x : DataW H × List MemPlace} (h : DataW.trod enc Tryz.prog W 0 (fun _ => true) true fuel 22 [v] = some x)
    (hlt : ∀ y ∈ x.2, y.block < W.heap.size) : ∃ X : List RelL, RelsOf W.heap.size v X W ∧ X.length ≤ maxLen ∧ ∀ x ∈ X, x.reqs.length ≤ maxLen := by
  obtain ⟨ao, cap, l, rfl, hm, hl⟩ := open_rowsK (fun (z : RelL) cs => ∃ r, cs = (relC z r).toList ∧ ReqsOf W.heap.size r z.reqs W ∧ z.reqs.length ≤ maxLen) Tryz.underlying22 (c := 9) (by as_aux_lemma => kernel_rfl) (by omega) (fun n cs y hy hp => rel_cellsK hy hp) h hlt
  refine ⟨l, ⟨ao, cap, rfl, fun i x hx => ?_⟩, hm, fun y hy => ?_⟩
  · obtain ⟨b, off, cs, rfl, hb, ⟨r, rfl, hs, _⟩, hj⟩ := hl i x hx
    exact ⟨b, off, rfl, hb, r, hj 0 (by omega), hj 1 (by omega), hj 2 (by omega), hj 3 (by omega), hj 4 (by omega), hj 5 (by omega), hj 6 (by omega), hj 7 (by omega), hj 8 (by omega), hs⟩
  · obtain ⟨i, hi, rfl⟩ := List.mem_iff_getElem.1 hy
    obtain ⟨b, off, cs, _, _, ⟨_, _, _, hs⟩, _⟩ := hl i l[i] (List.getElem?_eq_getElem hi)
    exact hs
set_option maxRecDepth 100000 in
theorem open_indexK {H : Type} {enc : TypeId × Value → H} {W : World} {r : Reach} {b0 : Nat} {v : Value} {d : DataW H} {p : List MemPlace} (hv : Value.okWide Tryz.prog W r b0 25 v) (h : DataW.Trod enc Tryz.prog W 0 (fun _ => true) true 25 v d p)
    (hlt : ∀ y ∈ p, y.block < W.heap.size) : ∃ (a : Option Addr) (c : Nat) (iv : Value) (X : List RelL), v = .agg #[.slice a X.length c, iv] ∧ RelsOf W.heap.size (.slice a X.length c) X W ∧ X.length ≤ maxLen ∧ ∀ x ∈ X, x.reqs.length ≤ maxLen := by
  obtain ⟨v0, v1, y0, y1, n, rfl, _, rfl, h0, h1⟩ := Go.Joins.open_agg2 Tryz.underlying25 (by as_aux_lemma => kernel_rfl) (by as_aux_lemma => kernel_rfl) hv h
  obtain ⟨X, hR, h2, h3⟩ := open_relsK h0 (fun y hy => hlt y (List.mem_append.2 (.inl hy)))
  obtain ⟨a, c, rfl, h4⟩ := hR
  exact ⟨a, c, v1, X, rfl, ⟨a, c, rfl, h4⟩, h2, h3⟩

set_option maxRecDepth 100000 in
theorem open_listsK {H : Type} {enc : TypeId × Value → H} {W : World} {fuel : Nat} {v : Value} {x : DataW H × List MemPlace} (h : DataW.trod enc Tryz.prog W 0 (fun _ => true) true fuel 45 [v] = some x)
    (hlt : ∀ y ∈ x.2, y.block < W.heap.size) : ∃ ls : List (List ReqL), ListsOf W.heap.size v ls W ∧ ls.length ≤ maxLen ∧ ∀ l ∈ ls, l.length ≤ maxLen := by
  obtain ⟨ao, cap, l, rfl, hm, hl⟩ := open_rowsK (fun (q : List ReqL) cs => ∃ r, cs = [r] ∧ ReqsOf W.heap.size r q W ∧ q.length ≤ maxLen) Tryz.underlying45 (c := 1) (by as_aux_lemma => kernel_rfl) (by omega) (fun n cs y hy hp => by
    have hcs : ∃ c0, cs = [c0] := by
      rcases Go.Deep.open_slice Tryz.underlying26 hy with ⟨e, _⟩ | ⟨_, _, _, _, _, _, _, e, _⟩
      · exact ⟨_, e⟩
      · exact ⟨_, e⟩
    obtain ⟨c0, rfl⟩ := hcs
    obtain ⟨q, hq, hm⟩ := open_reqsK hy hp
    exact ⟨q, c0, rfl, hq, hm⟩) h hlt
  refine ⟨l, ⟨ao, cap, rfl, fun i x hx => ?_⟩, hm, fun y hy => ?_⟩
  · obtain ⟨b, off, cs, rfl, hb, ⟨r, rfl, hs, _⟩, hj⟩ := hl i x hx
    have h0 := hj 0 (by omega)
    rw [Nat.mul_one, Nat.add_zero] at h0
    exact ⟨b, off, r, rfl, hb, h0, hs⟩
  · obtain ⟨i, hi, rfl⟩ := List.mem_iff_getElem.1 hy
    obtain ⟨b, off, cs, _, _, ⟨_, _, _, hs⟩, _⟩ := hl i l[i] (List.getElem?_eq_getElem hi)
    exact hs
end Go.Proofs.YtenfkejbndifdaaGreatDoor

namespace Go.Proofs.YtenfkejbndifdaaGreatDoor
set_option linter.unusedVariables false
set_option linter.unusedSimpArgs false
open Go

theorem insM_skip {out : List ReqL} {q : ReqL} : ∀ {l : List ReqL}, (∀ r ∈ l, ltB r.1 q.1 = true) → insM (l ++ out) q = l ++ insM out q
  | [], _ => rfl
  | r :: l, h => by
    show insM (r :: (l ++ out)) q = r :: (l ++ insM out q)
    conv => lhs; unfold insM
    rw [if_pos (h r (by simp)), insM_skip fun x hx => h x (by simp [hx])]
theorem insM_hit {L : List ReqL} {k : Nat} {q : ReqL} (hk : k < L.length) (h : ∀ r ∈ L.take k, ltB r.1 q.1 = true) (he : L[k].1 = q.1) : insM L q = L.set k (L[k].1, interS [L[k].2, q.2]) := by
  rw [List.set_eq_take_append_cons_drop, if_pos hk]
  conv => lhs; rw [← List.take_append_drop k L, List.drop_eq_getElem_cons hk]
  rw [insM_skip h]
  conv => lhs; arg 2; unfold insM
  rw [if_neg (by rw [he, ltB_irrefl]; exact fun e => by cases e), if_pos he]
theorem insM_miss {L : List ReqL} {k : Nat} {q : ReqL} (hk : k ≤ L.length) (h : ∀ r ∈ L.take k, ltB r.1 q.1 = true) (h2 : ∀ hk : k < L.length, ¬ ltB L[k].1 q.1 = true ∧ L[k].1 ≠ q.1) : insM L q = L.take k ++ q :: L.drop k := by
  conv => lhs; rw [← List.take_append_drop k L]
  rw [insM_skip h]
  congr 1
  by_cases hlt : k < L.length
  · obtain ⟨h3, h4⟩ := h2 hlt
    rw [List.drop_eq_getElem_cons hlt]
    conv => lhs; unfold insM
    rw [if_neg h3, if_neg h4]
  · rw [List.drop_eq_nil_of_le (by omega)]
    rfl
theorem insM_size : ∀ {L : List ReqL} {q : ReqL}, (insM L q).length ≤ L.length + 1
  | [], q => by simp [insM]
  | r :: L, q => by
    have ih := @insM_size L q
    unfold insM
    split
    · simp only [List.length_cons]; omega
    · split <;> simp
end Go.Proofs.YtenfkejbndifdaaGreatDoor

namespace Go.Proofs.YtenfkejbndifdaaGreatDoor
set_option linter.unusedVariables false
set_option linter.unusedSimpArgs false
open Go

def candB (X : List RelL) (q : ReqL) (i : Nat) : Bool := reachB q (X.getD i default) && !(X.getD i default).yk
def candK (X : List RelL) (q : ReqL) (k : Nat) : List Nat := (List.range k).filter (candB X q)
theorem candK_succ (X : List RelL) (q : ReqL) (k : Nat) : candK X q (k + 1) = candK X q k ++ (if candB X q k = true then [k] else []) := by
  unfold candK
  rw [List.range_succ, List.filter_append]
  congr 1
  by_cases h : candB X q k = true
  · rw [if_pos h, List.filter_cons_of_pos h]; rfl
  · rw [if_neg h, List.filter_cons_of_neg h]; rfl
def namedK (nw : Bool) (X : List RelL) (q : ReqL) (k : Nat) : Option Nat := if nw = true then (candK X q k).getLast? else (candK X q k).head?
theorem namedK_zero (nw : Bool) (X : List RelL) (q : ReqL) : namedK nw X q 0 = none := by
  unfold namedK candK
  cases nw <;> simp
theorem namedK_all (nw : Bool) (X : List RelL) (q : ReqL) : namedK nw X q X.length = namedI nw X q := rfl
theorem namedK_no {nw : Bool} {X : List RelL} {q : ReqL} {k : Nat} (h : candB X q k = false) : namedK nw X q (k + 1) = namedK nw X q k := by
  have hc : candK X q (k + 1) = candK X q k := by rw [candK_succ, if_neg (by rw [h]; decide), List.append_nil]
  unfold namedK
  rw [hc]
theorem namedK_keep {X : List RelL} {q : ReqL} {k i : Nat} (h : namedK false X q k = some i) : namedK false X q (k + 1) = some i := by
  unfold namedK at h ⊢
  rw [if_neg (by decide)] at h ⊢
  rw [candK_succ, List.head?_append, h]
  rfl
theorem namedK_put {nw : Bool} {X : List RelL} {q : ReqL} {k : Nat} (h : candB X q k = true) (h2 : nw = true ∨ namedK nw X q k = none) : namedK nw X q (k + 1) = some k := by
  have hc : candK X q (k + 1) = candK X q k ++ [k] := by rw [candK_succ, if_pos h]
  unfold namedK at h2 ⊢
  rw [hc]
  by_cases hn : nw = true
  · rw [if_pos hn, List.getLast?_concat]
  · rw [if_neg hn] at h2 ⊢
    rcases h2 with h2 | h2
    · exact absurd h2 hn
    · rw [List.head?_append, h2]
      rfl
def optI : Option Nat → Int
  | some i => (i : Int)
  | none => -1
structure RchT (nw : Bool) (X : List RelL) (roots todo : List ReqL) (i : Nat) (s : List Nat) : Prop where
  le : i ≤ todo.length
  nod : s.Nodup
  rch : ∀ k ∈ s, RchM nw X roots k
  root : ∀ q ∈ roots, q ∈ todo
  own : ∀ k ∈ s, ∀ q ∈ (X.getD k default).reqs, q ∈ todo
  src : ∀ q ∈ todo, q ∈ roots ∨ ∃ k ∈ s, q ∈ (X.getD k default).reqs
  done : ∀ j, j < i → ∃ k ∈ s, namedI nw X (todo.getD j default) = some k
  len : todo.length ≤ roots.length + 16 * s.length
variable {nw : Bool} {X : List RelL} {roots todo : List ReqL} {i : Nat} {s : List Nat}
theorem RchT.start : RchT nw X roots roots 0 [] := ⟨Nat.zero_le _, List.nodup_nil, fun k hk => (by cases hk), fun q hq => hq, fun k hk => (by cases hk), fun q hq => .inl hq, fun j hj => absurd hj (Nat.not_lt_zero _), by simp⟩
theorem getD_memQ {l : List ReqL} {i : Nat} (hi : i < l.length) : l.getD i default ∈ l := by
  rw [List.getD_eq_getElem?_getD, List.getElem?_eq_getElem hi]
  exact List.getElem_mem hi
theorem RchT.fail (h : RchT nw X roots todo i s) (hi : i < todo.length) (hn : namedI nw X (todo.getD i default) = none) : ¬ AllM nw X roots := fun ha => by
  rcases h.src _ (getD_memQ hi) with hq | ⟨k, hk, hq⟩
  · obtain ⟨j, hj⟩ := ha.1 _ hq
    rw [hn] at hj; cases hj
  · obtain ⟨j, hj⟩ := ha.2 k (h.rch k hk) _ hq
    rw [hn] at hj; cases hj
theorem RchT.skip (h : RchT nw X roots todo i s) (hi : i < todo.length) {k : Nat} (hn : namedI nw X (todo.getD i default) = some k) (hk : k ∈ s) : RchT nw X roots todo (i + 1) s :=
  { h with
    le := hi
    done := fun j hj => by
      rcases Nat.lt_or_eq_of_le (Nat.le_of_lt_succ hj) with h1 | rfl
      · exact h.done j h1
      · exact ⟨k, hk, hn⟩ }
theorem RchT.mark (h : RchT nw X roots todo i s) (hi : i < todo.length) {k : Nat} (hn : namedI nw X (todo.getD i default) = some k) (hk : k ∉ s) (hl : (X.getD k default).reqs.length ≤ 16) : RchT nw X roots (todo ++ (X.getD k default).reqs) (i + 1) (k :: s) := by
  have hr : RchM nw X roots k := by
    rcases h.src _ (getD_memQ hi) with hq | ⟨j, hj, hq⟩
    · exact .root hq hn
    · exact .step (h.rch j hj) hq hn
  have hg : ∀ j, j < i + 1 → (todo ++ (X.getD k default).reqs).getD j default = todo.getD j default := fun j hj => by
    rw [List.getD_eq_getElem?_getD, List.getElem?_append_left (by omega), ← List.getD_eq_getElem?_getD]
  refine ⟨by rw [List.length_append]; omega, List.nodup_cons.2 ⟨hk, h.nod⟩, fun j hj => ?_, fun q hq => List.mem_append_left _ (h.root q hq), fun j hj q hq => ?_, fun q hq => ?_, fun j hj => ?_, by rw [List.length_append, List.length_cons]; have := h.len; omega⟩
  · rcases List.mem_cons.1 hj with rfl | hj
    · exact hr
    · exact h.rch j hj
  · rcases List.mem_cons.1 hj with rfl | hj
    · exact List.mem_append_right _ hq
    · exact List.mem_append_left _ (h.own j hj q hq)
  · rcases List.mem_append.1 hq with hq | hq
    · exact (h.src q hq).imp id fun ⟨j, hj, hq⟩ => ⟨j, by simp [hj], hq⟩
    · exact .inr ⟨k, by simp, hq⟩
  · rw [hg j hj]
    rcases Nat.lt_or_eq_of_le (Nat.le_of_lt_succ hj) with h1 | rfl
    · obtain ⟨m, hm, e⟩ := h.done j h1
      exact ⟨m, by simp [hm], e⟩
    · exact ⟨k, by simp, hn⟩
theorem RchT.end (h : RchT nw X roots todo todo.length s) : AllM nw X roots ∧ ∀ k, RchM nw X roots k ↔ k ∈ s := by
  have key : ∀ q ∈ todo, ∃ k ∈ s, namedI nw X q = some k := fun q hq => by
    obtain ⟨j, hj, rfl⟩ := List.mem_iff_getElem.1 hq
    have := h.done j hj
    rwa [List.getD_eq_getElem?_getD, List.getElem?_eq_getElem hj] at this
  have all : ∀ k, RchM nw X roots k → k ∈ s := fun k hk => by
    induction hk with
    | root hq hn =>
      obtain ⟨k, hk, e⟩ := key _ (h.root _ hq)
      rw [hn] at e; cases e; exact hk
    | step _ hq hn ih =>
      obtain ⟨k, hk, e⟩ := key _ (h.own _ ih _ hq)
      rw [hn] at e; cases e; exact hk
  refine ⟨⟨fun q hq => ?_, fun k hk q hq => ?_⟩, fun k => ⟨all k, h.rch k⟩⟩
  · obtain ⟨k, _, e⟩ := key q (h.root q hq)
    exact ⟨k, e⟩
  · obtain ⟨j, _, e⟩ := key q (h.own k (all k hk) q hq)
    exact ⟨j, e⟩
theorem RchT.slen (h : RchT nw X roots todo i s) : s.length ≤ X.length := by
  have := sub_length (l := s) (m := List.range X.length) h.nod fun k hk => List.mem_range.2 (h.rch k hk).lt.1
  simpa using this
open Classical in
noncomputable def topK (nw : Bool) (X : List RelL) (roots : List ReqL) (k : Nat) : List Nat :=
  (List.range k).filter fun i => decide (RchM nw X roots i ∧ ∀ j, j < k → RchM nw X roots j → (X.getD j default).path = (X.getD i default).path → j ≤ i)
theorem topK_zero : topK nw X roots 0 = [] := by unfold topK; rfl
theorem topK_mem {k m : Nat} : m ∈ topK nw X roots k ↔ m < k ∧ RchM nw X roots m ∧ ∀ j, j < k → RchM nw X roots j → (X.getD j default).path = (X.getD m default).path → j ≤ m := by
  unfold topK
  simp only [List.mem_filter, List.mem_range, decide_eq_true_eq]
theorem topK_sorted (k : Nat) : (topK nw X roots k).Pairwise (· < ·) := (range_sorted _).filter _
theorem topK_all : topK nw X roots X.length = topM nw X roots := by
  unfold topK topM
  refine List.filter_congr fun m _ => ?_
  congr 1
  exact propext ⟨fun h => ⟨h.1, fun j hj => h.2 j hj.lt.1 hj⟩, fun h => ⟨h.1, fun j _ hj => h.2 j hj⟩⟩
theorem topK_no {k : Nat} (h : ¬ RchM nw X roots k) : topK nw X roots (k + 1) = topK nw X roots k := by
  unfold topK
  rw [List.range_succ, List.filter_append, List.filter_cons_of_neg (by simpa using fun h1 => absurd h1 h), List.filter_nil, List.append_nil]
  refine List.filter_congr fun m hm => ?_
  congr 1
  refine propext ⟨fun g => ⟨g.1, fun j hj => g.2 j (by omega)⟩, fun g => ⟨g.1, fun j hj hr => ?_⟩⟩
  rcases Nat.lt_or_eq_of_le (Nat.le_of_lt_succ hj) with h1 | rfl
  · exact g.2 j h1 hr
  · exact absurd hr h
theorem topK_step {k : Nat} (h : RchM nw X roots k) : topK nw X roots (k + 1) = (topK nw X roots k).filter (fun m => decide ((X.getD m default).path ≠ (X.getD k default).path)) ++ [k] := by
  unfold topK
  rw [List.range_succ, List.filter_append, List.filter_cons_of_pos (by simpa using ⟨h, fun j hj _ _ => by omega⟩), List.filter_nil, List.filter_filter]
  congr 1
  refine List.filter_congr fun m hm => ?_
  have hmk := List.mem_range.1 hm
  rw [Bool.eq_iff_iff]
  simp only [Bool.and_eq_true, decide_eq_true_eq]
  constructor
  · intro g
    exact ⟨fun e => by have := g.2 k (by omega) h e.symm; omega, g.1, fun j hj => g.2 j (by omega)⟩
  · rintro ⟨hne, g1, g2⟩
    refine ⟨g1, fun j hj hr e => ?_⟩
    rcases Nat.lt_or_eq_of_le (Nat.le_of_lt_succ hj) with h1 | rfl
    · exact g2 j h1 hr e
    · exact absurd e.symm hne
theorem topK_new {k : Nat} (hX : IdxOk X) (hk : k < X.length) (h : RchM nw X roots k) (hn : ∀ m, (topK nw X roots k).getLast? = some m → (X.getD m default).path ≠ (X.getD k default).path) : topK nw X roots (k + 1) = topK nw X roots k ++ [k] := by
  rw [topK_step h, List.filter_eq_self.2 fun m hm => ?_]
  refine decide_eq_true fun e => ?_
  obtain ⟨l, hl⟩ : ∃ l, (topK nw X roots k).getLast? = some l := by
    cases hg : (topK nw X roots k).getLast? with
    | some l => exact ⟨l, rfl⟩
    | none => rw [List.getLast?_eq_none_iff.1 hg] at hm; cases hm
  have hlm : l ∈ topK nw X roots k := List.mem_of_getLast? hl
  have hml : m ≤ l := by
    obtain ⟨t, ht⟩ := List.getLast?_eq_some_iff.1 hl
    have hs := topK_sorted (nw := nw) (X := X) (roots := roots) k
    rw [ht] at hs hm
    rcases List.mem_append.1 hm with h1 | h1
    · exact Nat.le_of_lt ((List.pairwise_append.1 hs).2.2 m h1 l (by simp))
    · rw [List.mem_singleton.1 h1]; exact Nat.le_refl _
  have hlk := (topK_mem.1 hlm).1
  exact hn l hl ((hX.between hml (by omega) hk e).trans e)
theorem topK_same {k m : Nat} (h : RchM nw X roots k) (hl : (topK nw X roots k).getLast? = some m) (hp : (X.getD m default).path = (X.getD k default).path) : topK nw X roots (k + 1) = (topK nw X roots k).dropLast ++ [k] := by
  rw [topK_step h]
  congr 1
  obtain ⟨t, ht⟩ := List.getLast?_eq_some_iff.1 hl
  have hone : ∀ n ∈ topK nw X roots k, (X.getD n default).path = (X.getD k default).path → n = m := fun n hn e => by
    have h1 := topK_mem.1 hn
    have h2 := topK_mem.1 (List.mem_of_getLast? hl)
    have h3 := h1.2.2 m h2.1 h2.2.1 (hp.trans e.symm)
    have h4 := h2.2.2 n h1.1 h1.2.1 (e.trans hp.symm)
    omega
  have hnd := (topK_sorted (nw := nw) (X := X) (roots := roots) k).imp Nat.ne_of_lt
  rw [ht] at hone hnd ⊢
  rw [List.dropLast_concat, List.filter_append, List.filter_cons_of_neg (by simpa using hp), List.filter_nil, List.append_nil]
  refine List.filter_eq_self.2 fun n hn => decide_eq_true fun e => ?_
  have := hone n (by simp [hn]) e
  exact (List.pairwise_append.1 hnd).2.2 n hn m (by simp) this
end Go.Proofs.YtenfkejbndifdaaGreatDoor
