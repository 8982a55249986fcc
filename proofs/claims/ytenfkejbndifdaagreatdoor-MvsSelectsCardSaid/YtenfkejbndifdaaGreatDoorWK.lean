/- What the cards of indexes share: arguments opened and read again. Minimal version selection, plain: what a requirement names; what is reached; the selection. Minimal version selection, plain: it satisfies; the newest one; further roots; growing requirements. -/
import Derived.Test.YtenfkejbndifdaaGreatDoorWJ
import Derived.Test.YtenfkejbndifdaaGreatDoorRows
import Derived.ProofKit
import Derived.OpenShut
import Derived.Deep.DeepHandedRow
import Derived.Deep.Slices
import Derived.Deep.SlicePairs
import Derived.Shelf.Vars
import Derived.Lay
import Derived.Carry
import Derived.Lib.SmallJoins
import Derived.Test.YtenfkejbndifdaaGreatDoorWG
import Derived.Test.YtenfkejbndifdaaGreatDoorWA
namespace Go.Proofs.YtenfkejbndifdaaGreatDoor
set_option linter.unusedVariables false
set_option linter.unusedSimpArgs false
open Go.ChangeShapes Go.WideShapes Go.ChangeAt Go.RowKit
open Go.ChangeMaps (open_string shut_string)

theorem own : ownKnob Tryz.prog.godebug = none := by kernel_rfl
theorem laidOut : laidOutB Tryz.prog = true := by kernel_rfl
theorem maxOk {W : World} (h : W.ShapedOpen Tryz.prog) : MaxOk W :=
  cell_of_shapedOpen_int (g := 0) (t := 3) (zero := #[.int .i64 0]) h (of_decide_eq_true (by kernel_rfl)) (by kernel_rfl) rfl (by kernel_rfl) (by kernel_rfl) Tryz.underlying3
theorem trodAll_belowP {P : Program} (laidOut : laidOutB P = true) {H : Type} {enc : TypeId × Value → H} {W W' : World} (hb : Below W.heap.size W W') : ∀ {ts : List TypeId} {vs : List Value} {ds : List (DataW H)} {ps : List MemPlace},
    (ts.all fun t => P.readableRec t && decide (t < P.types.size)) = true → DataW.TrodAll enc P W 0 (fun _ => true) true ts vs ds ps → (∀ x ∈ ps, x.block < W.heap.size) →
    DataW.TrodAll enc P W' 0 (fun b => decide (b < W.heap.size)) true ts vs ds ps
  | [], vs, ds, ps, _, h, _ => by
    obtain ⟨rfl, rfl, rfl⟩ := trodAll_nil h
    exact trodAll_mk0
  | t :: ts, vs, ds, ps, hr, h, hlt => by
    obtain ⟨v, vs', d, ds', p, q, rfl, rfl, rfl, hd, hrest⟩ := trodAll_cons h
    simp only [List.all_cons, Bool.and_eq_true, decide_eq_true_eq] at hr
    exact ⟨p, q, Below.trod laidOut hr.1.1 hr.1.2 hd hb (fun x hx => hlt x (by simp [hx])), trodAll_belowP laidOut hb hr.2 hrest (fun x hx => hlt x (by simp [hx])), rfl⟩
theorem spot_none {W : World} {a : Addr} {v : Value} (h : W.cell? a = some v) : a.spot = none := by
  unfold World.cell? at h
  cases e : a.spot with
  | none => rfl
  | some j =>
    exfalso
    rw [e] at h
    revert h
    split <;> simp
theorem add_none (b o i : Nat) : Addr.add ⟨b, o, none⟩ i = ⟨b, o + i, none⟩ := by unfold Addr.add; split <;> simp_all
theorem open_rows {α : Type} [Inhabited α] (Q : α → List Value → Prop) {H : Type} {enc : TypeId × Value → H} {W : World} {fuel : Nat} {v : Value} {x : DataW H × List MemPlace} {t e : TypeId} {c : Nat} (ht : Tryz.prog.underlying t = some (.slice e)) (hc : Tryz.prog.cellsOf e = c) (hc0 : 0 < c)
    (hel : ∀ (n : Nat) (cs : List Value) (y : DataW H × List MemPlace), DataW.trod enc Tryz.prog W 0 (fun _ => true) true n e cs = some y → (∀ p ∈ y.2, p.block < W.heap.size) → ∃ z : α, Q z cs)
    (h : DataW.trod enc Tryz.prog W 0 (fun _ => true) true fuel t [v] = some x) (hlt : ∀ y ∈ x.2, y.block < W.heap.size) :
    ∃ (ao : Option Addr) (cap : Nat) (l : List α), v = .slice ao l.length cap ∧ l.length ≤ maxLen ∧ ∀ i z, l[i]? = some z → ∃ b off cs, ao = some ⟨b, off, none⟩ ∧ b < W.heap.size ∧ Q z cs ∧ ∀ j, j < c → W.cell? ⟨b, off + i * c + j, none⟩ = cs[j]? := by
  rcases Go.Deep.open_slice ht h with ⟨h2, _⟩ | ⟨a, len, cap, m, n2, D, Pl, h2, _, h3, h4, h5, h6, h7⟩
  · cases h2
    exact ⟨none, 0, [], rfl, Nat.zero_le _, fun i s hs => by simp at hs⟩
  · cases h2
    rw [if_pos rfl] at h5
    subst h5
    rw [hc] at h6 h7
    have hp : ∀ i, i < m → ∀ y ∈ Pl i, y.block < W.heap.size := fun i hi y hy => hlt y (by
      rw [h6]
      exact List.mem_append.2 (.inr (List.mem_flatMap.2 ⟨i, List.mem_range.2 hi, hy⟩)))
    have key : ∀ i, i < m → ∃ z : α × List Value, Q z.1 z.2 ∧ z.2.length = c ∧ ∀ j, j < c → W.cell? ((a.add (i * c)).add j) = z.2[j]? := fun i hi => by
      obtain ⟨cs, g1, g2⟩ := h7 i hi
      obtain ⟨_, hcl, g3⟩ := World.cells?_some g1
      obtain ⟨z, hz⟩ := hel n2 cs (D i, Pl i) g2 (hp i hi)
      exact ⟨(z, cs), hz, hcl, g3⟩
    haveI : Inhabited (α × List Value) := ⟨(default, [])⟩
    obtain ⟨F, hF⟩ := Go.Deep.choose_lt key
    have hlen : ((List.range len).map fun i => (F i).1).length = len := by simp
    refine ⟨some a, m, (List.range len).map fun i => (F i).1, by rw [hlen], by rw [hlen]; omega, fun i s hs => ?_⟩
    have hi : i < len := by have := (List.getElem?_eq_some_iff.1 hs).1; rw [hlen] at this; exact this
    rw [List.getElem?_map, List.getElem?_range hi] at hs
    cases hs
    obtain ⟨hQ, hcl, c0⟩ := hF i (by omega)
    obtain ⟨ab, ao, aq⟩ := a
    have hq : aq = none := by
      obtain ⟨_, g2, g3⟩ := hF 0 (by omega)
      have g4 := g3 0 hc0
      rw [List.getElem?_eq_getElem (by omega)] at g4
      have := spot_none g4
      simpa [Addr.add] using this
    subst hq
    refine ⟨ab, ao, (F i).2, rfl, ?_, hQ, fun j hj => ?_⟩
    · exact hlt (.cell ab ao) (by
        rw [h6]
        exact List.mem_append.2 (.inl (MemPlace.mem_row.2 ⟨0, Nat.mul_pos (by omega) hc0, by simp⟩)))
    · have := c0 j hj
      rwa [add_none, add_none] at this
set_option maxRecDepth 100000 in
theorem open_set {H : Type} {enc : TypeId × Value → H} {W : World} {fuel : Nat} {v : Value} {x : DataW H × List MemPlace} (h : DataW.trod enc Tryz.prog W 0 (fun _ => true) true fuel 56 [v] = some x)
    (hlt : ∀ y ∈ x.2, y.block < W.heap.size) : ∃ es : List (Int × Int), SpansOf W.heap.size v es W := by
  obtain ⟨ao, cap, l, rfl, _, hl⟩ := open_rows (fun (z : Int × Int) cs => cs = [intC z.1, intC z.2]) Tryz.underlying56 (c := 2) (by as_aux_lemma => kernel_rfl) (by omega) (fun n cs y hy _ => by
    obtain ⟨y0, y1, m, _, hl, h0, h1⟩ := trod_struct2 Tryz.underlying133 hy
    have hl : cs.length = 2 := hl.trans (by as_aux_lemma => kernel_rfl)
    have hc : Tryz.prog.cellsOf 3 = 1 := by as_aux_lemma => kernel_rfl
    match cs, hl with
    | [c0, c1], _ =>
      simp only [hc] at h0 h1
      obtain ⟨z0, e0, _⟩ := DataW.trod_int Tryz.underlying3 h0
      obtain ⟨z1, e1, _⟩ := DataW.trod_int Tryz.underlying3 h1
      have e0 : c0 = .int .i64 z0 := (List.cons.inj (show [c0] = [.int .i64 z0] from e0)).1
      have e1 : c1 = .int .i64 z1 := (List.cons.inj (show [c1] = [.int .i64 z1] from e1)).1
      exact ⟨(z0, z1), by rw [e0, e1]⟩) h hlt
  refine ⟨l, ao, cap, rfl, fun i x hx => ?_⟩
  obtain ⟨b, off, cs, rfl, hb, rfl, hj⟩ := hl i x hx
  exact ⟨b, off, rfl, hb, hj 0 (by omega), hj 1 (by omega)⟩
set_option maxRecDepth 100000 in
theorem open_reqs {H : Type} {enc : TypeId × Value → H} {W : World} {fuel : Nat} {v : Value} {x : DataW H × List MemPlace} (h : DataW.trod enc Tryz.prog W 0 (fun _ => true) true fuel 26 [v] = some x)
    (hlt : ∀ y ∈ x.2, y.block < W.heap.size) : ∃ l : List ReqL, ReqsOf W.heap.size v l W ∧ l.length ≤ maxLen := by
  obtain ⟨ao, cap, l, rfl, hm, hl⟩ := open_rows (fun (q : ReqL) cs => ∃ r, cs = [.string q.1, r] ∧ SpansOf W.heap.size r q.2 W) Tryz.underlying26 (c := 2) (by as_aux_lemma => kernel_rfl) (by omega) (fun n cs y hy hp => by
    obtain ⟨y0, y1, m, rfl, hl, h0, h1⟩ := trod_struct2 Tryz.underlying58 hy
    have hl : cs.length = 2 := hl.trans (by as_aux_lemma => kernel_rfl)
    have hc : Tryz.prog.cellsOf 9 = 1 := by as_aux_lemma => kernel_rfl
    have hc2 : Tryz.prog.cellsOf 56 = 1 := by as_aux_lemma => kernel_rfl
    match cs, hl with
    | [c0, c1], _ =>
      simp only [hc, hc2] at h0 h1
      obtain ⟨z0, e0, _⟩ := DataW.trod_string Tryz.underlying9 h0
      obtain ⟨es, hs⟩ := open_set (show DataW.trod enc Tryz.prog W 0 (fun _ => true) true m 56 [c1] = some y1 from h1) (fun y hy => hp y (List.mem_append.2 (.inr hy)))
      have e0 : c0 = .string z0 := (List.cons.inj (show [c0] = [.string z0] from e0)).1
      exact ⟨(z0, es), c1, by rw [e0], hs⟩) h hlt
  refine ⟨l, ⟨ao, cap, rfl, fun i x hx => ?_⟩, hm⟩
  obtain ⟨b, off, cs, rfl, hb, ⟨r, rfl, hs⟩, hj⟩ := hl i x hx
  exact ⟨b, off, r, rfl, hb, hj 0 (by omega), hj 1 (by omega), hs⟩
theorem intOk_of {z : Int} (h : (Lit.int .i64 z).wf = true) : IntOk z := by
  unfold IntOk
  simp [Lit.wf, IntKind.min, IntKind.max, IntKind.signed, IntKind.bits] at h
  omega
set_option maxRecDepth 100000 in
theorem ver_cells {H : Type} {enc : TypeId × Value → H} {W : World} {sp : Nat → Bool} {n : Nat} {cs : List Value} {x : DataW H × List MemPlace} (h : DataW.trod enc Tryz.prog W 0 sp true n 41 cs = some x) :
    ∃ a b c : Int, cs = [.int .i64 a, .int .i64 b, .int .i64 c] ∧ IntOk a ∧ IntOk b ∧ IntOk c := by
  obtain ⟨y0, y1, y2, m, _, hl, h0, h1, h2⟩ := Go.Deep.trod_struct3 Tryz.underlying41 h
  have hl : cs.length = 3 := hl.trans (by as_aux_lemma => kernel_rfl)
  have hc : Tryz.prog.cellsOf 3 = 1 := by as_aux_lemma => kernel_rfl
  match cs, hl with
  | [c0, c1, c2], _ =>
    simp only [hc] at h0 h1 h2
    obtain ⟨z0, e0, _, w0⟩ := DataW.trod_int Tryz.underlying3 h0
    obtain ⟨z1, e1, _, w1⟩ := DataW.trod_int Tryz.underlying3 h1
    obtain ⟨z2, e2, _, w2⟩ := DataW.trod_int Tryz.underlying3 h2
    have e0 : c0 = .int .i64 z0 := (List.cons.inj (show [c0] = [.int .i64 z0] from e0)).1
    have e1 : c1 = .int .i64 z1 := (List.cons.inj (show [c1] = [.int .i64 z1] from e1)).1
    have e2 : c2 = .int .i64 z2 := (List.cons.inj (show [c2] = [.int .i64 z2] from e2)).1
    exact ⟨z0, z1, z2, by rw [e0, e1, e2], intOk_of w0, intOk_of w1, intOk_of w2⟩
theorem trod_struct7 {P : Program} {H : Type} {enc : TypeId × Value → H} {w : World} {base : Nat} {spare : Nat → Bool} {held : Bool} {t : TypeId} {f0 f1 f2 f3 f4 f5 f6 : Field} {fuel : Nat} {cs : List Value} {x : DataW H × List MemPlace} (ht : P.underlying t = some (.struct #[f0, f1, f2, f3, f4, f5, f6])) (h : DataW.trod enc P w base spare held fuel t cs = some x) :
    ∃ y0 y1 y2 y3 y4 y5 y6 n, x = (.agg [y0.1, y1.1, y2.1, y3.1, y4.1, y5.1, y6.1], y0.2 ++ (y1.2 ++ (y2.2 ++ (y3.2 ++ (y4.2 ++ (y5.2 ++ y6.2)))))) ∧ cs.length = P.cellsOf t ∧ DataW.trod enc P w base spare held n f0.type ((cs.drop f0.offset).take (P.cellsOf f0.type)) = some y0 ∧ DataW.trod enc P w base spare held n f1.type ((cs.drop f1.offset).take (P.cellsOf f1.type)) = some y1 ∧ DataW.trod enc P w base spare held n f2.type ((cs.drop f2.offset).take (P.cellsOf f2.type)) = some y2 ∧ DataW.trod enc P w base spare held n f3.type ((cs.drop f3.offset).take (P.cellsOf f3.type)) = some y3 ∧ DataW.trod enc P w base spare held n f4.type ((cs.drop f4.offset).take (P.cellsOf f4.type)) = some y4 ∧ DataW.trod enc P w base spare held n f5.type ((cs.drop f5.offset).take (P.cellsOf f5.type)) = some y5 ∧ DataW.trod enc P w base spare held n f6.type ((cs.drop f6.offset).take (P.cellsOf f6.type)) = some y6 := by
  obtain ⟨xs, n, _, rfl, hl, hlen, hf⟩ := DataW.trod_struct ht h
  match xs, hlen with
  | [y0, y1, y2, y3, y4, y5, y6], _ => exact ⟨y0, y1, y2, y3, y4, y5, y6, n, by simp, hl, by simpa using hf 0 f0 rfl, by simpa using hf 1 f1 rfl, by simpa using hf 2 f2 rfl, by simpa using hf 3 f3 rfl, by simpa using hf 4 f4 rfl, by simpa using hf 5 f5 rfl, by simpa using hf 6 f6 rfl⟩
set_option maxRecDepth 100000 in
theorem rel_cells {H : Type} {enc : TypeId × Value → H} {W : World} {n : Nat} {cs : List Value} {x : DataW H × List MemPlace} (h : DataW.trod enc Tryz.prog W 0 (fun _ => true) true n 71 cs = some x) (hp : ∀ y ∈ x.2, y.block < W.heap.size) :
    ∃ (z : RelL) (r : Value), cs = (relC z r).toList ∧ ReqsOf W.heap.size r z.reqs W ∧ z.reqs.length ≤ maxLen := by
  obtain ⟨y0, y1, y2, y3, y4, y5, y6, m, rfl, hl, h0, h1, h2, h3, h4, h5, h6⟩ := trod_struct7 Tryz.underlying71 h
  have hl : cs.length = 9 := hl.trans (by as_aux_lemma => kernel_rfl)
  have hc : Tryz.prog.cellsOf 9 = 1 := by as_aux_lemma => kernel_rfl
  have hc2 : Tryz.prog.cellsOf 41 = 3 := by as_aux_lemma => kernel_rfl
  have hc3 : Tryz.prog.cellsOf 26 = 1 := by as_aux_lemma => kernel_rfl
  have hc4 : Tryz.prog.cellsOf 4 = 1 := by as_aux_lemma => kernel_rfl
  match cs, hl with
  | [c0, c1, c2, c3, c4, c5, c6, c7, c8], _ =>
    simp only [hc, hc2, hc3, hc4] at h0 h1 h2 h3 h4 h5 h6
    obtain ⟨z0, e0, _⟩ := DataW.trod_string Tryz.underlying9 h0
    obtain ⟨a, b, c, e1, _⟩ := ver_cells (show DataW.trod enc Tryz.prog W 0 (fun _ => true) true m 41 [c1, c2, c3] = some y1 from h1)
    obtain ⟨l, hr, hll⟩ := open_reqs (show DataW.trod enc Tryz.prog W 0 (fun _ => true) true m 26 [c4] = some y2 from h2) (fun y hy => hp y (by simp [hy]))
    obtain ⟨z3, e3, _⟩ := DataW.trod_string Tryz.underlying9 h3
    obtain ⟨z4, e4, _⟩ := DataW.trod_string Tryz.underlying9 h4
    obtain ⟨z5, e5, _⟩ := DataW.trod_string Tryz.underlying9 h5
    obtain ⟨z6, e6, _⟩ := DataW.trod_bool Tryz.underlying4 h6
    have e0 : c0 = .string z0 := (List.cons.inj (show [c0] = [.string z0] from e0)).1
    have e3 : c5 = .string z3 := (List.cons.inj (show [c5] = [.string z3] from e3)).1
    have e4 : c6 = .string z4 := (List.cons.inj (show [c6] = [.string z4] from e4)).1
    have e5 : c7 = .string z5 := (List.cons.inj (show [c7] = [.string z5] from e5)).1
    have e6 : c8 = .bool z6 := (List.cons.inj (show [c8] = [.bool z6] from e6)).1
    injection e1 with e1 e2
    injection e2 with e2 e7
    injection e7 with e7 _
    exact ⟨⟨z0, (a, b, c), l, z3, z4, z5, z6⟩, c4, by rw [e0, e1, e2, e7, e3, e4, e5, e6]; rfl, hr, hll⟩
set_option maxRecDepth 100000 in
theorem open_rels {H : Type} {enc : TypeId × Value → H} {W : World} {fuel : Nat} {v : Value} {x : DataW H × List MemPlace} (h : DataW.trod enc Tryz.prog W 0 (fun _ => true) true fuel 22 [v] = some x)
    (hlt : ∀ y ∈ x.2, y.block < W.heap.size) : ∃ X : List RelL, RelsOf W.heap.size v X W ∧ X.length ≤ maxLen ∧ ∀ x ∈ X, x.reqs.length ≤ maxLen := by
  obtain ⟨ao, cap, l, rfl, hm, hl⟩ := open_rows (fun (z : RelL) cs => ∃ r, cs = (relC z r).toList ∧ ReqsOf W.heap.size r z.reqs W ∧ z.reqs.length ≤ maxLen) Tryz.underlying22 (c := 9) (by as_aux_lemma => kernel_rfl) (by omega) (fun n cs y hy hp => rel_cells hy hp) h hlt
  refine ⟨l, ⟨ao, cap, rfl, fun i x hx => ?_⟩, hm, fun y hy => ?_⟩
  · obtain ⟨b, off, cs, rfl, hb, ⟨r, rfl, hs, _⟩, hj⟩ := hl i x hx
    exact ⟨b, off, rfl, hb, r, hj 0 (by omega), hj 1 (by omega), hj 2 (by omega), hj 3 (by omega), hj 4 (by omega), hj 5 (by omega), hj 6 (by omega), hj 7 (by omega), hj 8 (by omega), hs⟩
  · obtain ⟨i, hi, rfl⟩ := List.mem_iff_getElem.1 hy
    obtain ⟨b, off, cs, _, _, ⟨_, _, _, hs⟩, _⟩ := hl i l[i] (List.getElem?_eq_getElem hi)
    exact hs
set_option maxRecDepth 100000 in
theorem open_index {H : Type} {enc : TypeId × Value → H} {W : World} {r : Reach} {b0 : Nat} {v : Value} {d : DataW H} {p : List MemPlace} (hv : Value.okWide Tryz.prog W r b0 25 v) (h : DataW.Trod enc Tryz.prog W 0 (fun _ => true) true 25 v d p)
    (hlt : ∀ y ∈ p, y.block < W.heap.size) : ∃ (a : Option Addr) (c : Nat) (iv : Value) (X : List RelL), v = .agg #[.slice a X.length c, iv] ∧ RelsOf W.heap.size (.slice a X.length c) X W ∧ X.length ≤ maxLen ∧ ∀ x ∈ X, x.reqs.length ≤ maxLen := by
  obtain ⟨v0, v1, y0, y1, n, rfl, _, rfl, h0, h1⟩ := Go.Joins.open_agg2 Tryz.underlying25 (by as_aux_lemma => kernel_rfl) (by as_aux_lemma => kernel_rfl) hv h
  obtain ⟨X, hR, h2, h3⟩ := open_rels h0 (fun y hy => hlt y (List.mem_append.2 (.inl hy)))
  obtain ⟨a, c, rfl, h4⟩ := hR
  exact ⟨a, c, v1, X, rfl, ⟨a, c, rfl, h4⟩, h2, h3⟩
end Go.Proofs.YtenfkejbndifdaaGreatDoor

namespace Go.Proofs.YtenfkejbndifdaaGreatDoor
set_option linter.unusedVariables false
set_option linter.unusedSimpArgs false
open Go

theorem up_shape {s : List (Int × Int)} (h : upB (canon s) = true) (hn : s ≠ []) (hc : s = canon s) : s = [((leastV s).1, 1000000)] ∧ 0 ≤ (leastV s).1 ∧ (leastV s).1 < 1000000 := by
  have hm := fun x (hx : x ∈ canon s) => can_mem hx
  unfold leastV
  rw [← hc] at h hm ⊢
  match s, hn, h, hm with
  | [x], _, h, hm =>
    have hx := hm x (by simp)
    have h2 : x.2 = 1000000 := of_decide_eq_true h
    exact ⟨by show [x] = [(x.1, 1000000)]; rw [← h2], hx.1, by show x.1 < 1000000; omega⟩
  | _ :: _ :: _, _, h, _ => cases h
theorem up_has {m p : Int} (h0 : 0 ≤ p) (h1 : p < 1000000) : hasB [(m, 1000000)] p = decide (m ≤ p) := by
  unfold hasB
  simp [h0, h1]
def UpR (l : List ReqL) : Prop := checkReqs l = 0 ∧ ∀ q ∈ l, upB (canon q.2) = true
structure ReqOk (q : ReqL) : Prop where
  line : (lineV q.1).2.2 = 0
  ne : q.2 ≠ []
  can : q.2 = canon q.2
theorem reqE_ok {q : ReqL} {b : Option ByteArray} (h : reqE q b = 0) : ReqOk q ∧ ∀ p, b = some p → ltB p q.1 = true := by
  unfold reqE at h
  split at h
  · exact absurd h (by decide)
  · rename_i h1
    split at h
    · exact absurd h (by decide)
    · rename_i h2
      refine ⟨⟨Classical.not_not.1 h1, fun e => h2 (.inl e), Classical.byContradiction fun e => h2 (.inr e)⟩, ?_⟩
      rintro p rfl
      by_cases e : ltB p q.1 = true
      · exact e
      · simp only [if_neg e] at h
        exact absurd h (by decide)
structure ReqsOk (l : List ReqL) : Prop where
  len : l.length ≤ 16
  ok : ∀ q ∈ l, ReqOk q
  incr : l.Pairwise fun a b => ltB a.1 b.1 = true
theorem reqs_ok {l : List ReqL} (h : checkReqs l = 0) : ReqsOk l := by
  unfold checkReqs at h
  split at h
  · exact absurd h (by decide)
  · rename_i hl
    have h1 := firstE_zero h
    have hg : ∀ i (hi : i < l.length), l.getD i default = l[i] := fun i hi => by rw [List.getD_eq_getElem?_getD, List.getElem?_eq_getElem hi]; rfl
    have hs : ∀ i, (hi : i + 1 < l.length) → ltB l[i].1 l[i + 1].1 = true := fun i hi => by
      have h2 := (reqE_ok (h1 (i + 1) hi)).2 (l.getD i default).1 (by simp [beforeQ])
      rwa [hg i (by omega), hg (i + 1) hi] at h2
    refine ⟨by omega, fun q hq => ?_, ?_⟩
    · obtain ⟨i, hi, rfl⟩ := List.mem_iff_getElem.1 hq
      rw [← hg i hi]
      exact (reqE_ok (h1 i hi)).1
    · rw [List.pairwise_iff_getElem]
      intro i j hi hj hij
      obtain ⟨d, rfl⟩ : ∃ d, j = i + d + 1 := ⟨j - i - 1, by omega⟩
      clear hij
      induction d with
      | zero => exact hs i hj
      | succ d ih => exact ltB_trans (ih (by omega)) (hs (i + d + 1) hj)
theorem reqs_check {l : List ReqL} (h : ReqsOk l) : checkReqs l = 0 := by
  unfold checkReqs
  rw [if_neg (by have := h.len; omega)]
  refine firstE_none fun j hj => ?_
  have hg : ∀ i (hi : i < l.length), l.getD i default = l[i] := fun i hi => by rw [List.getD_eq_getElem?_getD, List.getElem?_eq_getElem hi]; rfl
  obtain ⟨h1, h2, h3⟩ := h.ok l[j] (List.getElem_mem hj)
  unfold reqE
  rw [hg j hj, if_neg (fun e => e h1), if_neg (fun e => e.elim h2 (fun e => e h3))]
  unfold beforeQ
  by_cases hz : j = 0
  · rw [if_pos hz]
  · rw [if_neg hz]
    simp only
    rw [hg (j - 1) (by omega), if_pos (List.pairwise_iff_getElem.1 h.incr (j - 1) j (by omega) hj (by omega))]
structure UpQ (q : ReqL) : Prop where
  ok : ReqOk q
  set : q.2 = [((leastV q.2).1, 1000000)]
  lo : 0 ≤ (leastV q.2).1
  hi : (leastV q.2).1 < 1000000
theorem UpR.q {l : List ReqL} (h : UpR l) {q : ReqL} (hq : q ∈ l) : UpQ q := by
  have h1 := (reqs_ok h.1).ok q hq
  obtain ⟨a, b, c⟩ := up_shape (h.2 q hq) h1.ne h1.can
  exact ⟨h1, a, b, c⟩
theorem UpQ.has {q : ReqL} (h : UpQ q) {p : Int} (h0 : 0 ≤ p) (h1 : p < 1000000) : hasB q.2 p = decide ((leastV q.2).1 ≤ p) := by
  have := up_has (m := (leastV q.2).1) h0 h1
  rwa [← h.set] at this
structure PlainP (X : List RelL) (roots : List ReqL) : Prop where
  idx : checkX X = 0
  roots : UpR roots
  own : ∀ i, i < X.length → ∀ q ∈ (X.getD i default).reqs, upB (canon q.2) = true
theorem PlainP.up {X : List RelL} {roots : List ReqL} (h : PlainP X roots) {i : Nat} (hi : i < X.length) : UpR (X.getD i default).reqs := ⟨((idx_ok h.idx).rel i hi).reqs, h.own i hi⟩
def reachB (q : ReqL) (r : RelL) : Bool := decide (q.1 = r.path) && hasB q.2 (plc r.ver)
def candI (X : List RelL) (q : ReqL) : List Nat := (List.range X.length).filter fun i => reachB q (X.getD i default) && !(X.getD i default).yk
def availI (X : List RelL) (p : ByteArray) : List Nat := (List.range X.length).filter fun i => decide (p = (X.getD i default).path) && !(X.getD i default).yk
def namedI (nw : Bool) (X : List RelL) (q : ReqL) : Option Nat := if nw = true then (candI X q).getLast? else (candI X q).head?
theorem candI_mem {X : List RelL} {q : ReqL} {i : Nat} : i ∈ candI X q ↔ i < X.length ∧ q.1 = (X.getD i default).path ∧ hasB q.2 (plc (X.getD i default).ver) = true ∧ (X.getD i default).yk = false := by
  unfold candI reachB
  rw [List.mem_filter, List.mem_range, Bool.and_eq_true, Bool.and_eq_true, decide_eq_true_iff, Bool.not_eq_true']
  exact ⟨fun ⟨a, ⟨b, c⟩, d⟩ => ⟨a, b, c, d⟩, fun ⟨a, b, c, d⟩ => ⟨a, ⟨b, c⟩, d⟩⟩
theorem range_sorted (n : Nat) : (List.range n).Pairwise (· < ·) := by
  rw [List.pairwise_iff_getElem]
  intro i j hi hj hij
  simpa using hij
theorem candI_sorted (X : List RelL) (q : ReqL) : (candI X q).Pairwise (· < ·) := (range_sorted _).filter _
theorem availI_sorted (X : List RelL) (p : ByteArray) : (availI X p).Pairwise (· < ·) := (range_sorted _).filter _
theorem named_mem {nw : Bool} {X : List RelL} {q : ReqL} {i : Nat} (h : namedI nw X q = some i) : i ∈ candI X q := by
  unfold namedI at h
  split at h
  · exact List.mem_of_getLast? h
  · exact List.mem_of_head? h
theorem named_none {nw : Bool} {X : List RelL} {q : ReqL} (h : namedI nw X q = none) : candI X q = [] := by
  unfold namedI at h
  split at h
  · exact List.getLast?_eq_none_iff.1 h
  · exact List.head?_eq_none_iff.1 h
theorem named_some {nw : Bool} {X : List RelL} {q : ReqL} {i : Nat} (h : i ∈ candI X q) : ∃ j, namedI nw X q = some j := by
  cases hn : namedI nw X q with
  | some j => exact ⟨j, rfl⟩
  | none => rw [named_none hn] at h; cases h
theorem named_least {X : List RelL} {q : ReqL} {i j : Nat} (h : namedI false X q = some i) (hj : j ∈ candI X q) : i ≤ j := by
  unfold namedI at h
  rw [if_neg (by decide)] at h
  have hs := candI_sorted X q
  cases hc : candI X q with
  | nil => rw [hc] at hj; cases hj
  | cons a t =>
    rw [hc] at h hj hs
    cases h
    rcases List.mem_cons.1 hj with rfl | hj
    · exact Nat.le_refl _
    · exact Nat.le_of_lt ((List.pairwise_cons.1 hs).1 j hj)
inductive RchM (nw : Bool) (X : List RelL) (roots : List ReqL) : Nat → Prop
  | root {q : ReqL} {i : Nat} (hq : q ∈ roots) (h : namedI nw X q = some i) : RchM nw X roots i
  | step {k : Nat} {q : ReqL} {i : Nat} (hk : RchM nw X roots k) (hq : q ∈ (X.getD k default).reqs) (h : namedI nw X q = some i) : RchM nw X roots i
theorem RchM.lt {nw : Bool} {X : List RelL} {roots : List ReqL} {i : Nat} (h : RchM nw X roots i) : i < X.length ∧ (X.getD i default).yk = false := by
  cases h with
  | root hq h => have := candI_mem.1 (named_mem h); exact ⟨this.1, this.2.2.2⟩
  | step hk hq h => have := candI_mem.1 (named_mem h); exact ⟨this.1, this.2.2.2⟩
def AllM (nw : Bool) (X : List RelL) (roots : List ReqL) : Prop :=
  (∀ q ∈ roots, ∃ i, namedI nw X q = some i) ∧ ∀ k, RchM nw X roots k → ∀ q ∈ (X.getD k default).reqs, ∃ i, namedI nw X q = some i
open Classical in
noncomputable def topM (nw : Bool) (X : List RelL) (roots : List ReqL) : List Nat :=
  (List.range X.length).filter fun i => decide (RchM nw X roots i ∧ ∀ j, RchM nw X roots j → (X.getD j default).path = (X.getD i default).path → j ≤ i)
open Classical in
noncomputable def selM (nw : Bool) (X : List RelL) (roots : List ReqL) : List SelL × Int :=
  if ¬ PlainP X roots then ([], 1) else if ¬ AllM nw X roots then ([], 6) else ((topM nw X roots).map fun i => keyL (X.getD i default), 0)
theorem topM_mem {nw : Bool} {X : List RelL} {roots : List ReqL} {i : Nat} : i ∈ topM nw X roots ↔ RchM nw X roots i ∧ ∀ j, RchM nw X roots j → (X.getD j default).path = (X.getD i default).path → j ≤ i := by
  unfold topM
  simp only [List.mem_filter, List.mem_range, decide_eq_true_eq]
  exact ⟨fun h => h.2, fun h => ⟨h.1.lt.1, h⟩⟩
theorem topM_sorted (nw : Bool) (X : List RelL) (roots : List ReqL) : (topM nw X roots).Pairwise (· < ·) := (range_sorted _).filter _
theorem top_of {nw : Bool} {X : List RelL} {roots : List ReqL} {i : Nat} (h : RchM nw X roots i) : ∃ j, j ∈ topM nw X roots ∧ i ≤ j ∧ (X.getD j default).path = (X.getD i default).path := by
  have key : ∀ d i, RchM nw X roots i → X.length - i ≤ d → ∃ j, j ∈ topM nw X roots ∧ i ≤ j ∧ (X.getD j default).path = (X.getD i default).path := by
    intro d
    induction d with
    | zero => exact fun i h hd => absurd h.lt.1 (by omega)
    | succ d ih =>
      intro i h hd
      by_cases ht : i ∈ topM nw X roots
      · exact ⟨i, ht, Nat.le_refl _, rfl⟩
      · rw [topM_mem] at ht
        have : ∃ j, RchM nw X roots j ∧ (X.getD j default).path = (X.getD i default).path ∧ i < j := by
          apply Classical.byContradiction
          intro hn
          exact ht ⟨h, fun j hj e => Classical.byContradiction fun hlt => hn ⟨j, hj, e, by omega⟩⟩
        obtain ⟨j, hj, e, hlt⟩ := this
        obtain ⟨k, hk, h1, h2⟩ := ih j hj (by omega)
        exact ⟨k, hk, by omega, h2.trans e⟩
  exact key _ i h (Nat.le_refl _)
theorem top_one {nw : Bool} {X : List RelL} {roots : List ReqL} {i j : Nat} (hi : i ∈ topM nw X roots) (hj : j ∈ topM nw X roots) (e : (X.getD i default).path = (X.getD j default).path) : i = j := by
  rw [topM_mem] at hi hj
  have h1 := hi.2 j hj.1 e.symm
  have h2 := hj.2 i hi.1 e
  omega
theorem selM_incr {nw : Bool} {X : List RelL} {roots : List ReqL} (hX : IdxOk X) : incrS ((topM nw X roots).map fun i => keyL (X.getD i default)) := by
  unfold incrS
  rw [List.pairwise_map]
  refine List.Pairwise.imp_of_mem (fun {a b} ha hb hab => ?_) (topM_sorted nw X roots)
  rcases hX.ord a b hab (topM_mem.1 hb).1.lt.1 with h | ⟨h, _⟩
  · exact h
  · have := top_one ha hb h; omega
end Go.Proofs.YtenfkejbndifdaaGreatDoor

namespace Go.Proofs.YtenfkejbndifdaaGreatDoor
set_option linter.unusedVariables false
set_option linter.unusedSimpArgs false
open Go

noncomputable def selL (nw : Bool) (X : List RelL) (roots : List ReqL) : List SelL := (topM nw X roots).map fun i => keyL (X.getD i default)
theorem selL_mem {nw : Bool} {X : List RelL} {roots : List ReqL} {y : SelL} : y ∈ selL nw X roots ↔ ∃ i, i ∈ topM nw X roots ∧ keyL (X.getD i default) = y := by
  unfold selL
  rw [List.mem_map]
theorem selL_incr {nw : Bool} {X : List RelL} {roots : List ReqL} (hX : IdxOk X) : incrS (selL nw X roots) := selM_incr hX
theorem RchM.more {nw : Bool} {X : List RelL} {r1 r2 : List ReqL} (h : ∀ q ∈ r1, q ∈ r2) {i : Nat} (hi : RchM nw X r1 i) : RchM nw X r2 i := by
  induction hi with
  | root hq hn => exact .root (h _ hq) hn
  | step _ hq hn ih => exact .step ih hq hn
def leastS (s : List SelL) (p : ByteArray) : Int := match s.find? fun y => decide (y.1 = p) with
  | some y => plc y.2
  | none => -1
def GrowP (X : List RelL) : Prop := ∀ i, i + 1 < X.length → (X.getD i default).path = (X.getD (i + 1) default).path → ∀ q ∈ (X.getD i default).reqs, ∃ p ∈ (X.getD (i + 1) default).reqs, p.1 = q.1 ∧ subB p.2 q.2 = true
end Go.Proofs.YtenfkejbndifdaaGreatDoor
