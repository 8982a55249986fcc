/- Arguments that came in: a row of strings, a row of numbers, a row of edges, a graph; and read again behind the call. -/
import Derived.Test.YtlcgbkeggmaljaaPA
import Derived.ProofKit
import Derived.OpenShut
import Derived.Handed
import Derived.Deep.Slices
import Derived.Deep.SlicePairs
import Derived.Deep.Strs
import Derived.Lay
import Derived.Carry
import Derived.Lib.SmallJoins
namespace Go.Proofs.Ytlcgbkeggmaljaa
set_option linter.unusedVariables false
set_option linter.unusedSimpArgs false
open Go.ChangeShapes Go.WideShapes Go.ChangeAt Go.RowKit

theorem own : ownKnob Try.prog.godebug = none := by kernel_rfl
theorem laidOut : laidOutB Try.prog = true := by kernel_rfl
/-- the arguments read behind the call as they did. -/
theorem trodAll_belowP {P : Program} (laidOut : laidOutB P = true) {H : Type} {enc : TypeId × Value → H} {W W' : World} (hb : Below W.heap.size W W') : ∀ {ts : List TypeId} {vs : List Value} {ds : List (DataW H)} {ps : List MemPlace},
    (ts.all fun t => P.readableRec t && decide (t < P.types.size)) = true → DataW.TrodAll enc P W 0 (fun _ => true) true ts vs ds ps → (∀ x ∈ ps, x.block < W.heap.size) →
    DataW.TrodAll enc P W' 0 (fun b => decide (b < W.heap.size)) true ts vs ds ps
  | [], vs, ds, ps, _, h, _ => by
    obtain ⟨rfl, rfl, rfl⟩ := trodAll_nil h
    exact trodAll_mk0
  | t :: ts, vs, ds, ps, hr, h, hlt => by
    obtain ⟨v, vs', d, ds', p, q, rfl, rfl, rfl, hd, hrest⟩ := trodAll_cons h
    simp only [List.all_cons, Bool.and_eq_true, decide_eq_true_eq] at hr
    exact ⟨p, q, Below.trod laidOut hr.1.1 hr.1.2 hd hb (fun x hx => hlt x (by simp [hx])), trodAll_belowP laidOut hb hr.2 hrest (fun x hx => hlt x (by simp [hx])), rfl⟩
theorem spot_none {W : World} {a : Addr} {v : Value} (h : W.cell? a = some v) : a.spot = none := by
  unfold World.cell? at h
  cases e : a.spot with
  | none => rfl
  | some j =>
    exfalso
    rw [e] at h
    revert h
    split <;> simp
theorem add_none (b o i : Nat) : Addr.add ⟨b, o, none⟩ i = ⟨b, o + i, none⟩ := by unfold Addr.add; split <;> simp_all
/-- one cell each: a row, from its cells. -/
theorem rowOf_cells {α : Type} {enc : α → Value} {B : Nat} {W : World} {a : Addr} {len cap m : Nat} {F : Nat → α} (hm : len ≤ m) (hc : ∀ i, i < m → W.cell? (a.add i) = some (enc (F i)))
    (hp : ∀ x ∈ MemPlace.row a m, x.block < B) : RowOf enc B (.slice (some a) len cap) ((List.range len).map F) W ∧ ((List.range len).map F).length = len := by
  have hlen : ((List.range len).map F).length = len := by simp
  refine ⟨?_, hlen⟩
  by_cases h0 : len = 0
  · subst h0
    exact .inl ⟨rfl, some a, cap, rfl⟩
  · obtain ⟨ab, ao, aq⟩ := a
    have hq : aq = none := by
      have := spot_none (hc 0 (by omega))
      simpa [Addr.add] using this
    subst hq
    refine .inr ⟨ab, ao, cap, by rw [hlen], ?_, fun i x hx => ?_⟩
    · exact hp (.cell ab ao) (MemPlace.mem_row.2 ⟨0, by omega, by simp⟩)
    · have hi : i < len := by have := (List.getElem?_eq_some_iff.1 hx).1; rw [hlen] at this; exact this
      rw [List.getElem?_map, List.getElem?_range hi] at hx
      cases hx
      have := hc i (by omega)
      rw [add_none] at this
      exact this
set_option maxRecDepth 100000 in
theorem open_names {H : Type} {enc : TypeId × Value → H} {W : World} {fuel : Nat} {v : Value} {x : DataW H × List MemPlace} (h : DataW.trod enc Try.prog W 0 (fun _ => true) true fuel 22 [v] = some x)
    (hlt : ∀ y ∈ x.2, y.block < W.heap.size) : ∃ (a : Option Addr) (c : Nat) (ns : List ByteArray), v = .slice a ns.length c ∧ RowOf Value.string W.heap.size v ns W := by
  rcases Go.Deep.open_strs Try.underlying22 Try.underlying9 (by as_aux_lemma => kernel_rfl) h with ⟨h2, _⟩ | ⟨a, len, cap, m, F, h2, _, h3, h4, h5, h6, h7⟩
  · cases h2
    exact ⟨none, 0, [], rfl, .inl ⟨rfl, none, 0, rfl⟩⟩
  · cases h2
    rw [if_pos rfl] at h5
    obtain ⟨g1, g2⟩ := rowOf_cells (enc := Value.string) (B := W.heap.size) (F := F) (cap := cap) (len := len) (m := m) (by omega) (fun i hi => (h7 i hi).1) (fun y hy => hlt y (by rw [h6]; exact hy))
    exact ⟨some a, cap, _, by rw [g2], g1⟩
set_option maxRecDepth 100000 in
theorem open_nums {H : Type} {enc : TypeId × Value → H} {W : World} {fuel : Nat} {v : Value} {x : DataW H × List MemPlace} (h : DataW.trod enc Try.prog W 0 (fun _ => true) true fuel 26 [v] = some x)
    (hlt : ∀ y ∈ x.2, y.block < W.heap.size) : ∃ ns : List Int, RowOf intC W.heap.size v ns W := by
  rcases open_ints Try.underlying26 Try.underlying3 (by as_aux_lemma => kernel_rfl) h with ⟨h2, _⟩ | ⟨a, len, cap, zs, h2, _, h3, h4, h5, h6, h7, h8⟩
  · cases h2
    exact ⟨[], .inl ⟨rfl, none, 0, rfl⟩⟩
  · cases h2
    rw [if_pos rfl] at h5
    obtain ⟨g1, g2⟩ := rowOf_cells (enc := intC) (B := W.heap.size) (F := fun i => zs.getD i 0) (cap := cap) (len := len) (m := zs.length) (by omega) (fun i hi => h7 i hi) (fun y hy => hlt y (by rw [h6]; exact hy))
    exact ⟨_, g1⟩
set_option maxRecDepth 100000 in
theorem open_edges {H : Type} {enc : TypeId × Value → H} {W : World} {fuel : Nat} {v : Value} {x : DataW H × List MemPlace} (h : DataW.trod enc Try.prog W 0 (fun _ => true) true fuel 23 [v] = some x)
    (hlt : ∀ y ∈ x.2, y.block < W.heap.size) : ∃ es : List (Int × Int), EdgesOf W.heap.size v es W := by
  rcases Go.Deep.open_slice_pairs Try.underlying23 Try.underlying39 (by as_aux_lemma => kernel_rfl) rfl rfl (by as_aux_lemma => kernel_rfl) (by as_aux_lemma => kernel_rfl) h with ⟨h2, _⟩ | ⟨a, len, cap, m, n, V0, V1, D0, D1, P0, P1, h2, _, h3, h4, h5, h6, h7⟩
  · cases h2
    exact ⟨[], none, 0, rfl, fun i x hx => by simp at hx⟩
  · cases h2
    rw [if_pos rfl] at h5
    have key : ∀ i, i < m → ∃ z : Int × Int, V0 i = intC z.1 ∧ V1 i = intC z.2 := fun i hi => by
      obtain ⟨_, _, g0, g1⟩ := h7 i hi
      obtain ⟨z0, e0, _⟩ := DataW.trod_int Try.underlying3 g0
      obtain ⟨z1, e1, _⟩ := DataW.trod_int Try.underlying3 g1
      exact ⟨(z0, z1), (List.cons.inj e0).1, (List.cons.inj e1).1⟩
    obtain ⟨F, hF⟩ := Go.Deep.choose_lt key
    have hlen : ((List.range len).map F).length = len := by simp
    refine ⟨(List.range len).map F, some a, cap, by rw [hlen], fun i z hz => ?_⟩
    have hi : i < len := by have := (List.getElem?_eq_some_iff.1 hz).1; rw [hlen] at this; exact this
    rw [List.getElem?_map, List.getElem?_range hi] at hz
    cases hz
    obtain ⟨c0, c1, _, _⟩ := h7 i (by omega)
    rw [(hF i (by omega)).1] at c0
    rw [(hF i (by omega)).2] at c1
    obtain ⟨ab, ao, aq⟩ := a
    have hq : aq = none := by
      obtain ⟨c2, _, _, _⟩ := h7 0 (by omega)
      have := spot_none c2
      simpa [Addr.add] using this
    subst hq
    rw [add_none] at c0 c1
    refine ⟨ab, ao, rfl, ?_, c0, by rw [Nat.add_assoc]; exact c1⟩
    exact hlt (.cell ab ao) (by
      rw [h6]
      exact List.mem_append.2 (.inl (MemPlace.mem_row.2 ⟨0, by omega, by simp⟩)))
set_option maxRecDepth 100000 in
theorem open_graph {H : Type} {enc : TypeId × Value → H} {W : World} {r : Reach} {b0 : Nat} {v : Value} {d : DataW H} {p : List MemPlace} (hv : Value.okWide Try.prog W r b0 25 v) (h : DataW.Trod enc Try.prog W 0 (fun _ => true) true 25 v d p)
    (hlt : ∀ y ∈ p, y.block < W.heap.size) :
    ∃ (a : Option Addr) (c : Nat) (ev : Value) (ns : List ByteArray) (es : List (Int × Int)), v = .agg #[.slice a ns.length c, ev] ∧ EdgesOf W.heap.size ev es W ∧ RowOf Value.string W.heap.size (.slice a ns.length c) ns W := by
  obtain ⟨v0, v1, y0, y1, n, rfl, _, rfl, h0, h1⟩ := Go.Joins.open_agg2 Try.underlying25 (by as_aux_lemma => kernel_rfl) (by as_aux_lemma => kernel_rfl) hv h
  obtain ⟨a, c, ns, rfl, hR⟩ := open_names h0 (fun y hy => hlt y (List.mem_append.2 (.inl hy)))
  obtain ⟨es, hE⟩ := open_edges h1 (fun y hy => hlt y (List.mem_append.2 (.inr hy)))
  exact ⟨a, c, v1, ns, es, rfl, hE, hR⟩
end Go.Proofs.Ytlcgbkeggmaljaa
