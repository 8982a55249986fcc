/- What the cards share: the variables' facts out of a fitting world; arguments opened and read again. -/
import Derived.Test.YtdhihdiifgcfdaaGreatDoorCLawKit
import Derived.Test.YtdhihdiifgcfdaaGreatDoorRows
import Derived.ProofKit
import Derived.OpenShut
import Derived.Deep.DeepHandedRow
import Derived.Deep.Slices
import Derived.Deep.SlicePairs
import Derived.Shelf.Vars
import Derived.Lay
import Derived.Carry
import Derived.Lib.SmallJoins
namespace Go.Proofs.YtdhihdiifgcfdaaGreatDoor
set_option linter.unusedVariables false
set_option linter.unusedSimpArgs false
open Go.ChangeShapes Go.WideShapes Go.ChangeAt Go.RowKit
open Go.ChangeMaps (open_string shut_string)

theorem own : ownKnob Tryz.prog.godebug = none := by kernel_rfl
theorem laidOut : laidOutB Tryz.prog = true := by kernel_rfl
theorem maxOk {W : World} (h : W.ShapedOpen Tryz.prog) : MaxOk W :=
  cell_of_shapedOpen_int (g := 0) (t := 3) (zero := #[.int .i64 0]) h (of_decide_eq_true (by kernel_rfl)) (by kernel_rfl) rfl (by kernel_rfl) (by kernel_rfl) Tryz.underlying3
/-- a listed variable, wherever it stands on the list. -/
theorem laidVars_get {P : Program} {W : World} : ∀ (l : List (String × DataW Unit)) (ps : List MemPlace) (i : Nat) (x : String × DataW Unit), DataW.LaidVars P W l ps → l[i]? = some x →
    ∃ g t cs fuel p, P.globalNamed x.1 = some g ∧ (P.globals[g]?).map (·.type) = some t ∧ W.var? P x.1 = some cs ∧ DataW.trod (fun _ => ()) P W 0 (fun _ => true) false fuel t cs.toList = some (x.2, p)
  | [], _, i, x, _, hx => by simp at hx
  | (n, d) :: r, ps, 0, x, h, hx => by
    obtain ⟨g, t, cs, fuel, p, q, h1, h2, h3, h4, _, _⟩ := h
    simp at hx
    subst hx
    exact ⟨g, t, cs, fuel, p, h1, h2, h3, h4⟩
  | (n, d) :: r, ps, i + 1, x, h, hx => by
    obtain ⟨g, t, cs, fuel, p, q, _, _, _, _, h5, _⟩ := h
    exact laidVars_get r q i x h5 (by simpa using hx)
theorem tabOk {W : World} (l : List (String × DataW Unit)) (i : Nat) (hi : l[i]? = some ("internal/strconv.uint64pow10", Lib.tabData .u64 Lib.pow10Tab)) (h : laidMet Tryz.prog l W) : TabOk W := by
  obtain ⟨ps, hl, _⟩ := h
  obtain ⟨g, t, cs, fuel, p, h1, h2, h3, h4⟩ := laidVars_get l ps i _ hl hi
  obtain rfl : g = 3 := Option.some.inj (h1.symm.trans (by kernel_rfl))
  obtain rfl : t = 171 := Option.some.inj (h2.symm.trans (by kernel_rfl))
  have e := Lib.cells_of_tab (e := 132) (n := 20) Tryz.underlying171 Tryz.underlying132 (by kernel_rfl) (by kernel_rfl) h4
  unfold TabOk Lib.TabIs
  rw [h3, ← e]
/-- the arguments read behind the call as they did. -/
theorem trodAll_belowP {P : Program} (laidOut : laidOutB P = true) {H : Type} {enc : TypeId × Value → H} {W W' : World} (hb : Below W.heap.size W W') : ∀ {ts : List TypeId} {vs : List Value} {ds : List (DataW H)} {ps : List MemPlace},
    (ts.all fun t => P.readableRec t && decide (t < P.types.size)) = true → DataW.TrodAll enc P W 0 (fun _ => true) true ts vs ds ps → (∀ x ∈ ps, x.block < W.heap.size) →
    DataW.TrodAll enc P W' 0 (fun b => decide (b < W.heap.size)) true ts vs ds ps
  | [], vs, ds, ps, _, h, _ => by
    obtain ⟨rfl, rfl, rfl⟩ := trodAll_nil h
    exact trodAll_mk0
  | t :: ts, vs, ds, ps, hr, h, hlt => by
    obtain ⟨v, vs', d, ds', p, q, rfl, rfl, rfl, hd, hrest⟩ := trodAll_cons h
    simp only [List.all_cons, Bool.and_eq_true, decide_eq_true_eq] at hr
    exact ⟨p, q, Below.trod laidOut hr.1.1 hr.1.2 hd hb (fun x hx => hlt x (by simp [hx])), trodAll_belowP laidOut hb hr.2 hrest (fun x hx => hlt x (by simp [hx])), rfl⟩
set_option maxRecDepth 100000 in
/-- a number that came in. -/
theorem open_ver {H : Type} {enc : TypeId × Value → H} {W : World} {sp : Nat → Bool} {r : Reach} {b0 : Nat} {v : Value} {d : DataW H} {p : List MemPlace} (hv : Value.okWide Tryz.prog W r b0 23 v) (h : DataW.Trod enc Tryz.prog W 0 sp true 23 v d p) :
    ∃ a b c : Int, v = .agg #[.int .i64 a, .int .i64 b, .int .i64 c] := by
  obtain ⟨c0, c1, c2, y0, y1, y2, n, rfl, _, _, h0, h1, h2⟩ := Go.Joins.open_agg3 Tryz.underlying23 (by as_aux_lemma => kernel_rfl) (by as_aux_lemma => kernel_rfl) hv h
  obtain ⟨z0, e0, _⟩ := DataW.trod_int Tryz.underlying3 h0
  obtain ⟨z1, e1, _⟩ := DataW.trod_int Tryz.underlying3 h1
  obtain ⟨z2, e2, _⟩ := DataW.trod_int Tryz.underlying3 h2
  rw [(List.cons.inj e0).1, (List.cons.inj e1).1, (List.cons.inj e2).1]
  exact ⟨z0, z1, z2, rfl⟩
set_option maxRecDepth 100000 in
theorem ver_cells {H : Type} {enc : TypeId × Value → H} {W : World} {sp : Nat → Bool} {n : Nat} {cs : List Value} {x : DataW H × List MemPlace} (h : DataW.trod enc Tryz.prog W 0 sp true n 23 cs = some x) :
    ∃ a b c : Int, cs = [.int .i64 a, .int .i64 b, .int .i64 c] := by
  obtain ⟨y0, y1, y2, m, _, hl, h0, h1, h2⟩ := Go.Deep.trod_struct3 Tryz.underlying23 h
  have hl : cs.length = 3 := hl.trans (by as_aux_lemma => kernel_rfl)
  have hc : Tryz.prog.cellsOf 3 = 1 := by as_aux_lemma => kernel_rfl
  match cs, hl with
  | [c0, c1, c2], _ =>
    simp only [hc] at h0 h1 h2
    obtain ⟨z0, e0, _⟩ := DataW.trod_int Tryz.underlying3 h0
    obtain ⟨z1, e1, _⟩ := DataW.trod_int Tryz.underlying3 h1
    obtain ⟨z2, e2, _⟩ := DataW.trod_int Tryz.underlying3 h2
    have e0 : c0 = .int .i64 z0 := (List.cons.inj (show [c0] = [.int .i64 z0] from e0)).1
    have e1 : c1 = .int .i64 z1 := (List.cons.inj (show [c1] = [.int .i64 z1] from e1)).1
    have e2 : c2 = .int .i64 z2 := (List.cons.inj (show [c2] = [.int .i64 z2] from e2)).1
    exact ⟨z0, z1, z2, by rw [e0, e1, e2]⟩
theorem spot_none {W : World} {a : Addr} {v : Value} (h : W.cell? a = some v) : a.spot = none := by
  unfold World.cell? at h
  cases e : a.spot with
  | none => rfl
  | some j =>
    exfalso
    rw [e] at h
    revert h
    split <;> simp
theorem add_none (b o i : Nat) : Addr.add ⟨b, o, none⟩ i = ⟨b, o + i, none⟩ := by unfold Addr.add; split <;> simp_all
/-- one cell each: a row, from its cells. -/
theorem rowOf_cells {α : Type} {enc : α → Value} {B : Nat} {W : World} {a : Addr} {len cap m : Nat} {F : Nat → α} (hm : len ≤ m) (hc : ∀ i, i < m → W.cell? (a.add i) = some (enc (F i)))
    (hp : ∀ x ∈ MemPlace.row a m, x.block < B) : RowOf enc B (.slice (some a) len cap) ((List.range len).map F) W ∧ ((List.range len).map F).length = len := by
  have hlen : ((List.range len).map F).length = len := by simp
  refine ⟨?_, hlen⟩
  by_cases h0 : len = 0
  · subst h0
    exact .inl ⟨rfl, some a, cap, rfl⟩
  · obtain ⟨ab, ao, aq⟩ := a
    have hq : aq = none := by
      have := spot_none (hc 0 (by omega))
      simpa [Addr.add] using this
    subst hq
    refine .inr ⟨ab, ao, cap, by rw [hlen], ?_, fun i x hx => ?_⟩
    · exact hp (.cell ab ao) (MemPlace.mem_row.2 ⟨0, by omega, by simp⟩)
    · have hi : i < len := by have := (List.getElem?_eq_some_iff.1 hx).1; rw [hlen] at this; exact this
      rw [List.getElem?_map, List.getElem?_range hi] at hx
      cases hx
      have := hc i (by omega)
      rw [add_none] at this
      exact this
set_option maxRecDepth 100000 in
theorem open_nums {H : Type} {enc : TypeId × Value → H} {W : World} {fuel : Nat} {v : Value} {x : DataW H × List MemPlace} (h : DataW.trod enc Tryz.prog W 0 (fun _ => true) true fuel 54 [v] = some x)
    (hlt : ∀ y ∈ x.2, y.block < W.heap.size) : ∃ ns : List Int, RowOf intC W.heap.size v ns W := by
  rcases open_ints Tryz.underlying54 Tryz.underlying3 (by as_aux_lemma => kernel_rfl) h with ⟨h2, _⟩ | ⟨a, len, cap, zs, h2, _, h3, h4, h5, h6, h7, h8⟩
  · cases h2
    exact ⟨[], .inl ⟨rfl, none, 0, rfl⟩⟩
  · cases h2
    rw [if_pos rfl] at h5
    obtain ⟨g1, g2⟩ := rowOf_cells (enc := intC) (B := W.heap.size) (F := fun i => zs.getD i 0) (cap := cap) (len := len) (m := zs.length) (by omega) (fun i hi => h7 i hi) (fun y hy => hlt y (by rw [h6]; exact hy))
    exact ⟨_, g1⟩
set_option maxRecDepth 100000 in
theorem open_set {H : Type} {enc : TypeId × Value → H} {W : World} {fuel : Nat} {v : Value} {x : DataW H × List MemPlace} (h : DataW.trod enc Tryz.prog W 0 (fun _ => true) true fuel 32 [v] = some x)
    (hlt : ∀ y ∈ x.2, y.block < W.heap.size) : ∃ es : List (Int × Int), EdgesOf W.heap.size v es W := by
  rcases Go.Deep.open_slice_pairs Tryz.underlying32 Tryz.underlying49 (by as_aux_lemma => kernel_rfl) rfl rfl (by as_aux_lemma => kernel_rfl) (by as_aux_lemma => kernel_rfl) h with ⟨h2, _⟩ | ⟨a, len, cap, m, n, V0, V1, D0, D1, P0, P1, h2, _, h3, h4, h5, h6, h7⟩
  · cases h2
    exact ⟨[], none, 0, rfl, fun i x hx => by simp at hx⟩
  · cases h2
    rw [if_pos rfl] at h5
    have key : ∀ i, i < m → ∃ z : Int × Int, V0 i = intC z.1 ∧ V1 i = intC z.2 := fun i hi => by
      obtain ⟨_, _, g0, g1⟩ := h7 i hi
      obtain ⟨z0, e0, _⟩ := DataW.trod_int Tryz.underlying3 g0
      obtain ⟨z1, e1, _⟩ := DataW.trod_int Tryz.underlying3 g1
      exact ⟨(z0, z1), (List.cons.inj e0).1, (List.cons.inj e1).1⟩
    obtain ⟨F, hF⟩ := Go.Deep.choose_lt key
    have hlen : ((List.range len).map F).length = len := by simp
    refine ⟨(List.range len).map F, some a, cap, by rw [hlen], fun i z hz => ?_⟩
    have hi : i < len := by have := (List.getElem?_eq_some_iff.1 hz).1; rw [hlen] at this; exact this
    rw [List.getElem?_map, List.getElem?_range hi] at hz
    cases hz
    obtain ⟨c0, c1, _, _⟩ := h7 i (by omega)
    rw [(hF i (by omega)).1] at c0
    rw [(hF i (by omega)).2] at c1
    obtain ⟨ab, ao, aq⟩ := a
    have hq : aq = none := by
      obtain ⟨c2, _, _, _⟩ := h7 0 (by omega)
      have := spot_none c2
      simpa [Addr.add] using this
    subst hq
    rw [add_none] at c0 c1
    refine ⟨ab, ao, rfl, ?_, c0, by rw [Nat.add_assoc]; exact c1⟩
    exact hlt (.cell ab ao) (by
      rw [h6]
      exact List.mem_append.2 (.inl (MemPlace.mem_row.2 ⟨0, by omega, by simp⟩)))
set_option maxRecDepth 100000 in
/-- sets that came in. -/
theorem open_sets {H : Type} {enc : TypeId × Value → H} {W : World} {fuel : Nat} {v : Value} {x : DataW H × List MemPlace} (h : DataW.trod enc Tryz.prog W 0 (fun _ => true) true fuel 53 [v] = some x)
    (hlt : ∀ y ∈ x.2, y.block < W.heap.size) : ∃ l : List (List (Int × Int)), SetsOf W.heap.size v l W ∧ l.length ≤ 9223372036854775807 := by
  have hc1 : Tryz.prog.cellsOf 32 = 1 := by as_aux_lemma => kernel_rfl
  rcases Go.Deep.open_slice Tryz.underlying53 h with ⟨h2, _⟩ | ⟨a, len, cap, m, n2, D, Pl, h2, _, h3, h4, h5, h6, h7⟩
  · cases h2
    exact ⟨[], ⟨none, 0, rfl, fun i s hs => by simp at hs⟩, by simp⟩
  · cases h2
    rw [if_pos rfl] at h5
    subst h5
    rw [hc1] at h6 h7
    have hp : ∀ i, i < m → ∀ y ∈ Pl i, y.block < W.heap.size := fun i hi y hy => hlt y (by
      rw [h6]
      exact List.mem_append.2 (.inr (List.mem_flatMap.2 ⟨i, List.mem_range.2 hi, hy⟩)))
    have key : ∀ i, i < m → ∃ z : List (Int × Int) × Value, W.cell? (a.add i) = some z.2 ∧ EdgesOf W.heap.size z.2 z.1 W := fun i hi => by
      obtain ⟨cs, g1, g2⟩ := h7 i hi
      obtain ⟨_, hcl, g3⟩ := World.cells?_some g1
      match cs, hcl with
      | [r], _ =>
        obtain ⟨z, hz⟩ := open_set g2 (hp i hi)
        refine ⟨(z, r), ?_, hz⟩
        have := g3 0 (by omega)
        simpa [Addr.add] using this
    obtain ⟨F, hF⟩ := Go.Deep.choose_lt key
    have hlen : ((List.range len).map fun i => (F i).1).length = len := by simp
    unfold maxLen at h4
    refine ⟨(List.range len).map fun i => (F i).1, ⟨some a, m, by rw [hlen], fun i s hs => ?_⟩, by rw [hlen]; omega⟩
    have hi : i < len := by have := (List.getElem?_eq_some_iff.1 hs).1; rw [hlen] at this; exact this
    rw [List.getElem?_map, List.getElem?_range hi] at hs
    cases hs
    obtain ⟨c0, hE⟩ := hF i (by omega)
    obtain ⟨ab, ao, aq⟩ := a
    have hq : aq = none := by
      have := spot_none (hF 0 (by omega)).1
      simpa [Addr.add] using this
    subst hq
    rw [add_none] at c0
    refine ⟨ab, ao, (F i).2, rfl, ?_, c0, hE⟩
    exact hlt (.cell ab ao) (by
      rw [h6]
      exact List.mem_append.2 (.inl (MemPlace.mem_row.2 ⟨0, by omega, by simp⟩)))
end Go.Proofs.YtdhihdiifgcfdaaGreatDoor
