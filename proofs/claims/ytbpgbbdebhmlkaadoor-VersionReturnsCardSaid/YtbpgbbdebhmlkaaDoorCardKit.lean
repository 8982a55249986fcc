/- What the cards share: the variables' facts out of a fitting world; arguments opened and read again. -/
import Derived.Test.YtbpgbbdebhmlkaaDoorVAwake
import Derived.Test.YtbpgbbdebhmlkaaDoorRows
import Derived.ProofKit
import Derived.OpenShut
import Derived.Deep.DeepHandedRow
import Derived.Deep.Slices
import Derived.Shelf.Vars
import Derived.Lay
import Derived.Carry
import Derived.Lib.SmallJoins
namespace Go.Proofs.YtbpgbbdebhmlkaaDoor
open Go.ChangeShapes Go.WideShapes Go.ChangeAt Go.RowKit
open Go.ChangeMaps (open_string shut_string)

theorem own : ownKnob Tryd.prog.godebug = none := by kernel_rfl
theorem laidOut : laidOutB Tryd.prog = true := by kernel_rfl
theorem maxOk {W : World} (h : W.ShapedOpen Tryd.prog) : MaxOk W :=
  cell_of_shapedOpen_int (g := 0) (t := 3) (zero := #[.int .i64 0]) h (of_decide_eq_true (by kernel_rfl)) (by kernel_rfl) rfl (by kernel_rfl) (by kernel_rfl) Tryd.underlying3
/-- a listed variable, wherever it stands on the list. -/
theorem laidVars_get {P : Program} {W : World} : ∀ (l : List (String × DataW Unit)) (ps : List MemPlace) (i : Nat) (x : String × DataW Unit), DataW.LaidVars P W l ps → l[i]? = some x →
    ∃ g t cs fuel p, P.globalNamed x.1 = some g ∧ (P.globals[g]?).map (·.type) = some t ∧ W.var? P x.1 = some cs ∧ DataW.trod (fun _ => ()) P W 0 (fun _ => true) false fuel t cs.toList = some (x.2, p)
  | [], _, i, x, _, hx => by simp at hx
  | (n, d) :: r, ps, 0, x, h, hx => by
    obtain ⟨g, t, cs, fuel, p, q, h1, h2, h3, h4, _, _⟩ := h
    simp at hx
    subst hx
    exact ⟨g, t, cs, fuel, p, h1, h2, h3, h4⟩
  | (n, d) :: r, ps, i + 1, x, h, hx => by
    obtain ⟨g, t, cs, fuel, p, q, _, _, _, _, h5, _⟩ := h
    exact laidVars_get r q i x h5 (by simpa using hx)
theorem tabOk {W : World} (l : List (String × DataW Unit)) (i : Nat) (hi : l[i]? = some ("internal/strconv.uint64pow10", Lib.tabData .u64 Lib.pow10Tab)) (h : laidMet Tryd.prog l W) : TabOk W := by
  obtain ⟨ps, hl, _⟩ := h
  obtain ⟨g, t, cs, fuel, p, h1, h2, h3, h4⟩ := laidVars_get l ps i _ hl hi
  obtain rfl : g = 3 := Option.some.inj (h1.symm.trans (by kernel_rfl))
  obtain rfl : t = 120 := Option.some.inj (h2.symm.trans (by kernel_rfl))
  have e := Lib.cells_of_tab (e := 97) (n := 20) Tryd.underlying120 Tryd.underlying97 (by kernel_rfl) (by kernel_rfl) h4
  unfold TabOk Lib.TabIs
  rw [h3, ← e]
/-- the arguments read behind the call as they did. -/
theorem trodAll_belowP {P : Program} (laidOut : laidOutB P = true) {H : Type} {enc : TypeId × Value → H} {W W' : World} (hb : Below W.heap.size W W') : ∀ {ts : List TypeId} {vs : List Value} {ds : List (DataW H)} {ps : List MemPlace},
    (ts.all fun t => P.readableRec t && decide (t < P.types.size)) = true → DataW.TrodAll enc P W 0 (fun _ => true) true ts vs ds ps → (∀ x ∈ ps, x.block < W.heap.size) →
    DataW.TrodAll enc P W' 0 (fun b => decide (b < W.heap.size)) true ts vs ds ps
  | [], vs, ds, ps, _, h, _ => by
    obtain ⟨rfl, rfl, rfl⟩ := trodAll_nil h
    exact trodAll_mk0
  | t :: ts, vs, ds, ps, hr, h, hlt => by
    obtain ⟨v, vs', d, ds', p, q, rfl, rfl, rfl, hd, hrest⟩ := trodAll_cons h
    simp only [List.all_cons, Bool.and_eq_true, decide_eq_true_eq] at hr
    exact ⟨p, q, Below.trod laidOut hr.1.1 hr.1.2 hd hb (fun x hx => hlt x (by simp [hx])), trodAll_belowP laidOut hb hr.2 hrest (fun x hx => hlt x (by simp [hx])), rfl⟩
set_option maxRecDepth 100000 in
/-- a number that came in. -/
theorem open_ver {H : Type} {enc : TypeId × Value → H} {W : World} {sp : Nat → Bool} {r : Reach} {b0 : Nat} {v : Value} {d : DataW H} {p : List MemPlace} (hv : Value.okWide Tryd.prog W r b0 23 v) (h : DataW.Trod enc Tryd.prog W 0 sp true 23 v d p) :
    ∃ a b c : Int, v = .agg #[.int .i64 a, .int .i64 b, .int .i64 c] := by
  obtain ⟨c0, c1, c2, y0, y1, y2, n, rfl, _, _, h0, h1, h2⟩ := Go.Joins.open_agg3 Tryd.underlying23 (by as_aux_lemma => kernel_rfl) (by as_aux_lemma => kernel_rfl) hv h
  obtain ⟨z0, e0, _⟩ := DataW.trod_int Tryd.underlying3 h0
  obtain ⟨z1, e1, _⟩ := DataW.trod_int Tryd.underlying3 h1
  obtain ⟨z2, e2, _⟩ := DataW.trod_int Tryd.underlying3 h2
  rw [(List.cons.inj e0).1, (List.cons.inj e1).1, (List.cons.inj e2).1]
  exact ⟨z0, z1, z2, rfl⟩
set_option maxRecDepth 100000 in
theorem ver_cells {H : Type} {enc : TypeId × Value → H} {W : World} {sp : Nat → Bool} {n : Nat} {cs : List Value} {x : DataW H × List MemPlace} (h : DataW.trod enc Tryd.prog W 0 sp true n 23 cs = some x) :
    ∃ a b c : Int, cs = [.int .i64 a, .int .i64 b, .int .i64 c] := by
  obtain ⟨y0, y1, y2, m, _, hl, h0, h1, h2⟩ := Go.Deep.trod_struct3 Tryd.underlying23 h
  have hl : cs.length = 3 := hl.trans (by as_aux_lemma => kernel_rfl)
  have hc : Tryd.prog.cellsOf 3 = 1 := by as_aux_lemma => kernel_rfl
  match cs, hl with
  | [c0, c1, c2], _ =>
    simp only [hc] at h0 h1 h2
    obtain ⟨z0, e0, _⟩ := DataW.trod_int Tryd.underlying3 h0
    obtain ⟨z1, e1, _⟩ := DataW.trod_int Tryd.underlying3 h1
    obtain ⟨z2, e2, _⟩ := DataW.trod_int Tryd.underlying3 h2
    have e0 : c0 = .int .i64 z0 := (List.cons.inj (show [c0] = [.int .i64 z0] from e0)).1
    have e1 : c1 = .int .i64 z1 := (List.cons.inj (show [c1] = [.int .i64 z1] from e1)).1
    have e2 : c2 = .int .i64 z2 := (List.cons.inj (show [c2] = [.int .i64 z2] from e2)).1
    exact ⟨z0, z1, z2, by rw [e0, e1, e2]⟩
theorem spot_none {W : World} {a : Addr} {v : Value} (h : W.cell? a = some v) : a.spot = none := by
  unfold World.cell? at h
  cases e : a.spot with
  | none => rfl
  | some j =>
    exfalso
    rw [e] at h
    revert h
    split <;> simp
theorem add_none (b o i : Nat) : Addr.add ⟨b, o, none⟩ i = ⟨b, o + i, none⟩ := by unfold Addr.add; split <;> simp_all
set_option maxRecDepth 100000 in
/-- a slice of numbers that came in. -/
theorem open_vers {H : Type} {enc : TypeId × Value → H} {W : World} {r : Reach} {b0 : Nat} {v : Value} {d : DataW H} {p : List MemPlace} (hv : Value.okWide Tryd.prog W r b0 36 v) (h : DataW.Trod enc Tryd.prog W 0 (fun _ => true) true 36 v d p)
    (hlt : ∀ x ∈ p, x.block < W.heap.size) : ∃ l : List V3, RowV v l W := by
  obtain ⟨ka, kl, kc, rfl⟩ := okWide_slice Tryd.underlying36 hv
  obtain ⟨n, hn⟩ := h
  have hc3 : Tryd.prog.cellsOf 23 = 3 := by as_aux_lemma => kernel_rfl
  rcases Go.Deep.open_slice Tryd.underlying36 hn with ⟨h2, _⟩ | ⟨a, len, cap, m, n2, D, Pl, h2, _, h3, h4, h5, h6, h7⟩
  · refine ⟨[], .inl ⟨rfl, none, 0, (List.cons.inj (show [Value.slice ka kl kc] = [Value.slice none 0 0] from h2)).1⟩⟩
  · cases (List.cons.inj (show [Value.slice ka kl kc] = [Value.slice (some a) len cap] from h2)).1
    rw [if_pos rfl] at h5
    subst h5
    rw [hc3] at h6 h7
    by_cases h0 : kl = 0
    · exact ⟨[], .inl ⟨rfl, some a, m, by rw [h0]⟩⟩
    · have key : ∀ i, i < m → ∃ x : V3, W.cell? (a.add (i * 3)) = some (.int .i64 x.1) ∧ W.cell? ((a.add (i * 3)).add 1) = some (.int .i64 x.2.1) ∧ W.cell? ((a.add (i * 3)).add 2) = some (.int .i64 x.2.2) := fun i hi => by
        obtain ⟨cs, g1, g2⟩ := h7 i hi
        obtain ⟨z0, z1, z2, rfl⟩ := ver_cells g2
        obtain ⟨_, _, g3⟩ := World.cells?_some g1
        refine ⟨(z0, z1, z2), ?_, g3 1 (by omega), g3 2 (by omega)⟩
        have := g3 0 (by omega)
        simpa [Addr.add] using this
      obtain ⟨F, hF⟩ := Go.Deep.choose_lt key
      obtain ⟨ab, ao, aq⟩ := a
      have hq : aq = none := by
        have := spot_none (hF 0 (by omega)).1
        simpa [Addr.add] using this
      subst hq
      have hlen : ((List.range kl).map F).length = kl := by simp
      refine ⟨(List.range kl).map F, .inr ⟨ab, ao, m, by rw [hlen], ?_, fun i x hx => ?_⟩⟩
      · exact hlt (.cell ab ao) (by
          have := congrArg Prod.snd h6
          simp only at this
          rw [this, List.mem_append]
          exact .inl (MemPlace.mem_row.2 ⟨0, by omega, by simp⟩))
      · have hi : i < kl := by have := (List.getElem?_eq_some_iff.1 hx).1; rw [hlen] at this; exact this
        rw [List.getElem?_map, List.getElem?_range hi] at hx
        cases hx
        have := hF i (by omega)
        rw [add_none, add_none, add_none] at this
        exact this
end Go.Proofs.YtbpgbbdebhmlkaaDoor
