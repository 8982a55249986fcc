/- Short forms of the kit's laws, for the texts of this claim. -/
import Derived.OrdersIn
import Derived.OrdersHeld
import Derived.StillTailTactics
import Derived.RangeFuncNested
import Derived.RangeFuncCalls
import Derived.WalkKit
import Derived.Deep.RegionHeld3
import Derived.Lib.Hide
import Derived.Laws.Rows
import Derived.RangeFuncRecord
import Derived.Below
namespace Go.Proofs.YtapbhoodgnmnkaaGreatDoor
open Go Go.RowKit
theorem zl1 : (∀ {α : Type} {xs : List α} {i : Nat} (h : i < xs.toArray.size), xs.toArray[i] = xs[i]'(by simpa using h)) ∧ (∀ {α : Type} {a : α} {l : List α} (h : 0 < (a :: l).length), (a :: l)[0] = a) ∧ (∀ {α : Type} {a : α} {l : List α} {i : Nat} (h : i + 1 < (a :: l).length), (a :: l)[i + 1] = l[i]'(Nat.lt_of_succ_lt_succ h)) ∧
    (∀ {α : Type} (l : List α) (i : Nat) (a : α), l.toArray.setIfInBounds i a = (l.set i a).toArray) ∧ (∀ {α : Type} {x a : α} {xs : List α}, (x :: xs).set 0 a = a :: xs) ∧ (∀ {α : Type} {x a : α} {xs : List α} {i : Nat}, (x :: xs).set (i + 1) a = x :: xs.set i a) ∧
    (∀ (a : Act) (d : Tmp) (v : Value), a.put (some d) v = { a with tmps := a.tmps.setIfInBounds d v }) ∧ (∀ (a : Act) (v : Value), a.put none v = a) :=
  ⟨fun _ => rfl, fun _ => rfl, fun _ => rfl, fun _ _ _ => List.setIfInBounds_toArray _ _ _, rfl, rfl, fun _ _ _ => rfl, fun _ _ => rfl⟩
theorem zl2 {P : Program} {md : Region.Mode} {ops : Array Oper} {Q : Exit → Act → World → Prop} {S : World → Prop} {i : Nat} {oi : Oper} {v : Value} {fuel : Nat} {listed : Array Bool} {a : Act} {w : World} (hi : ops[i]? = some oi) (hy : YieldsIf P ops S oi v a) (hS : S w)
    (h : wpAnyH P md ops Q S fuel (listed.setIfInBounds i true) (a.put oi.dst v) w) (hs : Region.noSelect ops = true := by kernel_rfl) (hf : Region.free md ops listed i = true := by kernel_rfl) (hr : (Region.ready md ops listed).contains i = true := by kernel_rfl)
    (hQ : ∀ c a w, Q (.panic c) (a.put oi.dst v) w → Q (.panic c) a w := by exact fun _ _ _ h => h) : wpAnyH P md ops Q S (fuel + 1) listed a w := wpAnyH_take hi hs hf hr hQ hy hS h
theorem zl3 (i : Nat) (v : Value) {P : Program} {md : Region.Mode} {ops : Array Oper} {Q : Exit → Act → World → Prop} {S : World → Prop} {oi : Oper} {fuel : Nat} {listed : Array Bool} {a : Act} {w : World} (hi : ops[i]? = some oi) (hv : ∀ w, S w → (execOp a.eval oi).run P w = .ok (.value v) w)
    (h : wpAnyH P md ops Q S fuel (listed.setIfInBounds i true) (a.put oi.dst v) w) (hw : Region.wanted oi (yielded ops a.tmps) = true := by rfl) (hS : S w := by assumption) (hs : Region.noSelect ops = true := by kernel_rfl) (hf : Region.free md ops listed i = true := by kernel_rfl)
    (hr : (Region.ready md ops listed).contains i = true := by kernel_rfl) (hQ : ∀ c a w, Q (.panic c) (a.put oi.dst v) w → Q (.panic c) a w := by exact fun _ _ _ h => h) : wpAnyH P md ops Q S (fuel + 1) listed a w := wpAnyH_take hi hs hf hr hQ (.inl ⟨hw, hv⟩) hS h
theorem zt (i : Nat) (v : Value) {P : Program} {md : Region.Mode} {ops : Array Oper} {Q : Exit → Act → World → Prop} {S : World → Prop} {oi : Oper} {fuel : Nat} {listed : Array Bool} {a : Act} {w : World} (hi : ops[i]? = some oi)
    (h : wpAnyH P md ops Q S fuel (listed.setIfInBounds i true) (a.put oi.dst v) w) (hv : ∀ w, S w → (execOp a.eval oi).run P w = .ok (.value v) w := by (intro w hS; try (obtain ⟨hL, hS⟩ := hS; (repeat obtain ⟨_, hL⟩ := hL)); (repeat obtain ⟨_, hS⟩ := hS); go_simp; try with_reducible rfl)) (hw : Region.wanted oi (yielded ops a.tmps) = true := by rfl) (hS : S w := by assumption) (hs : Region.noSelect ops = true := by kernel_rfl) (hf : Region.free md ops listed i = true := by kernel_rfl)
    (hr : (Region.ready md ops listed).contains i = true := by kernel_rfl) (hQ : ∀ c a w, Q (.panic c) (a.put oi.dst v) w → Q (.panic c) a w := by exact fun _ _ _ h => h) : wpAnyH P md ops Q S (fuel + 1) listed a w := wpAnyH_take hi hs hf hr hQ (.inl ⟨hw, hv⟩) hS h
theorem zu (i : Nat) {P : Program} {md : Region.Mode} {ops : Array Oper} {Q : Exit → Act → World → Prop} {S : World → Prop} {oi : Oper} {fuel : Nat} {listed : Array Bool} {a : Act} {w : World} (hi : ops[i]? = some oi)
    (h : wpAnyH P md ops Q S fuel (listed.setIfInBounds i true) (a.put oi.dst undef) w) (hy : YieldsIf P ops S oi undef a := by exact Or.inr ⟨by rfl, rfl⟩) (hS : S w := by assumption) (hs : Region.noSelect ops = true := by kernel_rfl) (hf : Region.free md ops listed i = true := by kernel_rfl)
    (hr : (Region.ready md ops listed).contains i = true := by kernel_rfl) (hQ : ∀ c a w, Q (.panic c) (a.put oi.dst undef) w → Q (.panic c) a w := by exact fun _ _ _ h => h) : wpAnyH P md ops Q S (fuel + 1) listed a w := wpAnyH_take hi hs hf hr hQ hy hS h
theorem zr (i : Nat) {P : Program} {md : Region.Mode} {ops : Array Oper} {Q : Exit → Act → World → Prop} {S : World → Prop} {oi : Oper} {fuel : Nat} {listed : Array Bool} {a : Act} {w : World} (hi : ops[i]? = some oi)
    (h : ∀ K' : Act → World → Prop, Shut (∀ a w, S w → (S w → wpAnyH P md ops Q S fuel (listed.setIfInBounds i true) a w) → K' a w) → if Region.wanted oi (yielded ops a.tmps) = true then Oper.wp P oi a w K' Q else K' (a.put oi.dst undef) w)
    (hr : Region.ready md ops listed = [i] := by kernel_rfl) (hne : [i] ≠ [] := by simp) : wpAnyH P md ops Q S (fuel + 1) listed a w := wpAnyH_ready hr hne (AllReadyH.cons hi h AllReadyH.nil)
theorem zb {α : Type} {xs : Array α} {i : Nat} {x : α} (h : xs[i]? = some x) : i < xs.size := (Array.getElem?_eq_some_iff.1 h).1
theorem zc {α : Type} {xs : List α} {i : Nat} {x : α} (h : xs[i]? = some x) : i < xs.length := (List.getElem?_eq_some_iff.1 h).1
theorem zg {α : Type} {l : List α} {i : Nat} {a : α} : l.getD i a = l[i]?.getD a := List.getD_eq_getElem?_getD
theorem ze {α : Type} {l : List α} {i : Nat} (h : i < l.length) : l[i]? = some l[i] := List.getElem?_eq_getElem h
theorem zs {α : Type} {i : Nat} {l : List α} (h : i < l.length) : List.take (i + 1) l = List.take i l ++ [l[i]] := List.take_succ_eq_append_getElem h
theorem zn (w : World) (o : Obj) : (w.alloc o).heap[w.heap.size]? = some o := World.alloc_heap_new w o
theorem zq (n : Nat) : n ≤ n := Nat.le_refl n
theorem zw (w : World) (g j : Nat) (cs : Array Value) (t : TypeId) (fr : Nat × Nat) (hg : w.heap[g]? = some (.cells cs t fr)) : w.cell? ⟨g, j, none⟩ = cs[j]? := cell_of_row w g j cs t fr hg
theorem zj {w W W' : World} (h : RowKit.Hid (RowKit.Below w.heap.size w W)) (hb : RowKit.Below W.heap.size W W') : RowKit.Hid (RowKit.Below w.heap.size w W') := h.out.trans (hb.mono h.out.size)
theorem zo {P : Option Addr → Nat → Prop} {v : Value} {n : Nat} (h : ∃ a c, v = .slice a n c ∧ P a c) : ∃ a c, v = .slice a n c := by obtain ⟨a, c, e, _⟩ := h; exact ⟨a, c, e⟩
theorem zh {p : Prop} (h : p) : RowKit.Hid p := h
theorem zk {W W' : World} {g : Nat} {f : Nat × Nat} {cs : Array Value} {t : TypeId} (hb : RowKit.Below W.heap.size W W') (h : RowKit.Hid (W.heap[g]? = some (.cells cs t f))) : RowKit.Hid (W'.heap[g]? = some (.cells cs t f)) := (hb.block _ (Array.getElem?_eq_some_iff.1 h).1).trans h
end Go.Proofs.YtapbhoodgnmnkaaGreatDoor
