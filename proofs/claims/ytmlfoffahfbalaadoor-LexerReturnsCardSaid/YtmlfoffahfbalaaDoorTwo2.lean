/- Two builders side by side: what a write leaves of the blocks laid since, how they begin, and rows behind a read of one of them. -/
import Derived.Test.YtmlfoffahfbalaaDoorTwo
import Derived.Test.YtmlfoffahfbalaaDoorSame
namespace Go.Proofs.YtmlfoffahfbalaaDoor
open Go Go.RowKit

/-- a write to the first of two builders, in a world that has grown since: the blocks laid since are as they were. -/
theorem Two.write_keep (B b1 b2 : Nat) (xs ys : List Value) (s : ByteArray) (W0 w : World) (h : Two B b1 b2 xs ys W0) (hb : Below W0.heap.size W0 w) (hl : xs.length + s.size ≤ 4000000000) :
    Calls Tryd.prog 27 #[.pointer (some ⟨b1, 0, none⟩), .string s] w fun e w' => e = .returned (.tuple #[.int .i64 s.size, .nilIface]) ∧ Two B b1 b2 (xs ++ Lib.strCells s) ys w' ∧ Below B w w' ∧ w.heap.size ≤ w'.heap.size ∧ ∀ k, W0.heap.size ≤ k → k < w.heap.size → w'.heap[k]? = w.heap[k]? := by
  obtain ⟨r1, r2, h1, h2, h3, h4⟩ := h
  have g1 := h1.keep (hb.block _ h1.lt) (fun k hk => hb.block k (h1.row_lt hk).1)
  have g2 := h2.keep (hb.block _ h2.lt) (fun k hk => hb.block k (h2.row_lt hk).1)
  refine (WriteString_two B b1 r1 xs s w g1 hl).mono ?_
  rintro e w' ⟨rfl, hw⟩
  obtain ⟨q1, q2⟩ := Two.wrote g1 g2 h3 h4 hw
  obtain ⟨r', _, _, f3, _, f5⟩ := hw
  exact ⟨rfl, q1, q2, f3, fun k hk1 hk2 => f5 k hk2 (by have := h1.lt; omega) (fun e => by have := (h1.row_lt e.symm).1; omega)⟩
/-- two new builders. -/
theorem Two.start (w : World) : Two w.heap.size w.heap.size (w.heap.size + 1) [] [] ((w.alloc (.cells #[.pointer none, .slice none 0 0] 40)).alloc (.cells #[.pointer none, .slice none 0 0] 40)) := by
  refine ⟨none, none, ⟨Nat.le_refl _, _, _, .inl rfl, ?_, World.ownsRow_nil _ _ _ _, rfl⟩, ⟨Nat.le_succ _, _, _, .inl rfl, ?_, World.ownsRow_nil _ _ _ _, rfl⟩, by omega, .inl rfl⟩
  · rw [Below.heap_alloc _ _ _ (by simp)]; exact heap_alloc_new _ _
  · have := heap_alloc_new (w.alloc (.cells #[.pointer none, .slice none 0 0] 40)) (.cells #[.pointer none, .slice none 0 0] 40)
    rw [World.size_alloc] at this
    exact this
theorem Mine.far {e size B : Nat} {v : Value} {n : Nat} {xs : List Value} {w w' : World} (h : Mine e size B v n xs w) (hs : w.heap.size ≤ w'.heap.size) (hk : ∀ k, B ≤ k → k < w.heap.size → w'.heap[k]? = w.heap[k]?) : Mine e size B v n xs w' := by
  obtain ⟨⟨h1, h2⟩, h3⟩ := h
  refine ⟨⟨h1, ?_⟩, by omega⟩
  rcases h2 with h2 | ⟨g, cap, cur, hv, hg, hh, r⟩
  · exact .inl h2
  · exact .inr ⟨g, cap, cur, hv, hg, by rw [hk g hg (lt_of_block hh)]; exact hh, r⟩
theorem cells_join (a l : List UInt8) (x : ByteArray) (h : x.data.toList = l) : Lib.byteCells a ++ Lib.strCells x = Lib.byteCells (a ++ l) := by
  subst h
  unfold Lib.byteCells Lib.strCells; simp
theorem data_join (x y : ByteArray) : (x ++ y).data.toList = x.data.toList ++ y.data.toList := by
  rw [ByteArray.data_append]; simp
theorem size_join (x y : ByteArray) : (x ++ y).size = x.size + y.size := by
  rw [Lib.size_eq, data_join, List.length_append, ← Lib.size_eq, ← Lib.size_eq]
/-- a row whose tokens' cells are known reads as these tokens. -/
theorem reads_of {l : List (Int × List UInt8 × Nat)} {w0 w : World} (g cap : Nat) (hg : g < w0.heap.size) (h : ∀ (i : Nat) (x : Int × List UInt8 × Nat), l[i]? = some x →
      w0.cell? ⟨g, 3 * i, none⟩ = some (.int .i64 x.1) ∧ w0.cell? ⟨g, 3 * i + 1, none⟩ = some (.string ⟨x.2.1.toArray⟩) ∧ w0.cell? ⟨g, 3 * i + 2, none⟩ = some (.int .i64 (x.2.2 : Int)))
    (hb : Below w0.heap.size w0 w) : Reads (.slice (some ⟨g, 0, none⟩) l.length cap) l w := by
  refine .inr ⟨g, cap, rfl, fun i x hx => ?_⟩
  have := h i x hx
  rw [Nat.mul_comm, hb.cell hg, hb.cell hg, hb.cell hg]
  exact this
end Go.Proofs.YtmlfoffahfbalaaDoor
