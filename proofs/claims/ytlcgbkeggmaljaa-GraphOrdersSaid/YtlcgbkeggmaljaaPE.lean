/- Some blocks of memory, each with what it holds, as one list. Contract of the visit of a numbering. A region that draws its order and makes several blocks: by what holds between any two of its operations. Contract of the numbering of components. -/
import Derived.Test.YtlcgbkeggmaljaaPD
import Derived.Test.YtlcgbkeggmaljaaPB
namespace Go.Proofs.Ytlcgbkeggmaljaa
set_option linter.unusedVariables false
set_option linter.unusedSimpArgs false
open Go Go.RowKit

/-- what the blocks hold. -/
def Lay (W : World) (L : List (Nat × Obj)) : Prop := ∀ p ∈ L, W.heap[p.1]? = some p.2
theorem Lay.get {W : World} {L : List (Nat × Obj)} (h : Lay W L) (i : Nat) {b : Nat} {o : Obj} (hi : L[i]? = some (b, o)) : W.heap[b]? = some o := h _ (List.mem_of_getElem? hi)
theorem Lay.keep {W W' : World} {L : List (Nat × Obj)} (h : Lay W L) (hk : ∀ b ∈ L.map (·.1), b < W.heap.size → W'.heap[b]? = W.heap[b]?) : Lay W' L := fun p hp =>
  (hk p.1 (List.mem_map.2 ⟨p, hp, rfl⟩) (Array.getElem?_eq_some_iff.1 (h p hp)).1).trans (h p hp)
theorem Lay.lt {W : World} {L : List (Nat × Obj)} (h : Lay W L) : ∀ b ∈ L.map (·.1), b < W.heap.size := fun b hb => by
  obtain ⟨p, hp, rfl⟩ := List.mem_map.1 hb
  exact (Array.getElem?_eq_some_iff.1 (h p hp)).1
theorem Lay.put {W W' : World} {L : List (Nat × Obj)} (h : Lay W L) (hn : (L.map (·.1)).Nodup) (i : Nat) {b : Nat} {o o' : Obj} (hi : L[i]? = some (b, o)) (hs : W'.heap[b]? = some o') (ho : ∀ k, k ≠ b → W'.heap[k]? = W.heap[k]?) : Lay W' (L.set i (b, o')) := by
  intro p hp
  obtain ⟨j, hj⟩ := List.getElem?_of_mem hp
  by_cases e : j = i
  · subst e
    rw [List.getElem?_set_self (List.getElem?_eq_some_iff.1 hi).1] at hj
    cases hj
    exact hs
  · rw [List.getElem?_set_ne (Ne.symm e)] at hj
    refine (ho _ (fun e2 => e ?_)).trans (h p (List.mem_of_getElem? hj))
    have h1 : (L.map (·.1))[j]? = some b := by rw [List.getElem?_map, hj]; simp [e2]
    have h2 : (L.map (·.1))[i]? = some b := by rw [List.getElem?_map, hi]; rfl
    have hjl := (List.getElem?_eq_some_iff.1 h1).1
    exact (List.getElem?_inj hjl hn).1 (h1.trans h2.symm)
theorem Lay.set {W : World} {L : List (Nat × Obj)} (h : Lay W L) (hn : (L.map (·.1)).Nodup) (i : Nat) {b t : Nat} {cs : Array Value} (hi : L[i]? = some (b, .cells cs t (0, 0))) (j : Nat) (x : Value) : Lay (W.setCell ⟨b, j, none⟩ x) (L.set i (b, .cells (cs.setIfInBounds j x) t (0, 0))) :=
  h.put hn i hi (heap_setCell_same W b j _ _ x (h.get i hi)) (fun k hk => heap_setCell_other _ _ _ _ hk)
/-- a box. -/
theorem Lay.box {W : World} {L : List (Nat × Obj)} (h : Lay W L) (hn : (L.map (·.1)).Nodup) (i : Nat) {b t : Nat} {u : Value} (hi : L[i]? = some (b, .cells #[u] t (0, 0))) (x : Value) : Lay (W.setCell ⟨b, 0, none⟩ x) (L.set i (b, .cells #[x] t (0, 0))) := h.set hn i hi 0 x
/-- numbers. -/
theorem Lay.int {W : World} {L : List (Nat × Obj)} (h : Lay W L) (hn : (L.map (·.1)).Nodup) (i : Nat) {b t : Nat} {l : List Int} (hi : L[i]? = some (b, .cells (l.map intC).toArray t (0, 0))) (j : Nat) (x : Int) : Lay (W.setCell ⟨b, j, none⟩ (intC x)) (L.set i (b, .cells ((l.set j x).map intC).toArray t (0, 0))) := by
  have := h.set hn i hi j (intC x)
  rwa [show (l.map intC).toArray.setIfInBounds j (intC x) = ((l.set j x).map intC).toArray by simp [List.map_set]] at this
theorem Lay.alloc {W : World} {L : List (Nat × Obj)} (h : Lay W L) (o : Obj) : Lay (W.alloc o) L := h.keep fun _ _ hb => Below.heap_alloc _ _ _ hb
theorem Lay.drew {W : World} {L : List (Nat × Obj)} (h : Lay W L) : Lay W.drew L := h
theorem Lay.grown {W W' : World} {L : List (Nat × Obj)} {row : Option Nat} (h : Lay W L) (hg : W.grownBy W' row) (hr : ∀ r, row = some r → r ∉ L.map (·.1)) : Lay W' L := h.keep fun b hb hl => hg.block b hl (fun e => hr b e.symm hb)

/-- the blocks of a numbering. -/
structure TP where
  bx : Nat
  bi : Nat
  bl : Nat
  bs : Nat
  bg : Nat
  bv : Nat
  bc : Nat
  bk : Nat
  gi : Nat
  gl : Nat
  gc : Nat
def TP.blocks (p : TP) : List Nat := [p.bx, p.bi, p.bl, p.bs, p.bg, p.bv, p.bc, p.bk, p.gi, p.gl, p.gc]
def TP.caps (p : TP) : Array Value := #[.pointer (some ⟨p.bx, 0, none⟩), .pointer (some ⟨p.bi, 0, none⟩), .pointer (some ⟨p.bl, 0, none⟩), .pointer (some ⟨p.bs, 0, none⟩), .pointer (some ⟨p.bg, 0, none⟩), .pointer (some ⟨p.bv, 0, none⟩), .pointer (some ⟨p.bc, 0, none⟩), .pointer (some ⟨p.bk, 0, none⟩)]
def tlay (p : TP) (N : Nat) (v : Value) (s : TS) (sv : Value) : List (Nat × Obj) :=
  [(p.bx, .cells #[natC s.nx] 3 (0, 0)), (p.bi, .cells #[.slice (some ⟨p.gi, 0, none⟩) N N] 26 (0, 0)), (p.bl, .cells #[.slice (some ⟨p.gl, 0, none⟩) N N] 26 (0, 0)), (p.bs, .cells #[sv] 26 (0, 0)), (p.bg, .cells #[v] 53 (0, 0)),
   (p.bv, .cells #[.func (.func 73) #[] p.caps] 56 (0, 0)), (p.bc, .cells #[.slice (some ⟨p.gc, 0, none⟩) N N] 26 (0, 0)), (p.bk, .cells #[natC s.ct] 3 (0, 0)), (p.gi, .cells (s.ix.map intC).toArray 3 (0, 0)), (p.gl, .cells (s.lo.map intC).toArray 3 (0, 0)), (p.gc, .cells (s.co.map intC).toArray 3 (0, 0))]
theorem tlay_blocks (p : TP) (N : Nat) (v : Value) (s : TS) (sv : Value) : (tlay p N v s sv).map (·.1) = p.blocks := rfl
/-- what is known of the blocks. -/
structure TOk (B0 : Nat) (p : TP) : Prop where
  nd : p.blocks.Nodup
  lo : ∀ b ∈ p.blocks, B0 ≤ b
/-- the memory of a numbering. -/
structure TarW (W : World) (B0 : Nat) (p : TP) (v : Value) (S : List (List Nat)) (s : TS) (sv : Value) : Prop where
  L : Lay W (tlay p S.length v s sv)
  os : W.ownsRow B0 3 1 sv s.st.length (s.st.map natC)
  ne : ∀ j, sv.ownBlock = some j → j ∉ p.blocks
  r : RowsOf B0 v S W
/-- what a visit leaves alone. -/
structure TFr (p : TP) (W W' : World) (sv sv' : Value) : Prop where
  o : W'.os = W.os
  t : W'.tape = W.tape
  u : W'.output = W.output
  size : W.heap.size ≤ W'.heap.size
  blk : ∀ k, k < W.heap.size → k ∉ p.blocks → sv.ownBlock ≠ some k → W'.heap[k]? = W.heap[k]?
  own : ∀ k, sv'.ownBlock = some k → sv.ownBlock = some k ∨ W.heap.size ≤ k
theorem TFr.refl (p : TP) (W : World) (sv : Value) : TFr p W W sv sv := ⟨rfl, rfl, rfl, Nat.le_refl _, fun _ _ _ _ => rfl, fun _ h => .inl h⟩
theorem TFr.trans {p : TP} {A B C : World} {x y z : Value} (h : TFr p A B x y) (k : TFr p B C y z) : TFr p A C x z := by
  refine ⟨k.o.trans h.o, k.t.trans h.t, k.u.trans h.u, Nat.le_trans h.size k.size, fun j h1 h2 h3 => ?_, fun j hj => ?_⟩
  · refine (k.blk j (Nat.lt_of_lt_of_le h1 h.size) h2 (fun e => ?_)).trans (h.blk j h1 h2 h3)
    rcases h.own j e with e | e
    · exact h3 e
    · omega
  · rcases k.own j hj with e | e
    · exact h.own j e
    · exact .inr (Nat.le_trans h.size e)
theorem TarW.lt {W : World} {B0 : Nat} {p : TP} {v : Value} {S : List (List Nat)} {s : TS} {sv : Value} (h : TarW W B0 p v S s sv) : ∀ b ∈ p.blocks, b < W.heap.size := h.L.lt
theorem TarW.cellsAt {W : World} {B0 : Nat} {p : TP} {v : Value} {S : List (List Nat)} {s : TS} {sv : Value} (h : TarW W B0 p v S s sv) : ∀ b ∈ p.blocks, ∃ o : Obj, W.heap[b]? = some o ∧ o.isCells = true := fun b hb => by
  have hm : b ∈ (tlay p S.length v s sv).map (·.1) := hb
  obtain ⟨q, hq, rfl⟩ := List.mem_map.1 hm
  refine ⟨q.2, h.L q hq, ?_⟩
  simp only [tlay, List.mem_cons, List.not_mem_nil, or_false] at hq
  rcases hq with rfl | rfl | rfl | rfl | rfl | rfl | rfl | rfl | rfl | rfl | rfl <;> rfl
theorem own_cells {W : World} {B e n s : Nat} {v : Value} {xs : List Value} (h : W.ownsRow B e s v n xs) : ∀ j, v.ownBlock = some j → ∃ o : Obj, W.heap[j]? = some o ∧ o.isCells = true := fun j hj => by
  rcases h.2 with ⟨rfl, _⟩ | ⟨g, cap, cur, rfl, _, hg, _⟩
  · simp [Value.ownBlock] at hj
  · simp [Value.ownBlock] at hj; subst hj; exact ⟨_, hg, rfl⟩
theorem TFr.others {W W' : World} {B0 : Nat} {p : TP} {v : Value} {S : List (List Nat)} {s : TS} {sv sv' : Value} (h : TFr p W W' sv sv') (hw : TarW W B0 p v S s sv) : KeepsOthers W W' := by
  refine ⟨h.size, fun k o hk ho => ?_⟩
  refine (h.blk k (Array.getElem?_eq_some_iff.1 hk).1 (fun hm => ?_) (fun e => ?_)).trans hk
  · obtain ⟨o', h1, h2⟩ := hw.cellsAt k hm
    rw [hk] at h1; cases h1; rw [ho] at h2; cases h2
  · obtain ⟨o', h1, h2⟩ := own_cells hw.os k e
    rw [hk] at h1; cases h1; rw [ho] at h2; cases h2
theorem TFr.below {W W' : World} {B0 : Nat} {p : TP} {v : Value} {S : List (List Nat)} {s : TS} {sv sv' : Value} (h : TFr p W W' sv sv') (hp : TOk B0 p) (hB : B0 ≤ W.heap.size) (hw : TarW W B0 p v S s sv) : Below B0 W W' :=
  ⟨h.o, h.t, h.u, h.size, fun k hk => h.blk k (by omega) (fun hm => by have := hp.lo k hm; omega) (fun e => by have := (hw.os.lt k e).1; omega)⟩
theorem TarW.turn {W W' : World} {B0 : Nat} {p : TP} {v : Value} {S : List (List Nat)} {s : TS} {sv : Value} (h : TarW W B0 p v S s sv) {row : Option Nat} (hg : W.grownBy W' row) (hr : ∀ r, row = some r → B0 ≤ r ∧ ∃ o : Obj, W.heap[r]? = some o ∧ o.isCells = false) (hB : B0 ≤ W.heap.size) : TarW W' B0 p v S s sv := by
  refine ⟨h.L.grown hg (fun r e hm => ?_), own_far h.os (fun k hk => hg.block k (h.os.lt k hk).2 (fun e => ?_)), h.ne, h.r.below (B' := B0) ((Below.refl B0 W).grown hg hB (fun k e => (hr k e).1)) (Nat.le_refl _)⟩
  · obtain ⟨o', h1, h2⟩ := h.cellsAt r hm
    obtain ⟨_, o, h3, h4⟩ := hr r e
    rw [h1] at h3; cases h3; rw [h2] at h4; cases h4
  · obtain ⟨o', h1, h2⟩ := own_cells h.os k hk
    obtain ⟨_, o, h3, h4⟩ := hr k e.symm
    rw [h1] at h3; cases h3; rw [h2] at h4; cases h4
theorem TarW.alloc {W : World} {B0 : Nat} {p : TP} {v : Value} {S : List (List Nat)} {s : TS} {sv : Value} (h : TarW W B0 p v S s sv) (o : Obj) (hB : B0 ≤ W.heap.size) : TarW (W.alloc o) B0 p v S s sv := h.turn (World.grownBy_alloc W o none) (fun r e => by cases e) hB
theorem TarW.drew {W : World} {B0 : Nat} {p : TP} {v : Value} {S : List (List Nat)} {s : TS} {sv : Value} (h : TarW W B0 p v S s sv) : TarW W.drew B0 p v S s sv := ⟨h.L, h.os, h.ne, h.r⟩
/-- one block of the numbering is written: no row and no stack is it. -/
theorem TarW.store {W W' : World} {B0 : Nat} {p : TP} {v : Value} {S : List (List Nat)} {s s' : TS} {sv : Value} (h : TarW W B0 p v S s sv) (hp : TOk B0 p) (hst : s'.st = s.st) (b j : Nat) (x : Value) (hb : b ∈ p.blocks) (hW : W' = W.setCell ⟨b, j, none⟩ x) (hL : Lay W' (tlay p S.length v s' sv)) : TarW W' B0 p v S s' sv := by
  subst hW
  refine ⟨hL, ?_, h.ne, h.r.below (B' := B0) ((Below.refl B0 W).setCell (by exact hp.lo b hb) _) (Nat.le_refl _)⟩
  rw [hst]
  exact own_far h.os (fun k hk => heap_setCell_other _ _ _ _ (fun e => h.ne k hk (by rw [show k = b from e]; exact hb)))
theorem TFr.store {W : World} {p : TP} {sv : Value} (b j : Nat) (x : Value) (hb : b ∈ p.blocks) : TFr p W (W.setCell ⟨b, j, none⟩ x) sv sv :=
  ⟨rfl, rfl, rfl, by rw [World.size_setCell]; exact Nat.le_refl _, fun k _ hk _ => heap_setCell_other _ _ _ _ (fun e => hk (by rw [show k = b from e]; exact hb)), fun _ h => .inl h⟩
theorem TFr.alloc {W : World} {p : TP} {sv : Value} (o : Obj) : TFr p W (W.alloc o) sv sv :=
  ⟨rfl, rfl, rfl, by simp, fun k hk _ _ => Below.heap_alloc _ _ _ hk, fun _ h => .inl h⟩
theorem TFr.drew {W W' : World} {p : TP} {sv sv' : Value} (h : TFr p W W' sv sv') : TFr p W W'.drew sv sv' := ⟨h.o, h.t, h.u, h.size, h.blk, h.own⟩
theorem TFr.turn {A W W' : World} {p : TP} {sv sv' : Value} (h : TFr p A W sv sv') {row : Option Nat} (hg : W.grownBy W' row) (hr : ∀ r, row = some r → A.heap.size ≤ r) : TFr p A W' sv sv' :=
  ⟨hg.os.trans h.o, hg.tape.trans h.t, hg.output.trans h.u, Nat.le_trans h.size hg.size, fun k h1 h2 h3 => (hg.block k (Nat.lt_of_lt_of_le h1 h.size) (fun e => by have := hr k e.symm; omega)).trans (h.blk k h1 h2 h3), h.own⟩
theorem TOk.ne {B0 : Nat} {p : TP} (h : TOk B0 p) (i j : Nat) {a b : Nat} (hi : p.blocks[i]? = some a) (hj : p.blocks[j]? = some b) (hij : i ≠ j) : a ≠ b := fun e => by
  subst e
  exact hij ((List.getElem?_inj (List.getElem?_eq_some_iff.1 hi).1 h.nd).1 (hi.trans hj.symm))
/-- the stack's box gets a new slice. -/
theorem TarW.stack {W W1 : World} {B0 : Nat} {p : TP} {v : Value} {S : List (List Nat)} {s : TS} {sv sv1 : Value} (h : TarW W B0 p v S s sv) (hp : TOk B0 p) (hB : B0 ≤ W.heap.size) (st' : List Nat) (hg : W.grownBy W1 sv.ownBlock) (ho : W1.ownsRow B0 3 1 sv1 st'.length (st'.map natC))
    (hat : ∀ k, sv1.ownBlock = some k → sv.ownBlock = some k ∨ W.heap.size ≤ k) : TarW (W1.setCell ⟨p.bs, 0, none⟩ sv1) B0 p v S { s with st := st' } sv1 ∧ TFr p W (W1.setCell ⟨p.bs, 0, none⟩ sv1) sv sv1 := by
  have hne : ∀ k, sv1.ownBlock = some k → k ∉ p.blocks := fun k hk hm => by
    rcases hat k hk with e | e
    · exact h.ne k e hm
    · have := h.lt k hm; omega
  have hb : p.bs ∈ p.blocks := by simp [TP.blocks]
  refine ⟨⟨(h.L.grown hg (fun r e => h.ne r e)).box hp.nd 3 rfl sv1, own_far ho (fun k hk => heap_setCell_other _ _ _ _ (fun e => hne k hk (by rw [show k = p.bs from e]; exact hb))), hne, ?_⟩, ⟨hg.os, hg.tape, hg.output, by rw [World.size_setCell]; exact hg.size, fun k h1 h2 h3 => ?_, hat⟩⟩
  · exact h.r.below (B' := B0) (((Below.refl B0 W).grown hg hB (fun k e => (h.os.lt k e).1)).setCell (by exact hp.lo _ hb) _) (Nat.le_refl _)
  · exact (heap_setCell_other _ _ _ _ (fun e => h2 (by rw [show k = p.bs from e]; exact hb))).trans (hg.block k h1 (fun e => h3 e.symm))
/-- what four cells hold. -/
def HeldT (a b c d : Addr) (x y z u : Value) (W : World) : Prop := W.cell? a = some x ∧ W.cell? b = some y ∧ W.cell? c = some z ∧ W.cell? d = some u
/-- what five cells hold. -/
def HeldV (a b c d f : Addr) (x y z u q : Value) (W : World) : Prop := W.cell? a = some x ∧ W.cell? b = some y ∧ W.cell? c = some z ∧ W.cell? d = some u ∧ W.cell? f = some q
/-- a slice of its own that is cut by its last element. -/
theorem own_pop {W : World} {B e n g cap : Nat} {xs : List Value} {x : Value} (h : W.ownsRow B e 1 (.slice (some ⟨g, 0, none⟩) (n + 1) cap) (n + 1) (xs ++ [x])) : W.ownsRow B e 1 (.slice (some ⟨g, 0, none⟩) n cap) n xs := by
  obtain ⟨hl, h⟩ := h
  simp at hl
  refine ⟨by omega, .inr ?_⟩
  rcases h with ⟨h, _⟩ | ⟨g', cap', cur, h1, h2, h3, h4, h5, h6, h7⟩
  · cases h
  · cases h1
    refine ⟨g, cap, cur, rfl, h2, h3, by omega, h5, h6, ?_⟩
    have hx : xs.length = n := by omega
    have : (cur.toList.take ((n + 1) * 1)).take n = (xs ++ [x]).take n := by rw [h7]
    rw [List.take_take, Nat.min_eq_left (by omega)] at this
    rw [Nat.mul_one, this, ← hx, List.take_left]
theorem Shut.at {B b : Nat} {W W' : World} (h : Shut B W W') (hc : ∃ o : Obj, W.heap[b]? = some o ∧ o.isCells = true) : W'.heap[b]? = W.heap[b]? := by
  obtain ⟨o, h1, h2⟩ := hc
  rw [h.cells b o h1 h2, h1]
theorem TarW.shut {W W' : World} {B0 B : Nat} {p : TP} {v : Value} {S : List (List Nat)} {s : TS} {sv : Value} (h : TarW W B0 p v S s sv) (hs : Shut B W W') (hB : B0 ≤ B) : TarW W' B0 p v S s sv :=
  ⟨h.L.keep fun b hb _ => hs.at (h.cellsAt b hb), own_far h.os fun k hk => hs.at (own_cells h.os k hk), h.ne, h.r.below (hs.below hB) (Nat.le_refl _)⟩
theorem TFr.shut {A W W' : World} {p : TP} {sv sv' : Value} (h : TFr p A W sv sv') (hs : Shut A.heap.size W W') : TFr p A W' sv sv' :=
  ⟨hs.os.trans h.o, hs.tape.trans h.t, hs.output.trans h.u, by rw [hs.size]; exact h.size, fun k h1 h2 h3 => (hs.low k h1).trans (h.blk k h1 h2 h3), h.own⟩
end Go.Proofs.Ytlcgbkeggmaljaa

namespace Go.Proofs.Ytlcgbkeggmaljaa
set_option linter.unusedVariables false
set_option linter.unusedSimpArgs false
open Go Go.RowKit

attribute [local go_sem] Oper.semAt_some

set_option maxRecDepth 100000 in
set_option maxHeartbeats 4000000 in
theorem tvisit_any (B0 : Nat) (p : TP) (v : Value) (S : List (List Nat)) (hp : TOk B0 p) (hS : S.length ≤ 1000000) (hSl : ∀ a, (S.getD a []).length ≤ 1000000) (hSk : ∀ a, ∀ k ∈ S.getD a [], k < S.length) :
    ∀ (m : Nat) (s : TS) (sv : Value) (n : Nat) (W : World), zeros s.ix ≤ m → TInv S.length s → n < S.length → gD s.ix n = 0 → B0 ≤ W.heap.size → TarW W B0 p v S s sv →
    Calls Try.prog 73 #[natC n, .pointer (some ⟨p.bx, 0, none⟩), .pointer (some ⟨p.bi, 0, none⟩), .pointer (some ⟨p.bl, 0, none⟩), .pointer (some ⟨p.bs, 0, none⟩), .pointer (some ⟨p.bg, 0, none⟩), .pointer (some ⟨p.bv, 0, none⟩), .pointer (some ⟨p.bc, 0, none⟩), .pointer (some ⟨p.bk, 0, none⟩)] W fun e W' =>
      e = .returned (.tuple #[]) ∧ ∃ sv', TarW W' B0 p v S (visitT S m s n) sv' ∧ TFr p W W' sv sv' := by
  intro m
  induction m with
  | zero =>
    intro s sv n W hm hI hn h0 hB hW
    have := zeros_set s.ix n 1 (by rw [hI.li]; exact hn) h0 (by decide)
    omega
  | succ m ih =>
    intro s sv n W hm hI hn h0 hB hW
    have hn0 : (0 : Int) ≤ (n : Int) := by omega
    have hn1 : (n : Int) < (S.length : Int) := by omega
    have hvo : v.oneCell' = true := by
      obtain ⟨_, _, hv⟩ | ⟨_, _, _, hv, _⟩ := hW.r
      · obtain ⟨_, rfl⟩ := hv; rfl
      · rw [hv]; rfl
    obtain ⟨hI1, hz1⟩ := hI.mark hn h0
    have hnx : s.nx ≤ 1000000 := by
      have h1 := hI.nz
      have h2 := zeros_set s.ix n 1 (by rw [hI.li]; exact hn) h0 (by decide)
      omega
    have hsl : s.st.length ≤ 1000000 := by have := hI.sl; omega
    have IH := Lib.hid ih
    have HI := Lib.hid hI
    have HI1 := Lib.hid hI1
    have HZ1 := Lib.hid hz1
    have HW := Lib.hid hW
    have H0 := Lib.hid h0
    have HP := Lib.hid hp
    have HSK := Lib.hid hSk
    have HSL := Lib.hid hSl
    clear ih hI hI1 hz1 hW h0
    refine (callsIn_wide (n := 9)).1 ?_
    refine callsIn_of_wp_marks Try.func73 rfl trivial ?_ rfl
    simp only [Try.ntmps73, List.size_toArray, List.length_cons, List.length_nil, Nat.reduceAdd, Nat.reduceSub, Array.replicate_succ, Array.replicate_zero, List.push_toArray, List.append_toArray, List.nil_append, List.cons_append]
    gi_wp2_with fail
    have htw : TarW (W.alloc (.cells #[natC n] 3)) B0 p v S s sv := HW.out.alloc _ hB
    have hfr : TFr p W (W.alloc (.cells #[natC n] 3)) sv sv := TFr.alloc _
    have hbn : Boxed (W.alloc (.cells #[natC n] 3)) W.heap.size 3 (natC n) := Boxed.new _ _ _
    have hs1 : (W.alloc (.cells #[natC n] 3)).heap.size = W.heap.size + 1 := by simp
    generalize W.alloc (.cells #[natC n] 3) = W1 at *
    have hHT : HeldT ⟨p.bi, 0, none⟩ ⟨W.heap.size, 0, none⟩ ⟨p.bl, 0, none⟩ ⟨p.bx, 0, none⟩ (.slice (some ⟨p.gi, 0, none⟩) S.length S.length) (natC n) (.slice (some ⟨p.gl, 0, none⟩) S.length S.length) (natC s.nx) W1.drew :=
      ⟨Boxed.cell (htw.L.get 1 rfl), hbn.cell, Boxed.cell (htw.L.get 2 rfl), Boxed.cell (htw.L.get 0 rfl)⟩
    refine region_wideP (S := HeldT ⟨p.bi, 0, none⟩ ⟨W.heap.size, 0, none⟩ ⟨p.bl, 0, none⟩ ⟨p.bx, 0, none⟩ (.slice (some ⟨p.gi, 0, none⟩) S.length S.length) (natC n) (.slice (some ⟨p.gl, 0, none⟩) S.length S.length) (natC s.nx)) (by kernel_rfl) (fun _ _ h => by obtain ⟨h, _⟩ := h; cases h) ?_
    (refine wpAnyH_take (i := 0) (v := ?_) rfl (by kernel_rfl) (by kernel_rfl) (by kernel_rfl) (fun _ _ _ h => h) (Or.inl ⟨by rfl, ?_⟩) (by assumption) ?_; rotate_left; (· (intro w hSw; obtain ⟨c0, c1, c2, c3⟩ := hSw; go_simp; try with_reducible rfl)); (try simp only [List.getElem_toArray, List.getElem_cons_zero, List.getElem_cons_succ, Act.put, List.setIfInBounds_toArray, List.set_cons_zero, List.set_cons_succ]))
    (refine wpAnyH_take (i := 1) (v := ?_) rfl (by kernel_rfl) (by kernel_rfl) (by kernel_rfl) (fun _ _ _ h => h) (Or.inl ⟨by rfl, ?_⟩) (by assumption) ?_; rotate_left; (· (intro w hSw; obtain ⟨c0, c1, c2, c3⟩ := hSw; go_simp; try with_reducible rfl)); (try simp only [List.getElem_toArray, List.getElem_cons_zero, List.getElem_cons_succ, Act.put, List.setIfInBounds_toArray, List.set_cons_zero, List.set_cons_succ]))
    (refine wpAnyH_take (i := 2) (v := ?_) rfl (by kernel_rfl) (by kernel_rfl) (by kernel_rfl) (fun _ _ _ h => h) (Or.inl ⟨by rfl, ?_⟩) (by assumption) ?_; rotate_left; (· (intro w hSw; obtain ⟨c0, c1, c2, c3⟩ := hSw; go_simp; try with_reducible rfl)); (try simp only [List.getElem_toArray, List.getElem_cons_zero, List.getElem_cons_succ, Act.put, List.setIfInBounds_toArray, List.set_cons_zero, List.set_cons_succ]))
    (refine wpAnyH_take (i := 3) (v := ?_) rfl (by kernel_rfl) (by kernel_rfl) (by kernel_rfl) (fun _ _ _ h => h) (Or.inl ⟨by rfl, ?_⟩) (by assumption) ?_; rotate_left; (· (intro w hSw; obtain ⟨c0, c1, c2, c3⟩ := hSw; go_simp; try with_reducible rfl)); (try simp only [List.getElem_toArray, List.getElem_cons_zero, List.getElem_cons_succ, Act.put, List.setIfInBounds_toArray, List.set_cons_zero, List.set_cons_succ]))
    (refine wpAnyH_take (i := 4) (v := ?_) rfl (by kernel_rfl) (by kernel_rfl) (by kernel_rfl) (fun _ _ _ h => h) (Or.inl ⟨by rfl, ?_⟩) (by assumption) ?_; rotate_left; (· (intro w hSw; obtain ⟨c0, c1, c2, c3⟩ := hSw; go_simp; try with_reducible rfl)); (try simp only [List.getElem_toArray, List.getElem_cons_zero, List.getElem_cons_succ, Act.put, List.setIfInBounds_toArray, List.set_cons_zero, List.set_cons_succ]))
    (refine wpAnyH_take (i := 5) (v := ?_) rfl (by kernel_rfl) (by kernel_rfl) (by kernel_rfl) (fun _ _ _ h => h) (Or.inl ⟨by rfl, ?_⟩) (by assumption) ?_; rotate_left; (· (intro w hSw; obtain ⟨c0, c1, c2, c3⟩ := hSw; go_simp; try with_reducible rfl)); (try simp only [List.getElem_toArray, List.getElem_cons_zero, List.getElem_cons_succ, Act.put, List.setIfInBounds_toArray, List.set_cons_zero, List.set_cons_succ]))
    (refine wpAnyH_take (i := 6) (v := ?_) rfl (by kernel_rfl) (by kernel_rfl) (by kernel_rfl) (fun _ _ _ h => h) (Or.inl ⟨by rfl, ?_⟩) (by assumption) ?_; rotate_left; (· (intro w hSw; obtain ⟨c0, c1, c2, c3⟩ := hSw; go_simp; try with_reducible rfl)); (try simp only [List.getElem_toArray, List.getElem_cons_zero, List.getElem_cons_succ, Act.put, List.setIfInBounds_toArray, List.set_cons_zero, List.set_cons_succ]))
    have hci : W1.cell? ⟨p.gi, n, none⟩ = some (intC (gD s.ix n)) := Ints.cell (htw.L.get 8 rfl) n _ (gD_get (by rw [HI.out.li]; exact hn))
    have hfi : W1.frozen? ⟨p.gi, n, none⟩ = false := frozen_of_row _ _ n _ _ (htw.L.get 8 rfl)
    have htw1 : TarW (W1.setCell ⟨p.gi, n, none⟩ (natC s.nx)) B0 p v S ⟨s.ix.set n s.nx, s.lo, s.co, s.st, s.nx, s.ct⟩ sv := htw.store HP.out rfl p.gi n _ (by simp [TP.blocks]) rfl (htw.L.int HP.out.nd 8 rfl n s.nx)
    have hfr1 : TFr p W (W1.setCell ⟨p.gi, n, none⟩ (natC s.nx)) sv sv := hfr.trans (TFr.store p.gi n _ (by simp [TP.blocks]))
    have htw2 : TarW ((W1.setCell ⟨p.gi, n, none⟩ (natC s.nx)).setCell ⟨p.gl, n, none⟩ (natC s.nx)) B0 p v S ⟨s.ix.set n s.nx, s.lo.set n s.nx, s.co, s.st, s.nx, s.ct⟩ sv := htw1.store HP.out rfl p.gl n _ (by simp [TP.blocks]) rfl (htw1.L.int HP.out.nd 9 rfl n s.nx)
    have hfr2 : TFr p W ((W1.setCell ⟨p.gi, n, none⟩ (natC s.nx)).setCell ⟨p.gl, n, none⟩ (natC s.nx)) sv sv := hfr1.trans (TFr.store p.gl n _ (by simp [TP.blocks]))
    have hbn1 : Boxed (W1.setCell ⟨p.gi, n, none⟩ (natC s.nx)) W.heap.size 3 (natC n) := (heap_setCell_other _ _ _ _ (fun e => by have e : W.heap.size = p.gi := e; have := HW.out.lt p.gi (by simp [TP.blocks]); omega)).trans hbn
    have hbn2 : Boxed ((W1.setCell ⟨p.gi, n, none⟩ (natC s.nx)).setCell ⟨p.gl, n, none⟩ (natC s.nx)) W.heap.size 3 (natC n) := (heap_setCell_other _ _ _ _ (fun e => by have e : W.heap.size = p.gl := e; have := HW.out.lt p.gl (by simp [TP.blocks]); omega)).trans hbn1
    refine wpAnyH_ready (rs := [7]) (by kernel_rfl) (by simp) (AllReadyH.cons rfl (fun K hK => ?_) AllReadyH.nil)
    go_simp
    refine hK.out _ _ ⟨Boxed.cell (htw1.L.get 1 rfl), hbn1.cell, Boxed.cell (htw1.L.get 2 rfl), Boxed.cell (htw1.L.get 0 rfl)⟩ (fun _ => ?_)
    clear hK K
    (try simp only [List.getElem_toArray, List.getElem_cons_zero, List.getElem_cons_succ, Act.put, List.setIfInBounds_toArray, List.set_cons_zero, List.set_cons_succ])
    have hHT1 : HeldT ⟨p.bi, 0, none⟩ ⟨W.heap.size, 0, none⟩ ⟨p.bl, 0, none⟩ ⟨p.bx, 0, none⟩ (.slice (some ⟨p.gi, 0, none⟩) S.length S.length) (natC n) (.slice (some ⟨p.gl, 0, none⟩) S.length S.length) (natC s.nx) (W1.setCell ⟨p.gi, n, none⟩ (natC s.nx)).drew :=
      ⟨Boxed.cell (htw1.L.get 1 rfl), hbn1.cell, Boxed.cell (htw1.L.get 2 rfl), Boxed.cell (htw1.L.get 0 rfl)⟩
    (refine wpAnyH_take (i := 8) (v := ?_) rfl (by kernel_rfl) (by kernel_rfl) (by kernel_rfl) (fun _ _ _ h => h) (Or.inl ⟨by rfl, ?_⟩) (by assumption) ?_; rotate_left; (· (intro w hSw; obtain ⟨c0, c1, c2, c3⟩ := hSw; go_simp; try with_reducible rfl)); (try simp only [List.getElem_toArray, List.getElem_cons_zero, List.getElem_cons_succ, Act.put, List.setIfInBounds_toArray, List.set_cons_zero, List.set_cons_succ]))
    have hcl : (W1.setCell ⟨p.gi, n, none⟩ (natC s.nx)).cell? ⟨p.gl, n, none⟩ = some (intC (gD s.lo n)) := Ints.cell (htw1.L.get 9 rfl) n _ (gD_get (by rw [HI.out.ll]; exact hn))
    have hfl : (W1.setCell ⟨p.gi, n, none⟩ (natC s.nx)).frozen? ⟨p.gl, n, none⟩ = false := frozen_of_row _ _ n _ _ (htw1.L.get 9 rfl)
    refine wpAnyH_ready (rs := [9]) (by kernel_rfl) (by simp) (AllReadyH.cons rfl (fun K hK => ?_) AllReadyH.nil)
    go_simp
    refine hK.out _ _ ⟨Boxed.cell (htw2.L.get 1 rfl), hbn2.cell, Boxed.cell (htw2.L.get 2 rfl), Boxed.cell (htw2.L.get 0 rfl)⟩ (fun _ => ?_)
    clear hK K
    (try simp only [List.getElem_toArray, List.getElem_cons_zero, List.getElem_cons_succ, Act.put, List.setIfInBounds_toArray, List.set_cons_zero, List.set_cons_succ])
    refine wpAnyH_done (by kernel_rfl) ?_ _
    refine NoPanic.normal ?_
    clear hHT hHT1 hfi hfl hci hcl htw hfr htw1 hfr1 hbn1 hbn
    generalize (W1.setCell ⟨p.gi, n, none⟩ (natC s.nx)).setCell ⟨p.gl, n, none⟩ (natC s.nx) = Wa at *
    have hcx : Wa.cell? ⟨p.bx, 0, none⟩ = some (natC s.nx) := Boxed.cell (htw2.L.get 0 rfl)
    have hfx := Boxed.frozen (htw2.L.get 0 rfl)
    have hcs : Wa.cell? ⟨p.bs, 0, none⟩ = some sv := Boxed.cell (htw2.L.get 3 rfl)
    have hcn := hbn2.cell
    have hwx : IntKind.i64.wrap ((s.nx : Int) + 1) = (s.nx : Int) + 1 := IntWalk.i64_in _ (by omega)
    have hex : (s.nx : Int) + 1 = ((s.nx + 1 : Nat) : Int) := by omega
    have hsa := hfr2.size
    have hmx : p.bx ∈ p.blocks := by simp [TP.blocks]
    have hms : p.bs ∈ p.blocks := by simp [TP.blocks]
    have hmg : p.bg ∈ p.blocks := by simp [TP.blocks]
    have hlx := HW.out.lt _ hmx
    have hls := HW.out.lt _ hms
    have hlg := HW.out.lt _ hmg
    have htw3 : TarW (Wa.setCell ⟨p.bx, 0, none⟩ (.int .i64 ((s.nx : Int) + 1))) B0 p v S ⟨s.ix.set n s.nx, s.lo.set n s.nx, s.co, s.st, s.nx + 1, s.ct⟩ sv := by
      rw [hex]
      exact htw2.store HP.out rfl p.bx 0 _ hmx rfl (htw2.L.box HP.out.nd 0 rfl _)
    have hfr3 : TFr p W (Wa.setCell ⟨p.bx, 0, none⟩ (.int .i64 ((s.nx : Int) + 1))) sv sv := hfr2.trans (TFr.store p.bx 0 _ hmx)
    have hbn3 : Boxed (Wa.setCell ⟨p.bx, 0, none⟩ (.int .i64 ((s.nx : Int) + 1))) W.heap.size 3 (natC n) := (heap_setCell_other _ _ _ _ (fun e => by have e : W.heap.size = p.bx := e; omega)).trans hbn2
    have hsb : (Wa.setCell ⟨p.bx, 0, none⟩ (.int .i64 ((s.nx : Int) + 1))).heap.size = Wa.heap.size := by simp
    have hbw : W.heap.size < Wa.heap.size := hbn2.lt
    have HTW4 := Lib.hid (htw3.alloc (.cells #[natC n] 3) (by omega)).drew
    have HFR4 : Hid (TFr p W ((Wa.setCell ⟨p.bx, 0, none⟩ (.int .i64 ((s.nx : Int) + 1))).alloc (.cells #[natC n] 3)).drew sv sv) := Lib.hid (hfr3.trans (TFr.alloc _)).drew
    have HBN4 : Hid (Boxed ((Wa.setCell ⟨p.bx, 0, none⟩ (.int .i64 ((s.nx : Int) + 1))).alloc (.cells #[natC n] 3)).drew W.heap.size 3 (natC n)) := Lib.hid ((Below.heap_alloc _ (.cells #[natC n] 3) _ hbn3.lt).trans hbn3)
    have HCN : Hid (((Wa.setCell ⟨p.bx, 0, none⟩ (.int .i64 ((s.nx : Int) + 1))).alloc (.cells #[natC n] 3)).cell? ⟨Wa.heap.size, 0, none⟩ = some (natC n)) := Lib.hid (by
      have := World.alloc_heap_new (Wa.setCell ⟨p.bx, 0, none⟩ (.int .i64 ((s.nx : Int) + 1))) (.cells #[natC n] 3)
      rw [hsb] at this
      exact cell_of_row _ _ _ _ _ _ this)
    have HB4 : Hid (B0 ≤ ((Wa.setCell ⟨p.bx, 0, none⟩ (.int .i64 ((s.nx : Int) + 1))).alloc (.cells #[natC n] 3)).drew.heap.size) := Lib.hid (by show B0 ≤ ((Wa.setCell ⟨p.bx, 0, none⟩ (.int .i64 ((s.nx : Int) + 1))).alloc (.cells #[natC n] 3)).heap.size; rw [World.size_alloc, hsb]; omega)
    have HSN : Hid (∀ k, sv.ownBlock = some k → k < W.heap.size) := Lib.hid fun k hk => (HW.out.os.lt k hk).2
    have hne1 : p.bs ≠ p.bx := HP.out.ne 3 0 rfl rfl (by decide)
    have hne2 : p.bx ≠ p.bs := hne1.symm
    have hne3 : W.heap.size ≠ p.bx := by omega
    have hne4 : p.bx ≠ W.heap.size := by omega
    have hne5 : p.bg ≠ p.bs := HP.out.ne 4 3 rfl rfl (by decide)
    have hne6 : p.bs ≠ p.bg := hne5.symm
    have hne7 : W.heap.size ≠ p.bs := by omega
    have hne8 : p.bs ≠ W.heap.size := by omega
    clear hex htw2 htw3 hfr2 hfr3 hbn2 hbn3
    gi_wp2_with (gi_at_builtin; go_loud (refine appIn_int _ rfl _ _ rfl B0 sv s.st.length (s.st.map natC) (by rfl) HTW4.out.os HB4.out (natC n) ⟨Wa.heap.size, 0, none⟩ 1 (by rfl) HCN.out rfl (by omega) ?_; intro g6 c6 w6 hs6 hg6 hat6; have hl6 := HTW4.out.L.grown hg6 (fun r e => HTW4.out.ne r e); have hcs6 : w6.cell? ⟨p.bs, 0, none⟩ = some sv := Boxed.cell (hl6.get 3 rfl); have hfs6 := Boxed.frozen (hl6.get 3 rfl); have hcg6 : w6.cell? ⟨p.bg, 0, none⟩ = some v := Boxed.cell (hl6.get 4 rfl); have hbn6 := Boxed.kept HBN4.out hg6 (fun e => by have := HSN.out _ e.symm; omega); have hcn6 := hbn6.cell; have HS6 := Lib.hid hs6; have HG6 := Lib.hid hg6; have HAT6 := Lib.hid hat6; have HBN6 := Lib.hid hbn6; clear hs6 hg6 hat6 hl6 hbn6))
    refine ⟨trivial, (of_in 8 v (n : Int) 0 _ hvo).mono ?_⟩
    rintro e w' ⟨rfl, rfl⟩
    gi_wp2_with fail
    have hst5 := HTW4.out.stack HP.out HB4.out (s.st ++ [n]) HG6.out (sv1 := .slice (some ⟨g6, 0, none⟩) (s.st.length + 1) c6) (by rw [List.length_append, List.map_append]; exact HS6.out) (fun k hk => by
      have e : g6 = k := by simpa [Value.ownBlock] using hk
      subst e
      rcases HAT6.out with h | h
      · exact .inl h
      · exact .inr (Nat.le_of_eq h.symm))
    have z5 : (w6.setCell ⟨p.bs, 0, none⟩ (.slice (some ⟨g6, 0, none⟩) (s.st.length + 1) c6)).heap.size = w6.heap.size := by simp
    have hB6 : W.heap.size < w6.heap.size := HBN6.out.lt
    have hb5 : Boxed (w6.setCell ⟨p.bs, 0, none⟩ (.slice (some ⟨g6, 0, none⟩) (s.st.length + 1) c6)) W.heap.size 3 (natC n) := (heap_setCell_other _ _ _ _ (fun e => by have e : W.heap.size = p.bs := e; omega)).trans HBN6.out
    have hs4 : W.heap.size < ((Wa.setCell ⟨p.bx, 0, none⟩ (.int .i64 ((s.nx : Int) + 1))).alloc (.cells #[natC n] 3)).drew.heap.size := HBN4.out.lt
    have h5 := hst5.1
    have f5 := HFR4.out.trans hst5.2
    have hso := hst5.2.own
    clear hst5
    obtain ⟨sv1, hsv1⟩ : ∃ x, x = Value.slice (some ⟨g6, 0, none⟩) (s.st.length + 1) c6 := ⟨_, rfl⟩
    rw [← hsv1] at h5 f5 hso z5 hb5 ⊢
    have HSO : Hid (∀ k, sv1.ownBlock = some k → k < w6.heap.size ∧ k ≠ W.heap.size) := Lib.hid fun k hk => ⟨by have := (h5.os.lt k hk).2; omega, by
      rcases hso k hk with e | e
      · have := HSN.out k e; omega
      · omega⟩
    clear hsv1 hso
    generalize w6.setCell ⟨p.bs, 0, none⟩ sv1 = W5 at *
    obtain ⟨Wl, hWl⟩ : ∃ Wl, Wl = ((W5.alloc (.cells #[v] 53)).alloc (.cells #[.int .i64 (n : Int)] 3)).alloc (.cells #[.int .i64 0] 3) := ⟨_, rfl⟩
    have b0 : Boxed Wl w6.heap.size 53 v := by rw [hWl, ← z5]; exact ((Boxed.new W5 _ v).alloc _).alloc _
    have b1 : Boxed Wl (w6.heap.size + 1) 3 (natC n) := by
      rw [hWl, ← z5]
      have := (Boxed.new (W5.alloc (.cells #[v] 53)) 3 (natC n)).alloc (.cells #[natC 0] 3)
      rwa [World.size_alloc] at this
    have b2 : Boxed Wl (w6.heap.size + 1 + 1) 3 (natC 0) := by
      rw [hWl, ← z5]
      have := Boxed.new ((W5.alloc (.cells #[v] 53)).alloc (.cells #[natC n] 3)) 3 (natC 0)
      rwa [World.size_alloc, World.size_alloc] at this
    have hsl3 : Wl.heap.size = w6.heap.size + 3 := by rw [hWl]; simp; omega
    have HTL : Hid (TarW Wl B0 p v S (tmark s n) sv1) := Lib.hid (by rw [hWl]; exact ((h5.alloc _ (by omega)).alloc _ (by simp; omega)).alloc _ (by simp; omega))
    have HFL : Hid (TFr p W Wl sv sv1) := Lib.hid (by rw [hWl]; exact ((f5.trans (TFr.alloc _)).trans (TFr.alloc _)).trans (TFr.alloc _))
    have HBL : Hid (Boxed Wl W.heap.size 3 (natC n)) := Lib.hid (by rw [hWl]; exact ((hb5.alloc _).alloc _).alloc _)
    rw [← hWl]
    have HBF : Hid (∀ W' sv', TFr p Wl W' sv1 sv' → Boxed W' W.heap.size 3 (natC n)) := Lib.hid fun W' sv' hf => (hf.blk W.heap.size (by omega) (fun hm => by have := HW.out.lt _ hm; omega) (fun e => (HSO.out _ e).2 rfl)).trans HBL.out
    clear hWl h5 f5 hb5 hcx hfx hcs hcn HTW4 HFR4 HBN4 HCN HS6 HG6 HAT6 HBN6 hcs6 hfs6 hcg6 hcn6
    refine wpIn_rangeFunc_ownG rfl (by decide) (gf := 64) rfl trivial (enters_of Try.func64 (by kernel_rfl) rfl)
      (of_stops 8 (by decide) w6.heap.size B0 v S n 0 hn (by omega) (by have := HSL.out n; omega) Wl b0 b1 b2 HTL.out.r (by omega)) kpB_t (kpB_b (by omega) (by omega)) (Below.refl _ _) (fun _ => rfl)
      (fun pre W' => ∃ svx, TarW W' B0 p v S ((valsOf pre).foldl (tstep (visitT S m) n) (tmark s n)) svx ∧ TFr p Wl W' sv1 svx) (fun _ _ _ => False) ?hI (fun _ _ _ _ _ h _ _ => h) ?h0
      (fun x => { tmps := #[natC n, .pointer (some ⟨p.bx, 0, none⟩), .pointer (some ⟨p.bi, 0, none⟩), .pointer (some ⟨p.bl, 0, none⟩), .pointer (some ⟨p.bs, 0, none⟩), .pointer (some ⟨p.bg, 0, none⟩), .pointer (some ⟨p.bv, 0, none⟩), .pointer (some ⟨p.bc, 0, none⟩), .pointer (some ⟨p.bk, 0, none⟩), .pointer (some ⟨W.heap.size, 0, none⟩), natC x.1, undef, .slice (some ⟨p.gi, 0, none⟩) S.length S.length, natC n, .slice (some ⟨p.gl, 0, none⟩) S.length S.length, natC n, natC s.nx, natC s.nx, .pointer (some ⟨p.gi, n, none⟩), .pointer (some ⟨p.gl, n, none⟩), natC s.nx, .int .i64 ((s.nx : Int) + 1), sv, natC n, .slice (some ⟨Wa.heap.size, 0, none⟩) 1 1, sv1, v, natC n, .func (.func 64) #[] #[.pointer (some ⟨w6.heap.size, 0, none⟩), .pointer (some ⟨w6.heap.size + 1, 0, none⟩), .pointer (some ⟨w6.heap.size + 1 + 1, 0, none⟩)], natC x.1, undef, undef, undef, undef, undef, undef, undef, undef, undef, undef, undef, undef, undef, undef, undef, undef, undef, undef, undef, undef, undef, undef, undef, undef, undef, undef, undef, undef, undef, undef, undef, undef, undef, undef, undef, undef, undef, undef, undef, undef, undef, undef, undef, undef, undef, undef, undef, undef, undef, undef, undef, undef, undef, undef, undef, undef, undef, undef, undef, undef, undef, undef, undef, undef, undef, undef], defers := [] }) ?assign ?body ?done ?stop
    case hI =>
      intro pre X Y row h hg hr
      obtain ⟨svx, h1, h2⟩ := h
      exact ⟨svx, h1.turn hg (fun r e => ⟨by have := (hr r e).1; omega, (hr r e).2⟩) (by have := h2.size; omega), h2.turn hg (fun r e => (hr r e).1)⟩
    case h0 => exact ⟨sv1, HTL.out, TFr.refl _ _ _⟩
    case assign =>
      intro l x W2 K hK
      simp only [encOf]
      gi_wp2
      exact hK
    case body =>
      rintro l pre x W2 ⟨sv2, hT2, hF2⟩ _
      have hxk : x.1 ∈ S.getD n [] := by
        have := x.2
        unfold ofL at this
        exact (List.mem_filter.1 this).1
      have hpre : ∀ j ∈ valsOf pre, j < S.length := by
        intro j hj
        obtain ⟨y, _, rfl⟩ := List.mem_map.1 hj
        have := y.2
        unfold ofL at this
        exact HSK.out n _ (List.mem_filter.1 this).1
      obtain ⟨k, hkx⟩ : ∃ k, k = x.1 := ⟨_, rfl⟩
      rw [← hkx] at hxk ⊢
      have hk := HSK.out n _ hxk
      have hok := tfold_ok (n := n) (v := visitT S m) (N := S.length) (f := m) (fun s k a b c d => visitT_ok HSK.out m s k a b c d) (valsOf pre) (tmark s n) hpre (by have := HZ1.out; omega) HI1.out
      have HVS : Hid ((valsOf (pre ++ [x])).foldl (tstep (visitT S m) n) (tmark s n) = tstep (visitT S m) n ((valsOf pre).foldl (tstep (visitT S m) n) (tmark s n)) k) := Lib.hid (by rw [valsOf_snoc, hkx, List.foldl_append]; rfl)
      have hzz : zeros ((valsOf pre).foldl (tstep (visitT S m) n) (tmark s n)).ix ≤ m := by have := hok.2.z; have := HZ1.out; omega
      have hi2 := hok.1
      clear hok hkx
      generalize (valsOf pre).foldl (tstep (visitT S m) n) (tmark s n) = s2 at *
      have hk0 : (0 : Int) ≤ (k : Int) := by omega
      have hk1 : (k : Int) < (S.length : Int) := by omega
      have hsz2 := hF2.size
      have hci : W2.cell? ⟨p.bi, 0, none⟩ = some (.slice (some ⟨p.gi, 0, none⟩) S.length S.length) := Boxed.cell (hT2.L.get 1 rfl)
      have hcik : W2.cell? ⟨p.gi, k, none⟩ = some (intC (gD s2.ix k)) := Ints.cell (hT2.L.get 8 rfl) k _ (gD_get (by rw [hi2.li]; exact hk))
      have hcv : W2.cell? ⟨p.bv, 0, none⟩ = some (.func (.func 73) #[] #[.pointer (some ⟨p.bx, 0, none⟩), .pointer (some ⟨p.bi, 0, none⟩), .pointer (some ⟨p.bl, 0, none⟩), .pointer (some ⟨p.bs, 0, none⟩), .pointer (some ⟨p.bg, 0, none⟩), .pointer (some ⟨p.bv, 0, none⟩), .pointer (some ⟨p.bc, 0, none⟩), .pointer (some ⟨p.bk, 0, none⟩)]) := Boxed.cell (hT2.L.get 5 rfl)
      have hcc : W2.cell? ⟨p.bc, 0, none⟩ = some (.slice (some ⟨p.gc, 0, none⟩) S.length S.length) := Boxed.cell (hT2.L.get 6 rfl)
      have hcck : W2.cell? ⟨p.gc, k, none⟩ = some (intC (gD s2.co k)) := Ints.cell (hT2.L.get 10 rfl) k _ (gD_get (by rw [hi2.lc]; exact hk))
      have HT2 := Lib.hid hT2
      have HF2 := Lib.hid hF2
      have HI2 := Lib.hid hi2
      have HSV2 : Hid (∀ j, sv2.ownBlock = some j → j < w6.heap.size ∨ Wl.heap.size ≤ j) := Lib.hid fun j hj => by
        rcases HF2.out.own j hj with e | e
        · exact .inl (HSO.out j e).1
        · exact .inr e
      clear hT2 hF2 hi2
      by_cases hz : gD s2.ix k = 0
      · have hcall := IH.out s2 sv2 k W2 hzz HI2.out hk hz (by omega) HT2.out
        have hi3 := visitT_ok HSK.out m s2 k hzz HI2.out hk hz
        have HTS : Hid (tstep (visitT S m) n s2 k = tlow (visitT S m s2 k) n (gD (visitT S m s2 k).lo k)) := Lib.hid (by unfold tstep; rw [if_pos hz])
        rw [hz] at hcik
        have HCALL := Lib.hid hcall
        clear hcall
        gi_wp2_with fail
        refine ⟨trivial, ?_⟩
        refine (CallsIn.inRound l (callsIn_wide.2 HCALL.out)).mono ?_
        rintro e W3 ⟨rfl, sv3, hT3, hF3⟩
        generalize visitT S m s2 k = s3 at *
        have hF13 := HF2.out.trans hF3
        have hbn3 := HBF.out _ _ hF13
        have hcl : W3.cell? ⟨p.bl, 0, none⟩ = some (.slice (some ⟨p.gl, 0, none⟩) S.length S.length) := Boxed.cell (hT3.L.get 2 rfl)
        have hcln : W3.cell? ⟨p.gl, n, none⟩ = some (intC (gD s3.lo n)) := Ints.cell (hT3.L.get 9 rfl) n _ (gD_get (by rw [hi3.1.ll]; exact hn))
        have hclk : W3.cell? ⟨p.gl, k, none⟩ = some (intC (gD s3.lo k)) := Ints.cell (hT3.L.get 9 rfl) k _ (gD_get (by rw [hi3.1.ll]; exact hk))
        have hfln := frozen_of_row _ _ n _ _ (hT3.L.get 9 rfl)
        obtain ⟨a3, ha3⟩ : ∃ a3, a3 = gD s3.lo n := ⟨_, rfl⟩
        obtain ⟨b3, hb3⟩ : ∃ b3, b3 = gD s3.lo k := ⟨_, rfl⟩
        rw [← ha3] at hcln
        rw [← hb3] at hclk HTS
        have hcn3 := hbn3.cell
        have HT3 := Lib.hid hT3
        have HF3 := Lib.hid hF3
        have HF13 := Lib.hid hF13
        have HBN3 := Lib.hid hbn3
        have HA3 := Lib.hid ha3
        clear hT3 hF3 hF13 hbn3 ha3 hb3
        gi_wp2_with fail
        refine region_round_tail 12 (by kernel_rfl) (by kernel_rfl) (fun _ _ h => h) (by kernel_rfl) ?_
        simp only [List.take_succ_cons, List.take_zero, List.drop_succ_cons, List.drop_zero]
        refine Sealed.out ?_
        iterate 12 (refine seal_yes (by rfl) (fun K hK => ?_); go_simp; refine hK _ ?_; clear hK K)
        refine seal_nil ?_
        go_wp2_with fail
        gi_wp2_with fail
        have hT4 : TarW (W3.setCell ⟨p.gl, n, none⟩ (.int .i64 (min a3 b3))) B0 p v S (tlow s3 n b3) sv3 := by
          rw [HA3.out]
          exact HT3.out.store HP.out rfl p.gl n _ (by simp [TP.blocks]) rfl (HT3.out.L.int HP.out.nd 9 rfl n _)
        have hF4 : TFr p W2 (W3.setCell ⟨p.gl, n, none⟩ (.int .i64 (min a3 b3))).drew sv2 sv3 := (HF3.out.trans (TFr.store p.gl n _ (by simp [TP.blocks]))).drew
        exact ⟨(hF4.others HT2.out).from _, ⟨hF4.blk _ (by omega) (fun hm => by have := HW.out.lt _ hm; omega) (fun e => by have := HSV2.out _ e; omega), hF4.below HP.out (by omega) HT2.out⟩, sv3, by rw [HVS.out, HTS.out]; exact hT4.drew, HF2.out.trans hF4⟩
      · have hzd : decide (gD s2.ix k = 0) = false := decide_eq_false hz
        obtain ⟨xi, hxi⟩ : ∃ xi, xi = gD s2.ix k := ⟨_, rfl⟩
        obtain ⟨ck, hck⟩ : ∃ ck, ck = gD s2.co k := ⟨_, rfl⟩
        have HXI := Lib.hid hxi
        have HCK := Lib.hid hck
        rw [← hxi] at hcik hzd hz
        rw [← hck] at hcck
        clear hxi hck
        by_cases hc : ck < 0
        · have hcd : decide (ck < 0) = true := decide_eq_true hc
          have HTS : Hid (tstep (visitT S m) n s2 k = tlow s2 n xi) := Lib.hid (by unfold tstep; rw [← HXI.out, ← HCK.out, if_neg hz, if_pos hc])
          have hcl : W2.cell? ⟨p.bl, 0, none⟩ = some (.slice (some ⟨p.gl, 0, none⟩) S.length S.length) := Boxed.cell (HT2.out.L.get 2 rfl)
          have hcln : W2.cell? ⟨p.gl, n, none⟩ = some (intC (gD s2.lo n)) := Ints.cell (HT2.out.L.get 9 rfl) n _ (gD_get (by rw [HI2.out.ll]; exact hn))
          have hfln := frozen_of_row _ _ n _ _ (HT2.out.L.get 9 rfl)
          have hcn3 := (HBF.out _ _ HF2.out).cell
          obtain ⟨a3, ha3⟩ : ∃ a3, a3 = gD s2.lo n := ⟨_, rfl⟩
          rw [← ha3] at hcln
          have HA3 := Lib.hid ha3
          clear ha3
          gi_wp2_with fail
          refine region_round_tail 12 (by kernel_rfl) (by kernel_rfl) (fun _ _ h => h) (by kernel_rfl) ?_
          simp only [List.take_succ_cons, List.take_zero, List.drop_succ_cons, List.drop_zero]
          refine Sealed.out ?_
          iterate 12 (refine seal_yes (by rfl) (fun K hK => ?_); go_simp; refine hK _ ?_; clear hK K)
          refine seal_nil ?_
          go_wp2_with fail
          gi_wp2_with fail
          have hT4 : TarW (W2.setCell ⟨p.gl, n, none⟩ (.int .i64 (min a3 xi))) B0 p v S (tlow s2 n xi) sv2 := by
            rw [HA3.out]
            exact HT2.out.store HP.out rfl p.gl n _ (by simp [TP.blocks]) rfl (HT2.out.L.int HP.out.nd 9 rfl n _)
          have hF4 : TFr p W2 (W2.setCell ⟨p.gl, n, none⟩ (.int .i64 (min a3 xi))).drew sv2 sv2 := (TFr.store p.gl n _ (by simp [TP.blocks])).drew
          exact ⟨(hF4.others HT2.out).from _, ⟨hF4.blk _ (by omega) (fun hm => by have := HW.out.lt _ hm; omega) (fun e => by have := HSV2.out _ e; omega), hF4.below HP.out (by omega) HT2.out⟩, sv2, by rw [HVS.out, HTS.out]; exact hT4.drew, HF2.out.trans hF4⟩
        · have hcd : decide (ck < 0) = false := decide_eq_false hc
          have HTS : Hid (tstep (visitT S m) n s2 k = s2) := Lib.hid (by unfold tstep; rw [← HXI.out, ← HCK.out, if_neg hz, if_neg hc])
          gi_wp2_with fail
          exact ⟨(KeepsOthers.refl _).from _, ⟨rfl, Below.refl _ _⟩, sv2, by rw [HVS.out, HTS.out]; exact HT2.out, HF2.out⟩
    case done =>
      rintro D xs W2 hD hxs ⟨sv2, hT2, hF2⟩ hK
      have hfl : ofL S n 0 = S.getD n [] := by unfold ofL; rw [List.filter_eq_self.2 (by simp)]
      rw [hxs, hfl] at hT2
      have hok := tfold_ok (n := n) (v := visitT S m) (N := S.length) (f := m) (fun s k a b c d => visitT_ok HSK.out m s k a b c d) (S.getD n []) (tmark s n) (HSK.out n) (by have := HZ1.out; omega) HI1.out
      have HVT : Hid (visitT S (m + 1) s n = tfin ((S.getD n []).foldl (tstep (visitT S m) n) (tmark s n)) n) := Lib.hid rfl
      have hk2 := hok.2.k
      have hz2 := hok.2.z
      have hp2 := hok.2.p
      have hi2 := hok.1
      clear hok
      generalize (S.getD n []).foldl (tstep (visitT S m) n) (tmark s n) = s2 at *
      have hnr : n ∈ s2.st := by
        obtain ⟨zs, hzs⟩ := hp2
        rw [hzs]
        simp [tmark]
      have hnx2 : s2.nx ≤ 1000001 := by have := hi2.nz; omega
      have hct2 := hi2.ct
      have hsl2 := hi2.sl
      have hsz2 := hF2.size
      have hbn2 : Boxed W2 W.heap.size 3 (natC n) := (hF2.blk W.heap.size (by omega) (fun hm => by have := HW.out.lt _ hm; omega) (fun e => (HSO.out _ e).2 rfl)).trans HBL.out
      have HMK : Hid (Marks W.heap.size [{ target := .collected D, args := #[] }] W2.drew) := Lib.hid (Marks.push (B := W.heap.size) (ds := []) (W := W2) (W0 := Wl) trivial trivial (by omega) (Nat.le_refl _) hD hK).drew
      obtain ⟨lon, hlon⟩ : ∃ x, x = gD s2.lo n := ⟨_, rfl⟩
      obtain ⟨ixn, hixn⟩ : ∃ x, x = gD s2.ix n := ⟨_, rfl⟩
      have hHV : HeldV ⟨p.bl, 0, none⟩ ⟨W.heap.size, 0, none⟩ ⟨p.gl, n, none⟩ ⟨p.bi, 0, none⟩ ⟨p.gi, n, none⟩ (.slice (some ⟨p.gl, 0, none⟩) S.length S.length) (natC n) (intC lon) (.slice (some ⟨p.gi, 0, none⟩) S.length S.length) (intC ixn) W2.drew :=
        ⟨Boxed.cell (hT2.L.get 2 rfl), hbn2.cell, by rw [hlon]; exact Ints.cell (hT2.L.get 9 rfl) n _ (gD_get (by rw [hi2.ll]; exact hn)), Boxed.cell (hT2.L.get 1 rfl), by rw [hixn]; exact Ints.cell (hT2.L.get 8 rfl) n _ (gD_get (by rw [hi2.li]; exact hn))⟩
      have HLON := Lib.hid hlon
      have HIXN := Lib.hid hixn
      have HT2 := Lib.hid hT2
      have HF2 := Lib.hid hF2
      have HI2 := Lib.hid hi2
      have HBN2 := Lib.hid hbn2
      have HNR := Lib.hid hnr
      clear hlon hixn hT2 hF2 hi2 hbn2 hnr hp2 hfl
      gi_wp2_with fail
      refine region_wideP (S := HeldV ⟨p.bl, 0, none⟩ ⟨W.heap.size, 0, none⟩ ⟨p.gl, n, none⟩ ⟨p.bi, 0, none⟩ ⟨p.gi, n, none⟩ (.slice (some ⟨p.gl, 0, none⟩) S.length S.length) (natC n) (intC lon) (.slice (some ⟨p.gi, 0, none⟩) S.length S.length) (intC ixn)) (by kernel_rfl) (fun _ _ h => by obtain ⟨h, _⟩ := h; cases h) ?_
      (refine wpAnyH_take (i := 0) (v := ?_) rfl (by kernel_rfl) (by kernel_rfl) (by kernel_rfl) (fun _ _ _ h => h) (Or.inl ⟨by rfl, ?_⟩) (by assumption) ?_; rotate_left; (· (intro w hSw; obtain ⟨c0, c1, c2, c3, c4⟩ := hSw; go_simp; try with_reducible rfl)); (try simp only [List.getElem_toArray, List.getElem_cons_zero, List.getElem_cons_succ, Act.put, List.setIfInBounds_toArray, List.set_cons_zero, List.set_cons_succ]))
      (refine wpAnyH_take (i := 1) (v := ?_) rfl (by kernel_rfl) (by kernel_rfl) (by kernel_rfl) (fun _ _ _ h => h) (Or.inl ⟨by rfl, ?_⟩) (by assumption) ?_; rotate_left; (· (intro w hSw; obtain ⟨c0, c1, c2, c3, c4⟩ := hSw; go_simp; try with_reducible rfl)); (try simp only [List.getElem_toArray, List.getElem_cons_zero, List.getElem_cons_succ, Act.put, List.setIfInBounds_toArray, List.set_cons_zero, List.set_cons_succ]))
      (refine wpAnyH_take (i := 2) (v := ?_) rfl (by kernel_rfl) (by kernel_rfl) (by kernel_rfl) (fun _ _ _ h => h) (Or.inl ⟨by rfl, ?_⟩) (by assumption) ?_; rotate_left; (· (intro w hSw; obtain ⟨c0, c1, c2, c3, c4⟩ := hSw; go_simp; try with_reducible rfl)); (try simp only [List.getElem_toArray, List.getElem_cons_zero, List.getElem_cons_succ, Act.put, List.setIfInBounds_toArray, List.set_cons_zero, List.set_cons_succ]))
      (refine wpAnyH_take (i := 3) (v := ?_) rfl (by kernel_rfl) (by kernel_rfl) (by kernel_rfl) (fun _ _ _ h => h) (Or.inl ⟨by rfl, ?_⟩) (by assumption) ?_; rotate_left; (· (intro w hSw; obtain ⟨c0, c1, c2, c3, c4⟩ := hSw; go_simp; try with_reducible rfl)); (try simp only [List.getElem_toArray, List.getElem_cons_zero, List.getElem_cons_succ, Act.put, List.setIfInBounds_toArray, List.set_cons_zero, List.set_cons_succ]))
      (refine wpAnyH_take (i := 4) (v := ?_) rfl (by kernel_rfl) (by kernel_rfl) (by kernel_rfl) (fun _ _ _ h => h) (Or.inl ⟨by rfl, ?_⟩) (by assumption) ?_; rotate_left; (· (intro w hSw; obtain ⟨c0, c1, c2, c3, c4⟩ := hSw; go_simp; try with_reducible rfl)); (try simp only [List.getElem_toArray, List.getElem_cons_zero, List.getElem_cons_succ, Act.put, List.setIfInBounds_toArray, List.set_cons_zero, List.set_cons_succ]))
      (refine wpAnyH_take (i := 5) (v := ?_) rfl (by kernel_rfl) (by kernel_rfl) (by kernel_rfl) (fun _ _ _ h => h) (Or.inl ⟨by rfl, ?_⟩) (by assumption) ?_; rotate_left; (· (intro w hSw; obtain ⟨c0, c1, c2, c3, c4⟩ := hSw; go_simp; try with_reducible rfl)); (try simp only [List.getElem_toArray, List.getElem_cons_zero, List.getElem_cons_succ, Act.put, List.setIfInBounds_toArray, List.set_cons_zero, List.set_cons_succ]))
      (refine wpAnyH_take (i := 6) (v := ?_) rfl (by kernel_rfl) (by kernel_rfl) (by kernel_rfl) (fun _ _ _ h => h) (Or.inl ⟨by rfl, ?_⟩) (by assumption) ?_; rotate_left; (· (intro w hSw; obtain ⟨c0, c1, c2, c3, c4⟩ := hSw; go_simp; try with_reducible rfl)); (try simp only [List.getElem_toArray, List.getElem_cons_zero, List.getElem_cons_succ, Act.put, List.setIfInBounds_toArray, List.set_cons_zero, List.set_cons_succ]))
      (refine wpAnyH_take (i := 7) (v := ?_) rfl (by kernel_rfl) (by kernel_rfl) (by kernel_rfl) (fun _ _ _ h => h) (Or.inl ⟨by rfl, ?_⟩) (by assumption) ?_; rotate_left; (· (intro w hSw; obtain ⟨c0, c1, c2, c3, c4⟩ := hSw; go_simp; try with_reducible rfl)); (try simp only [List.getElem_toArray, List.getElem_cons_zero, List.getElem_cons_succ, Act.put, List.setIfInBounds_toArray, List.set_cons_zero, List.set_cons_succ]))
      (refine wpAnyH_take (i := 8) (v := ?_) rfl (by kernel_rfl) (by kernel_rfl) (by kernel_rfl) (fun _ _ _ h => h) (Or.inl ⟨by rfl, ?_⟩) (by assumption) ?_; rotate_left; (· (intro w hSw; obtain ⟨c0, c1, c2, c3, c4⟩ := hSw; go_simp; try with_reducible rfl)); (try simp only [List.getElem_toArray, List.getElem_cons_zero, List.getElem_cons_succ, Act.put, List.setIfInBounds_toArray, List.set_cons_zero, List.set_cons_succ]))
      refine wpAnyH_done (by kernel_rfl) ?_ _
      refine NoPanic.normal ?_
      clear hHV
      by_cases hlt : lon < ixn
      · have hltd : decide (lon < ixn) = true := decide_eq_true hlt
        gi_wp2_with fail
        refine leave_marks HMK.out (Shut.refl _ _) fun W' hs => ⟨_, results_none rfl _ _ _, rfl, sv2, ?_, ?_⟩
        · rw [HVT.out]
          unfold tfin
          rw [← HLON.out, ← HIXN.out, if_pos hlt]
          exact HT2.out.drew.shut hs hB
        · exact (HFL.out.trans HF2.out).drew.shut hs
      · have hltd : decide (lon < ixn) = false := decide_eq_false hlt
        have HPOP : Hid (visitT S (m + 1) s n = tpop s2 n) := Lib.hid (by rw [HVT.out]; unfold tfin; rw [← HLON.out, ← HIXN.out, if_neg hlt])
        gi_wp2_with fail
        refine wpIn_loop_gas (fun j a' W' => ∃ u10 u11 u12 u13 u14 u15 u16 u17 u18 u19 u20 u21 u22 u23 u24 u25 u26 u27 u28 u29 u30 u31 u32 u33 u34 u35 u36 u37 u38 u39 u40 u41 u42 u43 u44 u45 u46 u47 u48 u49 u50 u51 u52 u53 u54 u55 u56 u57 u58 u59 u60 u61 u62 u63 u64 u65 u66 u67 u68 u69 u70 u71 u72 u73 u74 u75 u76 u77 u78 u79 u80 u81 u82 u83 u84 u85 u86 u87 u88 u89 u90 u91 u92 u93 u94 u95 : Value, ∃ (r : List Nat) (co : List Int) (svx : Value), (j = r.length ∧ (n ∈ r ∧ (∀ i ∈ r, i < S.length) ∧ r.length ≤ 1000000 ∧ co.length = S.length) ∧ tpopL s2.ct n r co = tpopL s2.ct n s2.st.reverse s2.co ∧ TarW W' B0 p v S ⟨s2.ix, s2.lo, co, r.reverse, s2.nx, s2.ct⟩ svx ∧ TFr p Wl W' sv1 svx ∧ Marks W.heap.size [{ target := .collected D, args := #[] }] W') ∧ a' = { tmps := #[natC n, .pointer (some ⟨p.bx, 0, none⟩), .pointer (some ⟨p.bi, 0, none⟩), .pointer (some ⟨p.bl, 0, none⟩), .pointer (some ⟨p.bs, 0, none⟩), .pointer (some ⟨p.bg, 0, none⟩), .pointer (some ⟨p.bv, 0, none⟩), .pointer (some ⟨p.bc, 0, none⟩), .pointer (some ⟨p.bk, 0, none⟩), .pointer (some ⟨W.heap.size, 0, none⟩), u10, u11, u12, u13, u14, u15, u16, u17, u18, u19, u20, u21, u22, u23, u24, u25, u26, u27, u28, u29, u30, u31, u32, u33, u34, u35, u36, u37, u38, u39, u40, u41, u42, u43, u44, u45, u46, u47, u48, u49, u50, u51, u52, u53, u54, u55, u56, u57, u58, u59, u60, u61, u62, u63, u64, u65, u66, u67, u68, u69, u70, u71, u72, u73, u74, u75, u76, u77, u78, u79, u80, u81, u82, u83, u84, u85, u86, u87, u88, u89, u90, u91, u92, u93, u94, u95], defers := [{ target := .collected D, args := #[] }] }) s2.st.length ?start ?round
        case start =>
          repeat apply Exists.intro
          refine ⟨⟨by rw [List.length_reverse], ⟨List.mem_reverse.2 HNR.out, fun i hi => HI2.out.sk i (List.mem_reverse.1 hi), by rw [List.length_reverse]; omega, HI2.out.lc⟩, rfl, by rw [List.reverse_reverse]; exact HT2.out.drew, HF2.out.drew, HMK.out⟩, rfl⟩
        case round =>
          intro j a' W3 h
          obtain ⟨u10, h⟩ := h
          obtain ⟨u11, h⟩ := h
          obtain ⟨u12, h⟩ := h
          obtain ⟨u13, h⟩ := h
          obtain ⟨u14, h⟩ := h
          obtain ⟨u15, h⟩ := h
          obtain ⟨u16, h⟩ := h
          obtain ⟨u17, h⟩ := h
          obtain ⟨u18, h⟩ := h
          obtain ⟨u19, h⟩ := h
          obtain ⟨u20, h⟩ := h
          obtain ⟨u21, h⟩ := h
          obtain ⟨u22, h⟩ := h
          obtain ⟨u23, h⟩ := h
          obtain ⟨u24, h⟩ := h
          obtain ⟨u25, h⟩ := h
          obtain ⟨u26, h⟩ := h
          obtain ⟨u27, h⟩ := h
          obtain ⟨u28, h⟩ := h
          obtain ⟨u29, h⟩ := h
          obtain ⟨u30, h⟩ := h
          obtain ⟨u31, h⟩ := h
          obtain ⟨u32, h⟩ := h
          obtain ⟨u33, h⟩ := h
          obtain ⟨u34, h⟩ := h
          obtain ⟨u35, h⟩ := h
          obtain ⟨u36, h⟩ := h
          obtain ⟨u37, h⟩ := h
          obtain ⟨u38, h⟩ := h
          obtain ⟨u39, h⟩ := h
          obtain ⟨u40, h⟩ := h
          obtain ⟨u41, h⟩ := h
          obtain ⟨u42, h⟩ := h
          obtain ⟨u43, h⟩ := h
          obtain ⟨u44, h⟩ := h
          obtain ⟨u45, h⟩ := h
          obtain ⟨u46, h⟩ := h
          obtain ⟨u47, h⟩ := h
          obtain ⟨u48, h⟩ := h
          obtain ⟨u49, h⟩ := h
          obtain ⟨u50, h⟩ := h
          obtain ⟨u51, h⟩ := h
          obtain ⟨u52, h⟩ := h
          obtain ⟨u53, h⟩ := h
          obtain ⟨u54, h⟩ := h
          obtain ⟨u55, h⟩ := h
          obtain ⟨u56, h⟩ := h
          obtain ⟨u57, h⟩ := h
          obtain ⟨u58, h⟩ := h
          obtain ⟨u59, h⟩ := h
          obtain ⟨u60, h⟩ := h
          obtain ⟨u61, h⟩ := h
          obtain ⟨u62, h⟩ := h
          obtain ⟨u63, h⟩ := h
          obtain ⟨u64, h⟩ := h
          obtain ⟨u65, h⟩ := h
          obtain ⟨u66, h⟩ := h
          obtain ⟨u67, h⟩ := h
          obtain ⟨u68, h⟩ := h
          obtain ⟨u69, h⟩ := h
          obtain ⟨u70, h⟩ := h
          obtain ⟨u71, h⟩ := h
          obtain ⟨u72, h⟩ := h
          obtain ⟨u73, h⟩ := h
          obtain ⟨u74, h⟩ := h
          obtain ⟨u75, h⟩ := h
          obtain ⟨u76, h⟩ := h
          obtain ⟨u77, h⟩ := h
          obtain ⟨u78, h⟩ := h
          obtain ⟨u79, h⟩ := h
          obtain ⟨u80, h⟩ := h
          obtain ⟨u81, h⟩ := h
          obtain ⟨u82, h⟩ := h
          obtain ⟨u83, h⟩ := h
          obtain ⟨u84, h⟩ := h
          obtain ⟨u85, h⟩ := h
          obtain ⟨u86, h⟩ := h
          obtain ⟨u87, h⟩ := h
          obtain ⟨u88, h⟩ := h
          obtain ⟨u89, h⟩ := h
          obtain ⟨u90, h⟩ := h
          obtain ⟨u91, h⟩ := h
          obtain ⟨u92, h⟩ := h
          obtain ⟨u93, h⟩ := h
          obtain ⟨u94, h⟩ := h
          obtain ⟨u95, h⟩ := h
          obtain ⟨r, co, svx, ⟨hj, ⟨hnr, hri, hrl, hcl⟩, hpop, hT, hF, hM⟩, rfl⟩ := h
          cases r with
          | nil => simp at hnr
          | cons k r =>
            have hsz3 := hF.size
            have hk := hri k (by simp)
            have hbn3 := HBF.out _ _ hF
            simp only [List.length_cons] at hj hrl
            have hos := hT.os
            simp only [List.reverse_cons, List.length_append, List.length_reverse, List.length_cons, List.length_nil, Nat.zero_add, List.map_append, List.map_cons, List.map_nil] at hos
            obtain ⟨g3, c3, rfl, hg3a, hg3b, hg3c⟩ := own_shape hos (by omega)
            have htop : W3.cell? ⟨g3, r.length, none⟩ = some (natC k) := own_cell hos r.length _ (by rw [List.getElem?_append_right (by simp)]; simp)
            have hstk := hT.stack HP.out (by omega) r.reverse (World.grownBy.refl _ _) (sv1 := .slice (some ⟨g3, 0, none⟩) r.length c3) (by rw [List.length_reverse]; exact own_pop hos) (fun k hk => .inl (by simpa [Value.ownBlock] using hk))
            have hcs : W3.cell? ⟨p.bs, 0, none⟩ = some (.slice (some ⟨g3, 0, none⟩) (r.length + 1) c3) := Boxed.cell (hT.L.get 3 rfl)
            have hfs := Boxed.frozen (hT.L.get 3 rfl)
            have hcc : W3.cell? ⟨p.bc, 0, none⟩ = some (.slice (some ⟨p.gc, 0, none⟩) S.length S.length) := Boxed.cell (hT.L.get 6 rfl)
            have hck : W3.cell? ⟨p.bk, 0, none⟩ = some (natC s2.ct) := Boxed.cell (hT.L.get 7 rfl)
            have hfk := Boxed.frozen (hT.L.get 7 rfl)
            have hcgk : W3.cell? ⟨p.gc, k, none⟩ = some (intC (gD co k)) := Ints.cell (hT.L.get 10 rfl) k _ (gD_get (by rw [hcl]; exact hk))
            have hfgk := frozen_of_row _ _ k _ _ (hT.L.get 10 rfl)
            have hcn3 := hbn3.cell
            have hT5 := hstk.1.store HP.out rfl p.gc k (natC s2.ct) (by simp [TP.blocks]) rfl (s' := ⟨s2.ix, s2.lo, co.set k s2.ct, r.reverse, s2.nx, s2.ct⟩) (hstk.1.L.int HP.out.nd 10 rfl k s2.ct)
            have hF5 := hstk.2.trans (TFr.store p.gc k (natC s2.ct) (by simp [TP.blocks]))
            have hM5 := hM.keep (NoCells.of_keeps ((hF5.others hT).from W.heap.size))
            have hF15 := hF.trans hF5
            have hk0 : (0 : Int) ≤ (k : Int) := by omega
            have hk1 : (k : Int) < (S.length : Int) := by omega
            have hr0 : (0 : Int) ≤ (r.length : Int) := by omega
            have hr1 : (r.length : Int) < (r.length : Int) + 1 := by omega
            have hr2 : (r.length : Int) ≤ (c3 : Int) := by omega
            have hwl : IntKind.i64.wrap ((r.length : Int) + 1 - 1) = (r.length : Int) := by rw [Int.add_sub_cancel]; exact IntWalk.i64_in _ (by omega)
            have hwc : IntKind.i64.wrap ((s2.ct : Int) + 1) = (s2.ct : Int) + 1 := IntWalk.i64_in _ (by omega)
            have d1 : p.bc ≠ p.bs := HP.out.ne 6 3 rfl rfl (by decide)
            have d2 : p.bk ≠ p.bs := HP.out.ne 7 3 rfl rfl (by decide)
            have d3 : p.gc ≠ p.bs := HP.out.ne 10 3 rfl rfl (by decide)
            have d4 : p.bk ≠ p.gc := HP.out.ne 7 10 rfl rfl (by decide)
            have d5 := d1.symm
            have d6 := d2.symm
            have d7 := d3.symm
            have d8 := d4.symm
            have hgc := HW.out.lt p.gc (by simp [TP.blocks])
            have d9 : W.heap.size ≠ p.gc := by omega
            have d10 : p.gc ≠ W.heap.size := by omega
            have HPO := Lib.hid hpop
            have HT5 := Lib.hid hT5
            have HF15 := Lib.hid hF15
            have HM5 := Lib.hid hM5
            have HNR := Lib.hid hnr
            have HRI := Lib.hid hri
            clear hpop hT hF hM hstk hT5 hF5 hM5 hF15 hos hbn3 hnr hri
            by_cases hkn : (k : Int) = (n : Int)
            · have ekn : k = n := by omega
              subst k
              gi_wp2_with fail
              have hP : tpopL s2.ct n s2.st.reverse s2.co = (r, co.set n s2.ct) := by
                rw [← HPO.out]
                show (if n = n then (r, co.set n s2.ct) else tpopL s2.ct n r (co.set n s2.ct)) = _
                rw [if_pos rfl]
              have hT6 : TarW (((W3.setCell ⟨p.bs, 0, none⟩ (.slice (some ⟨g3, 0, none⟩) r.length c3)).setCell ⟨p.gc, n, none⟩ (natC s2.ct)).setCell ⟨p.bk, 0, none⟩ (.int .i64 ((s2.ct : Int) + 1))) B0 p v S (tpop s2 n) (.slice (some ⟨g3, 0, none⟩) r.length c3) := by
                rw [show (s2.ct : Int) + 1 = ((s2.ct + 1 : Nat) : Int) by omega]
                unfold tpop
                rw [hP]
                exact HT5.out.store HP.out rfl p.bk 0 _ (by simp [TP.blocks]) rfl (HT5.out.L.box HP.out.nd 7 rfl _)
              have hF6 : TFr p Wl (((W3.setCell ⟨p.bs, 0, none⟩ (.slice (some ⟨g3, 0, none⟩) r.length c3)).setCell ⟨p.gc, n, none⟩ (natC s2.ct)).setCell ⟨p.bk, 0, none⟩ (.int .i64 ((s2.ct : Int) + 1))) sv1 (.slice (some ⟨g3, 0, none⟩) r.length c3) := HF15.out.trans (TFr.store p.bk 0 _ (by simp [TP.blocks]))
              have hM6 := HM5.out.keep (NoCells.of_keeps (((TFr.store (sv := .slice (some ⟨g3, 0, none⟩) r.length c3) p.bk 0 (.int .i64 ((s2.ct : Int) + 1)) (by simp [TP.blocks])).others HT5.out).from W.heap.size))
              refine leave_marks hM6 (Shut.refl _ _) fun W' hs => ⟨_, results_none rfl _ _ _, rfl, .slice (some ⟨g3, 0, none⟩) r.length c3, ?_, ?_⟩
              · rw [HPOP.out]
                exact hT6.shut hs hB
              · exact (HFL.out.trans hF6).shut hs
            · have hknd : decide ((k : Int) = (n : Int)) = false := decide_eq_false hkn
              gi_wp2_with fail
              have hkn2 : k ≠ n := by omega
              refine ⟨r.length, by omega, ?_⟩
              repeat apply Exists.intro
              refine ⟨⟨rfl, ⟨(List.mem_cons.1 HNR.out).resolve_left (Ne.symm hkn2), fun i hi => HRI.out i (List.mem_cons_of_mem _ hi), by omega, by rw [List.length_set]; exact hcl⟩, ?_, HT5.out, HF15.out, HM5.out⟩, ?_⟩
              rotate_left
              · rfl
              · rw [← HPO.out]
                show _ = (if k = n then (r, co.set k s2.ct) else tpopL s2.ct n r (co.set k s2.ct))
                rw [if_neg hkn2]
    case stop =>
      rintro D c pre W2 hD _ h _
      exact h.elim
end Go.Proofs.Ytlcgbkeggmaljaa

namespace Go.Proofs.Ytlcgbkeggmaljaa
set_option linter.unusedVariables false
set_option linter.unusedSimpArgs false
open Go Go.RowKit

/-- whatever it waits for has come up. -/
def afterOk (md : Region.Mode) (ops : Array Oper) (listed : Array Bool) (i : Nat) : Bool := ((ops[i]?).map (·.after.all fun e => !Region.binds md e || listed.getD e.on false)).getD false
theorem ready_spec {md : Region.Mode} {ops : Array Oper} {listed : Array Bool} {i : Nat} (h : i ∈ Region.ready md ops listed) : i < ops.size ∧ listed.getD i true = false ∧ afterOk md ops listed i = true := by
  unfold Region.ready at h
  obtain ⟨h1, h2⟩ := List.mem_filter.1 h
  rw [Bool.and_eq_true] at h2
  exact ⟨List.mem_range.1 h1, by simpa using h2.1, h2.2⟩
theorem ready_nil {md : Region.Mode} {ops : Array Oper} {listed : Array Bool} (h : Region.ready md ops listed = []) (i : Nat) (ha : afterOk md ops listed i = true) : listed.getD i true = true := by
  cases hb : listed.getD i true with
  | true => rfl
  | false =>
    have : i ∈ Region.ready md ops listed := by
      unfold Region.ready
      refine List.mem_filter.2 ⟨List.mem_range.2 ?_, ?_⟩
      · unfold afterOk at ha
        cases e : ops[i]? with
        | none => rw [e] at ha; cases ha
        | some o => exact (Array.getElem?_eq_some_iff.1 e).1
      · rw [hb]; exact ha
    rw [h] at this
    cases this
theorem wpAnyH_inv {P : Program} {md : Region.Mode} {ops : Array Oper} {Q : Exit → Act → World → Prop} {S : World → Prop} (J : Array Bool → Act → World → Prop)
    (step : ∀ listed a w i, J listed a w → i ∈ Region.ready md ops listed → wpOp P ops Q i (fun a' w' => S w' ∧ J (listed.setIfInBounds i true) a' w') a w)
    (fin : ∀ listed a w, J listed a w → Region.ready md ops listed = [] → Q .normal a w) : ∀ fuel listed a w, unseen listed.toList ≤ fuel → J listed a w → wpAnyH P md ops Q S fuel listed a w
  | 0, listed, a, w, hu, hJ => by
    have hr : Region.ready md ops listed = [] := by
      rcases hl : Region.ready md ops listed with _ | ⟨i, r⟩
      · rfl
      · have hi : i ∈ Region.ready md ops listed := by rw [hl]; simp
        have h1 := (ready_spec hi).2.1
        have h2 : listed.toList[i]? = some false := by
          rw [Array.getElem?_toList]
          rw [Array.getD_eq_getD_getElem?] at h1
          cases e : listed[i]? with
          | none => rw [e] at h1; cases h1
          | some b => rw [e] at h1; simp at h1; rw [h1]
        have := unseen_set _ _ h2
        omega
    exact ⟨hr, fin _ _ _ hJ hr⟩
  | fuel + 1, listed, a, w, hu, hJ => by
    refine ⟨fin _ _ _ hJ, fun i hi => wpOp_mono (fun a' w' h => ⟨h.1, ?_⟩) (step _ _ _ _ hJ hi)⟩
    refine wpAnyH_inv J step fin fuel _ _ _ ?_ h.2
    have h1 := (ready_spec hi).2.1
    have h2 : listed.toList[i]? = some false := by
      rw [Array.getElem?_toList]
      rw [Array.getD_eq_getD_getElem?] at h1
      cases e : listed[i]? with
      | none => rw [e] at h1; cases h1
      | some b => rw [e] at h1; simp at h1; rw [h1]
    have := unseen_set _ _ h2
    rw [Array.toList_setIfInBounds]
    omega
theorem region_plainP {P : Program} {id : Nat} {ops : Array Oper} {Q : Exit → Act → World → Prop} {a : Act} {w : World} {S : World → Prop} (hm : P.follows .mixedOrders = true)
    (h : wpAnyH P .any ops (NoPanic Q) S ops.size (Array.replicate ops.size false) a w.drew) : (Code.region id ops true).wp P Q a w :=
  wp_region_noPanic (wp_region_held hm h)
/-- one operation of it. -/
theorem wpOp_hid {P : Program} {ops : Array Oper} {Q : Exit → Act → World → Prop} {i : Nat} {o : Oper} {K : Act → World → Prop} {a : Act} {w : World} (ho : ops[i]? = some o)
    (h : ∀ K' : Act → World → Prop, Hid (∀ a w, K a w → K' a w) → if Region.wanted o (yielded ops a.tmps) = true then Oper.wp P o a w K' Q else K' (a.put o.dst undef) w) : wpOp P ops Q i K a w :=
  wpOp_step ho fun K' hK => h K' (Lib.hid hK)

/-- an operation that makes a block: what it has yielded, and what the block holds. -/
def Ent (B : Nat) (w : World) (l : Bool) (s : Value) (b : Nat) (val : Nat → Value) (o : Obj) : Prop := l = true → s = val b ∧ B ≤ b ∧ w.heap[b]? = some o
theorem Ent.keep {B : Nat} {w w' : World} {l : Bool} {s : Value} {b : Nat} {val : Nat → Value} {o : Obj} (h : Ent B w l s b val o) (hk : ∀ k, k < w.heap.size → w'.heap[k]? = w.heap[k]?) : Ent B w' l s b val o := fun hl => by
  obtain ⟨h1, h2, h3⟩ := h hl
  exact ⟨h1, h2, (hk b (Array.getElem?_eq_some_iff.1 h3).1).trans h3⟩
theorem Ent.other {B : Nat} {w : World} {l : Bool} {s : Value} {b : Nat} {val : Nat → Value} {o : Obj} (h : Ent B w l s b val o) (c : Nat) (x : Value) (hne : l = true → b ≠ c) : Ent B (w.setCell ⟨c, 0, none⟩ x) l s b val o := fun hl => by
  obtain ⟨h1, h2, h3⟩ := h hl
  exact ⟨h1, h2, (heap_setCell_other _ _ _ _ (hne hl)).trans h3⟩
theorem Ent.lt {B : Nat} {w : World} {l : Bool} {s : Value} {b : Nat} {val : Nat → Value} {o : Obj} (h : Ent B w l s b val o) (hl : l = true) : b < w.heap.size := (Array.getElem?_eq_some_iff.1 (h hl).2.2).1
/-- two that have both been made are not one. -/
def Dis (l l' : Bool) (b b' : Nat) : Prop := l = true → l' = true → b ≠ b'
abbrev slOf (N : Nat) (b : Nat) : Value := .slice (some ⟨b, 0, none⟩) N N
abbrev ptrOf (b : Nat) : Value := .pointer (some ⟨b, 0, none⟩)
abbrev boxO (t : Nat) (x : Value) : Obj := .cells #[x] t (0, 0)
end Go.Proofs.Ytlcgbkeggmaljaa

namespace Go.Proofs.Ytlcgbkeggmaljaa
set_option linter.unusedVariables false
set_option linter.unusedSimpArgs false
open Go Go.RowKit

/-- what holds between two operations of the region that makes the numbering's slices. -/
structure NumJ (B N : Nat) (w0 w : World) (l2 l5 l6 l9 l10 l11 l12 l13 l14 l15 : Bool) (s4 s5 s6 s14 s17 s18 s21 : Value) (g1 g2 gb gr b4 b5 b6 : Nat) : Prop where
  bel : Below B w0 w
  hB : B ≤ w.heap.size
  m1 : Ent B w l2 s14 g1 (slOf N) (.cells (Array.replicate N (.int .i64 0)) 3 (0, 0))
  m2 : Ent B w l5 s17 g2 (slOf N) (.cells (Array.replicate N (.int .i64 0)) 3 (0, 0))
  mb : Ent B w l6 s18 gb (slOf 1) (.cells #[.int .i64 (-1)] 3 (0, 0))
  mr : Ent B w l9 s21 gr (slOf N) (.cells (List.replicate N (intC (-1))).toArray 3 (0, 0))
  a4 : Ent B w l10 s4 b4 ptrOf (boxO 26 (if l13 then s14 else .slice none 0 0))
  a5 : Ent B w l11 s5 b5 ptrOf (boxO 26 (if l14 then s17 else .slice none 0 0))
  a6 : Ent B w l12 s6 b6 ptrOf (boxO 26 (if l15 then s21 else .slice none 0 0))
  d12 : Dis l2 l5 g1 g2
  d1r : Dis l2 l9 g1 gr
  d2r : Dis l5 l9 g2 gr
  d45 : Dis l10 l11 b4 b5
  d46 : Dis l10 l12 b4 b6
  d56 : Dis l11 l12 b5 b6
  o13 : l13 = true → l2 = true ∧ l10 = true
  o14 : l14 = true → l5 = true ∧ l11 = true
  o15 : l15 = true → l9 = true ∧ l12 = true

theorem NumJ.start (B N : Nat) (w0 w : World) (hb : Below B w0 w) (hB : B ≤ w.heap.size) : NumJ B N w0 w false false false false false false false false false false undef undef undef undef undef undef undef 0 0 0 0 0 0 0 := by
  refine ⟨hb, hB, ?_, ?_, ?_, ?_, ?_, ?_, ?_, ?_, ?_, ?_, ?_, ?_, ?_, ?_, ?_, ?_⟩ <;> (intro h; cases h)

theorem bel_old {w w' : World} (h : Below w.heap.size w w') : ∀ k, k < w.heap.size → w'.heap[k]? = w.heap[k]? := h.block
theorem bel_alloc (w : World) (o : Obj) : Below w.heap.size w (w.alloc o) := (Below.refl _ _).alloc (Nat.le_refl _) o
section
variable {B N : Nat} {w0 w : World} {l2 l5 l6 l9 l10 l11 l12 l13 l14 l15 : Bool} {s4 s5 s6 s14 s17 s18 s21 : Value} {g1 g2 gb gr b4 b5 b6 : Nat}
theorem NumJ.keep (h : NumJ B N w0 w l2 l5 l6 l9 l10 l11 l12 l13 l14 l15 s4 s5 s6 s14 s17 s18 s21 g1 g2 gb gr b4 b5 b6) {w' : World} (hb : Below w.heap.size w w') : NumJ B N w0 w' l2 l5 l6 l9 l10 l11 l12 l13 l14 l15 s4 s5 s6 s14 s17 s18 s21 g1 g2 gb gr b4 b5 b6 :=
  ⟨h.bel.trans (hb.mono h.hB), Nat.le_trans h.hB hb.size, h.m1.keep (bel_old hb), h.m2.keep (bel_old hb), h.mb.keep (bel_old hb), h.mr.keep (bel_old hb), h.a4.keep (bel_old hb), h.a5.keep (bel_old hb), h.a6.keep (bel_old hb), h.d12, h.d1r, h.d2r, h.d45, h.d46, h.d56, h.o13, h.o14, h.o15⟩
theorem NumJ.mk1 (h : NumJ B N w0 w false l5 l6 l9 l10 l11 l12 l13 l14 l15 s4 s5 s6 s14 s17 s18 s21 g1 g2 gb gr b4 b5 b6) {w' : World} {g : Nat} (hg : w.heap.size ≤ g) (hb : Below w.heap.size w w') (hc : w'.heap[g]? = some (Obj.cells (Array.replicate N (.int .i64 0)) 3 (0, 0))) : NumJ B N w0 w' true l5 l6 l9 l10 l11 l12 l13 l14 l15 s4 s5 s6 (slOf N g) s17 s18 s21 g g2 gb gr b4 b5 b6 := by
  refine ⟨(h.bel.trans (hb.mono h.hB)), (Nat.le_trans h.hB hb.size), ?_, (h.m2.keep (bel_old hb)), (h.mb.keep (bel_old hb)), (h.mr.keep (bel_old hb)), ?_, (h.a5.keep (bel_old hb)), (h.a6.keep (bel_old hb)), (fun _ hl => by have := h.m2.lt hl; omega), (fun _ hl => by have := h.mr.lt hl; omega), h.d2r, h.d45, h.d46, h.d56, (fun hl => ⟨rfl, (h.o13 hl).2⟩), h.o14, h.o15⟩
  · exact fun _ => ⟨rfl, Nat.le_trans h.hB hg, hc⟩
  · have h2 := h.a4.keep (bel_old hb)
    cases l13 with
    | false => exact h2
    | true => exact absurd (h.o13 rfl).1 (by decide)
theorem NumJ.mk2 (h : NumJ B N w0 w l2 false l6 l9 l10 l11 l12 l13 l14 l15 s4 s5 s6 s14 s17 s18 s21 g1 g2 gb gr b4 b5 b6) {w' : World} {g : Nat} (hg : w.heap.size ≤ g) (hb : Below w.heap.size w w') (hc : w'.heap[g]? = some (Obj.cells (Array.replicate N (.int .i64 0)) 3 (0, 0))) : NumJ B N w0 w' l2 true l6 l9 l10 l11 l12 l13 l14 l15 s4 s5 s6 s14 (slOf N g) s18 s21 g1 g gb gr b4 b5 b6 := by
  refine ⟨(h.bel.trans (hb.mono h.hB)), (Nat.le_trans h.hB hb.size), (h.m1.keep (bel_old hb)), ?_, (h.mb.keep (bel_old hb)), (h.mr.keep (bel_old hb)), (h.a4.keep (bel_old hb)), ?_, (h.a6.keep (bel_old hb)), (fun hl _ => by have := h.m1.lt hl; omega), h.d1r, (fun _ hl => by have := h.mr.lt hl; omega), h.d45, h.d46, h.d56, h.o13, (fun hl => ⟨rfl, (h.o14 hl).2⟩), h.o15⟩
  · exact fun _ => ⟨rfl, Nat.le_trans h.hB hg, hc⟩
  · have h2 := h.a5.keep (bel_old hb)
    cases l14 with
    | false => exact h2
    | true => exact absurd (h.o14 rfl).1 (by decide)
theorem NumJ.mkb (h : NumJ B N w0 w l2 l5 false l9 l10 l11 l12 l13 l14 l15 s4 s5 s6 s14 s17 s18 s21 g1 g2 gb gr b4 b5 b6) {w' : World} {g : Nat} (hg : w.heap.size ≤ g) (hb : Below w.heap.size w w') (hc : w'.heap[g]? = some (Obj.cells #[.int .i64 (-1)] 3 (0, 0))) : NumJ B N w0 w' l2 l5 true l9 l10 l11 l12 l13 l14 l15 s4 s5 s6 s14 s17 (slOf 1 g) s21 g1 g2 g gr b4 b5 b6 := by
  refine ⟨(h.bel.trans (hb.mono h.hB)), (Nat.le_trans h.hB hb.size), (h.m1.keep (bel_old hb)), (h.m2.keep (bel_old hb)), ?_, (h.mr.keep (bel_old hb)), (h.a4.keep (bel_old hb)), (h.a5.keep (bel_old hb)), (h.a6.keep (bel_old hb)), h.d12, h.d1r, h.d2r, h.d45, h.d46, h.d56, h.o13, h.o14, h.o15⟩
  exact fun _ => ⟨rfl, Nat.le_trans h.hB hg, hc⟩
theorem NumJ.mkr (h : NumJ B N w0 w l2 l5 l6 false l10 l11 l12 l13 l14 l15 s4 s5 s6 s14 s17 s18 s21 g1 g2 gb gr b4 b5 b6) {w' : World} {g : Nat} (hg : w.heap.size ≤ g) (hb : Below w.heap.size w w') (hc : w'.heap[g]? = some (Obj.cells (List.replicate N (intC (-1))).toArray 3 (0, 0))) : NumJ B N w0 w' l2 l5 l6 true l10 l11 l12 l13 l14 l15 s4 s5 s6 s14 s17 s18 (slOf N g) g1 g2 gb g b4 b5 b6 := by
  refine ⟨(h.bel.trans (hb.mono h.hB)), (Nat.le_trans h.hB hb.size), (h.m1.keep (bel_old hb)), (h.m2.keep (bel_old hb)), (h.mb.keep (bel_old hb)), ?_, (h.a4.keep (bel_old hb)), (h.a5.keep (bel_old hb)), ?_, h.d12, (fun hl _ => by have := h.m1.lt hl; omega), (fun hl _ => by have := h.m2.lt hl; omega), h.d45, h.d46, h.d56, h.o13, h.o14, (fun hl => ⟨rfl, (h.o15 hl).2⟩)⟩
  · exact fun _ => ⟨rfl, Nat.le_trans h.hB hg, hc⟩
  · have h2 := h.a6.keep (bel_old hb)
    cases l15 with
    | false => exact h2
    | true => exact absurd (h.o15 rfl).1 (by decide)
theorem NumJ.al4 (h : NumJ B N w0 w l2 l5 l6 l9 false l11 l12 l13 l14 l15 s4 s5 s6 s14 s17 s18 s21 g1 g2 gb gr b4 b5 b6) {w' : World} {g : Nat} (hg : w.heap.size ≤ g) (hb : Below w.heap.size w w') (hc : w'.heap[g]? = some (boxO 26 (.slice none 0 0))) : NumJ B N w0 w' l2 l5 l6 l9 true l11 l12 l13 l14 l15 (ptrOf g) s5 s6 s14 s17 s18 s21 g1 g2 gb gr g b5 b6 := by
  refine ⟨(h.bel.trans (hb.mono h.hB)), (Nat.le_trans h.hB hb.size), (h.m1.keep (bel_old hb)), (h.m2.keep (bel_old hb)), (h.mb.keep (bel_old hb)), (h.mr.keep (bel_old hb)), ?_, (h.a5.keep (bel_old hb)), (h.a6.keep (bel_old hb)), h.d12, h.d1r, h.d2r, (fun _ hl => by have := h.a5.lt hl; omega), (fun _ hl => by have := h.a6.lt hl; omega), h.d56, (fun hl => ⟨(h.o13 hl).1, rfl⟩), h.o14, h.o15⟩
  intro _
  refine ⟨rfl, Nat.le_trans h.hB hg, ?_⟩
  cases l13 with
  | false => exact hc
  | true => exact absurd (h.o13 rfl).2 (by decide)
theorem NumJ.al5 (h : NumJ B N w0 w l2 l5 l6 l9 l10 false l12 l13 l14 l15 s4 s5 s6 s14 s17 s18 s21 g1 g2 gb gr b4 b5 b6) {w' : World} {g : Nat} (hg : w.heap.size ≤ g) (hb : Below w.heap.size w w') (hc : w'.heap[g]? = some (boxO 26 (.slice none 0 0))) : NumJ B N w0 w' l2 l5 l6 l9 l10 true l12 l13 l14 l15 s4 (ptrOf g) s6 s14 s17 s18 s21 g1 g2 gb gr b4 g b6 := by
  refine ⟨(h.bel.trans (hb.mono h.hB)), (Nat.le_trans h.hB hb.size), (h.m1.keep (bel_old hb)), (h.m2.keep (bel_old hb)), (h.mb.keep (bel_old hb)), (h.mr.keep (bel_old hb)), (h.a4.keep (bel_old hb)), ?_, (h.a6.keep (bel_old hb)), h.d12, h.d1r, h.d2r, (fun hl _ => by have := h.a4.lt hl; omega), h.d46, (fun _ hl => by have := h.a6.lt hl; omega), h.o13, (fun hl => ⟨(h.o14 hl).1, rfl⟩), h.o15⟩
  intro _
  refine ⟨rfl, Nat.le_trans h.hB hg, ?_⟩
  cases l14 with
  | false => exact hc
  | true => exact absurd (h.o14 rfl).2 (by decide)
theorem NumJ.al6 (h : NumJ B N w0 w l2 l5 l6 l9 l10 l11 false l13 l14 l15 s4 s5 s6 s14 s17 s18 s21 g1 g2 gb gr b4 b5 b6) {w' : World} {g : Nat} (hg : w.heap.size ≤ g) (hb : Below w.heap.size w w') (hc : w'.heap[g]? = some (boxO 26 (.slice none 0 0))) : NumJ B N w0 w' l2 l5 l6 l9 l10 l11 true l13 l14 l15 s4 s5 (ptrOf g) s14 s17 s18 s21 g1 g2 gb gr b4 b5 g := by
  refine ⟨(h.bel.trans (hb.mono h.hB)), (Nat.le_trans h.hB hb.size), (h.m1.keep (bel_old hb)), (h.m2.keep (bel_old hb)), (h.mb.keep (bel_old hb)), (h.mr.keep (bel_old hb)), (h.a4.keep (bel_old hb)), (h.a5.keep (bel_old hb)), ?_, h.d12, h.d1r, h.d2r, h.d45, (fun hl _ => by have := h.a4.lt hl; omega), (fun hl _ => by have := h.a5.lt hl; omega), h.o13, h.o14, (fun hl => ⟨(h.o15 hl).1, rfl⟩)⟩
  intro _
  refine ⟨rfl, Nat.le_trans h.hB hg, ?_⟩
  cases l15 with
  | false => exact hc
  | true => exact absurd (h.o15 rfl).2 (by decide)
theorem cells_ne {W : World} {a b t u : Nat} {xs ys : Array Value} {f g : Nat × Nat} (h : W.heap[a]? = some (.cells xs t f)) (k : W.heap[b]? = some (.cells ys u g)) (ht : t ≠ u) : a ≠ b := fun e => by
  subst e
  rw [h] at k
  cases k
  exact ht rfl
theorem NumJ.st13 (h : NumJ B N w0 w l2 l5 l6 l9 l10 l11 l12 false l14 l15 s4 s5 s6 s14 s17 s18 s21 g1 g2 gb gr b4 b5 b6) (hs : l2 = true) (hb : l10 = true) : NumJ B N w0 (w.setCell ⟨b4, 0, none⟩ s14) l2 l5 l6 l9 l10 l11 l12 true l14 l15 s4 s5 s6 s14 s17 s18 s21 g1 g2 gb gr b4 b5 b6 := by
  refine ⟨(h.bel.setCell (by exact (h.a4 hb).2.1) _), (by rw [World.size_setCell]; exact h.hB), (h.m1.other _ _ (fun hl => cells_ne (h.m1 hl).2.2 (h.a4 hb).2.2 (by decide))), (h.m2.other _ _ (fun hl => cells_ne (h.m2 hl).2.2 (h.a4 hb).2.2 (by decide))), (h.mb.other _ _ (fun hl => cells_ne (h.mb hl).2.2 (h.a4 hb).2.2 (by decide))), (h.mr.other _ _ (fun hl => cells_ne (h.mr hl).2.2 (h.a4 hb).2.2 (by decide))), ?_, (h.a5.other _ _ (fun hl => (Ne.symm (h.d45 hb hl)))), (h.a6.other _ _ (fun hl => (Ne.symm (h.d46 hb hl)))), h.d12, h.d1r, h.d2r, h.d45, h.d46, h.d56, (fun _ => ⟨hs, hb⟩), h.o14, h.o15⟩
  exact fun _ => ⟨(h.a4 hb).1, (h.a4 hb).2.1, heap_setCell_same w b4 0 _ _ s14 (h.a4 hb).2.2⟩
theorem NumJ.st14 (h : NumJ B N w0 w l2 l5 l6 l9 l10 l11 l12 l13 false l15 s4 s5 s6 s14 s17 s18 s21 g1 g2 gb gr b4 b5 b6) (hs : l5 = true) (hb : l11 = true) : NumJ B N w0 (w.setCell ⟨b5, 0, none⟩ s17) l2 l5 l6 l9 l10 l11 l12 l13 true l15 s4 s5 s6 s14 s17 s18 s21 g1 g2 gb gr b4 b5 b6 := by
  refine ⟨(h.bel.setCell (by exact (h.a5 hb).2.1) _), (by rw [World.size_setCell]; exact h.hB), (h.m1.other _ _ (fun hl => cells_ne (h.m1 hl).2.2 (h.a5 hb).2.2 (by decide))), (h.m2.other _ _ (fun hl => cells_ne (h.m2 hl).2.2 (h.a5 hb).2.2 (by decide))), (h.mb.other _ _ (fun hl => cells_ne (h.mb hl).2.2 (h.a5 hb).2.2 (by decide))), (h.mr.other _ _ (fun hl => cells_ne (h.mr hl).2.2 (h.a5 hb).2.2 (by decide))), (h.a4.other _ _ (fun hl => (h.d45 hl hb))), ?_, (h.a6.other _ _ (fun hl => (Ne.symm (h.d56 hb hl)))), h.d12, h.d1r, h.d2r, h.d45, h.d46, h.d56, h.o13, (fun _ => ⟨hs, hb⟩), h.o15⟩
  exact fun _ => ⟨(h.a5 hb).1, (h.a5 hb).2.1, heap_setCell_same w b5 0 _ _ s17 (h.a5 hb).2.2⟩
theorem NumJ.st15 (h : NumJ B N w0 w l2 l5 l6 l9 l10 l11 l12 l13 l14 false s4 s5 s6 s14 s17 s18 s21 g1 g2 gb gr b4 b5 b6) (hs : l9 = true) (hb : l12 = true) : NumJ B N w0 (w.setCell ⟨b6, 0, none⟩ s21) l2 l5 l6 l9 l10 l11 l12 l13 l14 true s4 s5 s6 s14 s17 s18 s21 g1 g2 gb gr b4 b5 b6 := by
  refine ⟨(h.bel.setCell (by exact (h.a6 hb).2.1) _), (by rw [World.size_setCell]; exact h.hB), (h.m1.other _ _ (fun hl => cells_ne (h.m1 hl).2.2 (h.a6 hb).2.2 (by decide))), (h.m2.other _ _ (fun hl => cells_ne (h.m2 hl).2.2 (h.a6 hb).2.2 (by decide))), (h.mb.other _ _ (fun hl => cells_ne (h.mb hl).2.2 (h.a6 hb).2.2 (by decide))), (h.mr.other _ _ (fun hl => cells_ne (h.mr hl).2.2 (h.a6 hb).2.2 (by decide))), (h.a4.other _ _ (fun hl => (h.d46 hl hb))), (h.a5.other _ _ (fun hl => (h.d56 hl hb))), ?_, h.d12, h.d1r, h.d2r, h.d45, h.d46, h.d56, h.o13, h.o14, (fun _ => ⟨hs, hb⟩)⟩
  exact fun _ => ⟨(h.a6 hb).1, (h.a6 hb).2.1, heap_setCell_same w b6 0 _ _ s21 (h.a6 hb).2.2⟩
end

set_option maxRecDepth 100000 in
set_option maxHeartbeats 4000000 in
theorem number_any (v : Value) (S : List (List Nat)) (w : World) (hR : RowsOf w.heap.size v S w) (hS : S.length ≤ 1000000) (hSl : ∀ a, (S.getD a []).length ≤ 1000000) (hSk : ∀ a, ∀ k ∈ S.getD a [], k < S.length) :
    Calls Try.prog 67 #[v] w fun e w' => ∃ gc, e = .returned (.tuple #[.slice (some ⟨gc, 0, none⟩) S.length S.length, natC (tarjan S).ct]) ∧ w.heap.size ≤ gc ∧ Ints w' gc (tarjan S).co ∧ Below w.heap.size w w' := by
  have hv : ∃ a c, v = .slice a S.length c := by
    rcases hR with ⟨rfl, a, c, rfl⟩ | ⟨b, off, cap, rfl, _⟩
    · exact ⟨a, c, rfl⟩
    · exact ⟨_, cap, rfl⟩
  obtain ⟨va, vc, rfl⟩ := hv
  have hmk := make_ints S.length (by omega)
  have HR := Lib.hid hR
  have HSK := Lib.hid hSk
  have HSL := Lib.hid hSl
  clear hR hSl hSk
  go_enter Try.func67, Try.ntmps67
  go_wp2_with fail
  have hb1 : Boxed (w.alloc (.cells #[.slice va S.length vc] 53)) w.heap.size 53 (.slice va S.length vc) := Boxed.new _ _ _
  have hbw : Below w.heap.size w (w.alloc (.cells #[.slice va S.length vc] 53)) := bel_alloc _ _
  have hs1 : (w.alloc (.cells #[.slice va S.length vc] 53)).heap.size = w.heap.size + 1 := by simp
  generalize w.alloc (.cells #[.slice va S.length vc] 53) = w1 at *
  have hc1 := hb1.cell
  refine region_plainP (S := fun W => W.cell? ⟨w.heap.size, 0, none⟩ = some (.slice va S.length vc)) (by kernel_rfl) ?_
  have hcS : (fun W : World => W.cell? ⟨w.heap.size, 0, none⟩ = some (.slice va S.length vc)) w1.drew := hc1
  (refine wpAnyH_take (i := 0) (v := ?_) rfl (by kernel_rfl) (by kernel_rfl) (by kernel_rfl) (fun _ _ _ h => h) (Or.inl ⟨by rfl, ?_⟩) (by assumption) ?_; rotate_left; (· (intro w hSw; have c0 := hSw; go_simp; try with_reducible rfl)); (try simp only [List.getElem_toArray, List.getElem_cons_zero, List.getElem_cons_succ, Act.put, List.setIfInBounds_toArray, List.set_cons_zero, List.set_cons_succ]))
  (refine wpAnyH_take (i := 1) (v := ?_) rfl (by kernel_rfl) (by kernel_rfl) (by kernel_rfl) (fun _ _ _ h => h) (Or.inl ⟨by rfl, ?_⟩) (by assumption) ?_; rotate_left; (· (intro w hSw; have c0 := hSw; go_simp; try with_reducible rfl)); (try simp only [List.getElem_toArray, List.getElem_cons_zero, List.getElem_cons_succ, Act.put, List.setIfInBounds_toArray, List.set_cons_zero, List.set_cons_succ]))
  (refine wpAnyH_take (i := 3) (v := ?_) rfl (by kernel_rfl) (by kernel_rfl) (by kernel_rfl) (fun _ _ _ h => h) (Or.inl ⟨by rfl, ?_⟩) (by assumption) ?_; rotate_left; (· (intro w hSw; have c0 := hSw; go_simp; try with_reducible rfl)); (try simp only [List.getElem_toArray, List.getElem_cons_zero, List.getElem_cons_succ, Act.put, List.setIfInBounds_toArray, List.set_cons_zero, List.set_cons_succ]))
  (refine wpAnyH_take (i := 4) (v := ?_) rfl (by kernel_rfl) (by kernel_rfl) (by kernel_rfl) (fun _ _ _ h => h) (Or.inl ⟨by rfl, ?_⟩) (by assumption) ?_; rotate_left; (· (intro w hSw; have c0 := hSw; go_simp; try with_reducible rfl)); (try simp only [List.getElem_toArray, List.getElem_cons_zero, List.getElem_cons_succ, Act.put, List.setIfInBounds_toArray, List.set_cons_zero, List.set_cons_succ]))
  (refine wpAnyH_take (i := 7) (v := ?_) rfl (by kernel_rfl) (by kernel_rfl) (by kernel_rfl) (fun _ _ _ h => h) (Or.inl ⟨by rfl, ?_⟩) (by assumption) ?_; rotate_left; (· (intro w hSw; have c0 := hSw; go_simp; try with_reducible rfl)); (try simp only [List.getElem_toArray, List.getElem_cons_zero, List.getElem_cons_succ, Act.put, List.setIfInBounds_toArray, List.set_cons_zero, List.set_cons_succ]))
  (refine wpAnyH_take (i := 8) (v := ?_) rfl (by kernel_rfl) (by kernel_rfl) (by kernel_rfl) (fun _ _ _ h => h) (Or.inl ⟨by rfl, ?_⟩) (by assumption) ?_; rotate_left; (· (intro w hSw; have c0 := hSw; go_simp; try with_reducible rfl)); (try simp only [List.getElem_toArray, List.getElem_cons_zero, List.getElem_cons_succ, Act.put, List.setIfInBounds_toArray, List.set_cons_zero, List.set_cons_succ]))
  refine wpAnyH_inv (fun listed a W => ∃ (l2 l5 l6 l9 l10 l11 l12 l13 l14 l15 : Bool) (s4 s5 s6 s14 s17 s18 s21 : Value) (g1 g2 gb gr b4 b5 b6 : Nat), listed = #[true, true, l2, true, true, l5, l6, true, true, l9, l10, l11, l12, l13, l14, l15] ∧ a = { tmps := #[.slice va S.length vc, .pointer (some ⟨w.heap.size, 0, none⟩), .slice none 0 0, .int .i64 0, s4, s5, s6, undef, undef, undef, undef, undef, .slice va S.length vc, .int .i64 S.length, s14, .slice va S.length vc, .int .i64 S.length, s17, s18, .slice va S.length vc, .int .i64 S.length, s21, undef, undef, undef, undef, undef, undef, undef, undef, undef, undef, undef, undef, undef, undef, undef, undef, undef], defers := [] } ∧ NumJ (w.heap.size + 1) S.length w1 W l2 l5 l6 l9 l10 l11 l12 l13 l14 l15 s4 s5 s6 s14 s17 s18 s21 g1 g2 gb gr b4 b5 b6) ?step ?fin _ _ _ _ (by decide) ?start
  case start => exact ⟨_, _, _, _, _, _, _, _, _, _, _, _, _, _, _, _, _, _, _, _, _, _, _, _, rfl, rfl, NumJ.start _ _ _ _ (Below.refl _ _).drew (show w.heap.size + 1 ≤ w1.heap.size by omega)⟩
  case fin =>
    rintro listed a W ⟨l2, l5, l6, l9, l10, l11, l12, l13, l14, l15, s4, s5, s6, s14, s17, s18, s21, g1, g2, gb, gr, b4, b5, b6, rfl, rfl, hJ⟩ hr
    have q2 := ready_nil hr 2 (by kernel_rfl)
    obtain rfl : l2 = true := q2
    have q5 := ready_nil hr 5 (by kernel_rfl)
    obtain rfl : l5 = true := q5
    have q6 := ready_nil hr 6 (by kernel_rfl)
    obtain rfl : l6 = true := q6
    have q9 := ready_nil hr 9 (by kernel_rfl)
    obtain rfl : l9 = true := q9
    have q10 := ready_nil hr 10 (by kernel_rfl)
    obtain rfl : l10 = true := q10
    have q11 := ready_nil hr 11 (by kernel_rfl)
    obtain rfl : l11 = true := q11
    have q12 := ready_nil hr 12 (by kernel_rfl)
    obtain rfl : l12 = true := q12
    have q13 := ready_nil hr 13 (by kernel_rfl)
    obtain rfl : l13 = true := q13
    have q14 := ready_nil hr 14 (by kernel_rfl)
    obtain rfl : l14 = true := q14
    have q15 := ready_nil hr 15 (by kernel_rfl)
    obtain rfl : l15 = true := q15
    obtain ⟨es, hg1, hc1g⟩ := hJ.m1 rfl
    subst es
    obtain ⟨es, hg2, hc2g⟩ := hJ.m2 rfl
    subst es
    obtain ⟨es, _, _⟩ := hJ.mb rfl
    subst es
    obtain ⟨es, hgr, hcrg⟩ := hJ.mr rfl
    subst es
    obtain ⟨es, hb4, hc4⟩ := hJ.a4 rfl
    subst es
    obtain ⟨es, hb5, hc5⟩ := hJ.a5 rfl
    subst es
    obtain ⟨es, hb6, hc6⟩ := hJ.a6 rfl
    subst es
    have hc4' : Boxed W b4 26 (slOf S.length g1) := hc4
    have hc5' : Boxed W b5 26 (slOf S.length g2) := hc5
    have hc6' : Boxed W b6 26 (slOf S.length gr) := hc6
    have d1 := hJ.d12 rfl rfl
    have d2 := hJ.d1r rfl rfl
    have d3 := hJ.d2r rfl rfl
    have d4 := hJ.d45 rfl rfl
    have d5 := hJ.d46 rfl rfl
    have d6 := hJ.d56 rfl rfl
    have hbel := hJ.bel
    have hsW := hbel.size
    have hboxg : Boxed W w.heap.size 53 (.slice va S.length vc) := (hbel.block _ (by omega)).trans hb1
    have HJ := Lib.hid hJ
    clear hJ hc4 hc5 hc6 hr
    have hcg := hboxg.cell
    have hcg4 : ((((W.alloc (.cells #[.slice none 0 0] 26)).alloc (.cells #[.int .i64 1] 3)).alloc (.cells #[.int .i64 0] 3)).alloc (.cells #[.func (.func 73) #[] #[.pointer (some ⟨W.heap.size + 1, 0, none⟩), ptrOf b4, ptrOf b5, .pointer (some ⟨W.heap.size, 0, none⟩), .pointer (some ⟨w.heap.size, 0, none⟩), .pointer (some ⟨W.heap.size + 1 + 1 + 1, 0, none⟩), ptrOf b6, .pointer (some ⟨W.heap.size + 1 + 1, 0, none⟩)]] 56)).cell? ⟨w.heap.size, 0, none⟩ = some (.slice va S.length vc) := cellA _ (cellA _ (cellA _ (cellA _ hcg)))
    refine NoPanic.normal ?_
    go_wp2_with fail
    clear hcg4 hcg
    have z1 : (W.alloc (.cells #[.slice none 0 0] 26)).heap.size = W.heap.size + 1 := by simp
    have z2 : ((W.alloc (.cells #[.slice none 0 0] 26)).alloc (.cells #[.int .i64 1] 3)).heap.size = W.heap.size + 1 + 1 := by simp
    have z3 : (((W.alloc (.cells #[.slice none 0 0] 26)).alloc (.cells #[.int .i64 1] 3)).alloc (.cells #[.int .i64 0] 3)).heap.size = W.heap.size + 1 + 1 + 1 := by simp
    obtain ⟨W3, hW3⟩ : ∃ W3, W3 = ((((W.alloc (.cells #[.slice none 0 0] 26)).alloc (.cells #[.int .i64 1] 3)).alloc (.cells #[.int .i64 0] 3)).alloc (.cells #[.func (.func 73) #[] #[.pointer (some ⟨W.heap.size + 1, 0, none⟩), ptrOf b4, ptrOf b5, .pointer (some ⟨W.heap.size, 0, none⟩), .pointer (some ⟨w.heap.size, 0, none⟩), .pointer (some ⟨W.heap.size + 1 + 1 + 1, 0, none⟩), ptrOf b6, .pointer (some ⟨W.heap.size + 1 + 1, 0, none⟩)]] 56)) := ⟨_, rfl⟩
    have hs3 : W3.heap.size = W.heap.size + 4 := by rw [hW3]; simp
    have hbl3 : Below W.heap.size W W3 := by rw [hW3]; exact ((((Below.refl _ _).alloc (Nat.le_refl _) _).alloc (by simp) _).alloc (by simp; omega) _).alloc (by simp; omega) _
    have k3 : ∀ k, k < W.heap.size → W3.heap[k]? = W.heap[k]? := hbl3.block
    have p0 : Boxed W3 W.heap.size 26 (.slice none 0 0) := by rw [hW3]; exact (((Boxed.new W _ _).alloc _).alloc _).alloc _
    have p1 : Boxed W3 (W.heap.size + 1) 3 (.int .i64 1) := by
      have := ((Boxed.new (W.alloc (.cells #[.slice none 0 0] 26)) 3 (.int .i64 1)).alloc (.cells #[.int .i64 0] 3)).alloc (.cells #[.func (.func 73) #[] #[.pointer (some ⟨W.heap.size + 1, 0, none⟩), ptrOf b4, ptrOf b5, .pointer (some ⟨W.heap.size, 0, none⟩), .pointer (some ⟨w.heap.size, 0, none⟩), .pointer (some ⟨W.heap.size + 1 + 1 + 1, 0, none⟩), ptrOf b6, .pointer (some ⟨W.heap.size + 1 + 1, 0, none⟩)]] 56)
      rw [z1, ← hW3] at this
      exact this
    have p2 : Boxed W3 (W.heap.size + 1 + 1) 3 (.int .i64 0) := by
      have := (Boxed.new ((W.alloc (.cells #[.slice none 0 0] 26)).alloc (.cells #[.int .i64 1] 3)) 3 (.int .i64 0)).alloc (.cells #[.func (.func 73) #[] #[.pointer (some ⟨W.heap.size + 1, 0, none⟩), ptrOf b4, ptrOf b5, .pointer (some ⟨W.heap.size, 0, none⟩), .pointer (some ⟨w.heap.size, 0, none⟩), .pointer (some ⟨W.heap.size + 1 + 1 + 1, 0, none⟩), ptrOf b6, .pointer (some ⟨W.heap.size + 1 + 1, 0, none⟩)]] 56)
      rw [z2, ← hW3] at this
      exact this
    have p3 : Boxed W3 (W.heap.size + 1 + 1 + 1) 56 (.func (.func 73) #[] #[.pointer (some ⟨W.heap.size + 1, 0, none⟩), ptrOf b4, ptrOf b5, .pointer (some ⟨W.heap.size, 0, none⟩), .pointer (some ⟨w.heap.size, 0, none⟩), .pointer (some ⟨W.heap.size + 1 + 1 + 1, 0, none⟩), ptrOf b6, .pointer (some ⟨W.heap.size + 1 + 1, 0, none⟩)]) := by
      have := Boxed.new (((W.alloc (.cells #[.slice none 0 0] 26)).alloc (.cells #[.int .i64 1] 3)).alloc (.cells #[.int .i64 0] 3)) 56 (.func (.func 73) #[] #[.pointer (some ⟨W.heap.size + 1, 0, none⟩), ptrOf b4, ptrOf b5, .pointer (some ⟨W.heap.size, 0, none⟩), .pointer (some ⟨w.heap.size, 0, none⟩), .pointer (some ⟨W.heap.size + 1 + 1 + 1, 0, none⟩), ptrOf b6, .pointer (some ⟨W.heap.size + 1 + 1, 0, none⟩)])
      rw [z3, ← hW3] at this
      exact this
    rw [← hW3]
    clear hW3 z1 z2 z3
    obtain ⟨p, hp⟩ : ∃ p : TP, p = ⟨W.heap.size + 1, b4, b5, W.heap.size, w.heap.size, W.heap.size + 1 + 1 + 1, b6, W.heap.size + 1 + 1, g1, g2, gr⟩ := ⟨_, rfl⟩
    have l4 := hc4'.lt
    have l5 := hc5'.lt
    have l6 := hc6'.lt
    have lg1 := (Array.getElem?_eq_some_iff.1 hc1g).1
    have lg2 := (Array.getElem?_eq_some_iff.1 hc2g).1
    have lgr := (Array.getElem?_eq_some_iff.1 hcrg).1
    have hok : TOk w.heap.size p := by
      have e1 : g1 ≠ b4 := cells_ne hc1g hc4' (by decide)
      have e2 : g1 ≠ b5 := cells_ne hc1g hc5' (by decide)
      have e3 : g1 ≠ b6 := cells_ne hc1g hc6' (by decide)
      have e4 : g2 ≠ b4 := cells_ne hc2g hc4' (by decide)
      have e5 : g2 ≠ b5 := cells_ne hc2g hc5' (by decide)
      have e6 : g2 ≠ b6 := cells_ne hc2g hc6' (by decide)
      have e7 : gr ≠ b4 := cells_ne hcrg hc4' (by decide)
      have e8 : gr ≠ b5 := cells_ne hcrg hc5' (by decide)
      have e9 : gr ≠ b6 := cells_ne hcrg hc6' (by decide)
      subst hp
      refine ⟨?_, ?_⟩
      · simp only [TP.blocks, List.nodup_cons, List.mem_cons, List.not_mem_nil, or_false, not_or, not_false_eq_true, List.nodup_nil, and_true]
        refine ⟨⟨?_, ?_, ?_, ?_, ?_, ?_, ?_, ?_, ?_, ?_⟩, ⟨?_, ?_, ?_, ?_, ?_, ?_, ?_, ?_, ?_⟩, ⟨?_, ?_, ?_, ?_, ?_, ?_, ?_, ?_⟩, ⟨?_, ?_, ?_, ?_, ?_, ?_, ?_⟩, ⟨?_, ?_, ?_, ?_, ?_, ?_⟩, ⟨?_, ?_, ?_, ?_, ?_⟩, ⟨?_, ?_, ?_, ?_⟩, ⟨?_, ?_, ?_⟩, ⟨?_, ?_⟩, ?_⟩ <;> first | assumption | (apply Ne.symm; assumption) | omega
      · intro b hb
        simp only [TP.blocks, List.mem_cons, List.not_mem_nil, or_false] at hb
        rcases hb with rfl | rfl | rfl | rfl | rfl | rfl | rfl | rfl | rfl | rfl | rfl <;> omega
    have hB3 : Below w.heap.size w W3 := (hbw.trans (hbel.mono (by omega))).trans (hbl3.mono (by omega))
    have htw : TarW W3 w.heap.size p (.slice va S.length vc) S (tinit S.length) (.slice none 0 0) := by
      subst hp
      refine ⟨?_, World.ownsRow_nil _ _ _ _, fun j hj => by simp [Value.ownBlock] at hj, HR.out.below hB3 (Nat.le_refl _)⟩
      intro q hq
      simp only [tlay, List.mem_cons, List.not_mem_nil, or_false] at hq
      rcases hq with rfl | rfl | rfl | rfl | rfl | rfl | rfl | rfl | rfl | rfl | rfl
      · exact p1
      · exact (k3 _ l4).trans hc4'
      · exact (k3 _ l5).trans hc5'
      · exact p0
      · exact (k3 _ (by omega)).trans hboxg
      · exact p3
      · exact (k3 _ l6).trans hc6'
      · exact p2
      · refine (k3 _ lg1).trans (hc1g.trans ?_)
        simp [tinit]
      · refine (k3 _ lg2).trans (hc2g.trans ?_)
        simp [tinit]
      · refine (k3 _ lgr).trans (hcrg.trans ?_)
        simp [tinit]
    have HTW := Lib.hid htw
    have HOK := Lib.hid hok
    have HB3 := Lib.hid hB3
    have HGR : Hid (p.gc = gr ∧ w.heap.size ≤ gr) := Lib.hid ⟨by rw [hp], by omega⟩
    have HPE := Lib.hid hp
    clear htw hok hB3 hp hbl3 k3 p0 p1 p2 p3 hc4' hc5' hc6' hc1g hc2g hcrg hboxg hmk
    go_loopw [25] (fun q wr => ∃ (k : Nat) (sv : Value), k ≤ S.length ∧ q = .int .i64 k ∧ Hid (TarW wr w.heap.size p (.slice va S.length vc) S (trun S k) sv) ∧ Hid (TFr p W3 wr (.slice none 0 0) sv)) (fun q _ => S.length - (intOf q).toNat)
    case atStart => exact ⟨0, .slice none 0 0, by omega, rfl, HTW, Lib.hid (TFr.refl _ _ _)⟩
    case round =>
      obtain ⟨HTW0⟩ : Nonempty (Hid (TarW W3 w.heap.size p (.slice va S.length vc) S (tinit S.length) (.slice none 0 0))) := ⟨HTW⟩
      clear HTW
      obtain ⟨k, sv, hk, rfl, HT, HF⟩ := hrel
      have hszr := HF.out.size
      have hti := tarj_inv HSK.out k hk
      have hcb6 : wr.cell? ⟨b6, 0, none⟩ = some (.slice (some ⟨gr, 0, none⟩) S.length S.length) := by
        have := Boxed.cell (HT.out.L.get 6 rfl)
        rw [HPE.out] at this
        exact this
      have hcbk : wr.cell? ⟨W.heap.size + 1 + 1, 0, none⟩ = some (natC (trun S k).ct) := by
        have := Boxed.cell (HT.out.L.get 7 rfl)
        rw [HPE.out] at this
        exact this
      by_cases hlt : k < S.length
      · have hk0 : (0 : Int) ≤ (k : Int) := by omega
        have hk1 : (k : Int) < (S.length : Int) := by omega
        have hcb4 : wr.cell? ⟨b4, 0, none⟩ = some (.slice (some ⟨g1, 0, none⟩) S.length S.length) := by
          have := Boxed.cell (HT.out.L.get 1 rfl)
          rw [HPE.out] at this
          exact this
        have hcik : wr.cell? ⟨g1, k, none⟩ = some (intC (gD (trun S k).ix k)) := by
          have := Ints.cell (HT.out.L.get 8 rfl) k _ (gD_get (by rw [hti.li]; exact hlt))
          rw [HPE.out] at this
          exact this
        have HTI := Lib.hid hti
        clear hti
        by_cases hz : gD (trun S k).ix k = 0
        · have hcall : Calls Try.prog 73 #[natC k, .pointer (some ⟨W.heap.size + 1, 0, none⟩), ptrOf b4, ptrOf b5, .pointer (some ⟨W.heap.size, 0, none⟩), .pointer (some ⟨w.heap.size, 0, none⟩), .pointer (some ⟨W.heap.size + 1 + 1 + 1, 0, none⟩), ptrOf b6, .pointer (some ⟨W.heap.size + 1 + 1, 0, none⟩)] wr fun e W' =>
              e = .returned (.tuple #[]) ∧ ∃ sv', TarW W' w.heap.size p (.slice va S.length vc) S (visitT S S.length (trun S k) k) sv' ∧ TFr p wr W' sv sv' := by
            have := tvisit_any w.heap.size p (.slice va S.length vc) S HOK.out hS HSL.out HSK.out S.length (trun S k) sv k wr (by have := zeros_le (trun S k).ix; rw [HTI.out.li] at this; exact this) HTI.out hlt hz (by omega) HT.out
            rw [HPE.out] at this ⊢
            exact this
          have hcv : wr.cell? ⟨W.heap.size + 1 + 1 + 1, 0, none⟩ = some (.func (.func 73) #[] #[.pointer (some ⟨W.heap.size + 1, 0, none⟩), ptrOf b4, ptrOf b5, .pointer (some ⟨W.heap.size, 0, none⟩), .pointer (some ⟨w.heap.size, 0, none⟩), .pointer (some ⟨W.heap.size + 1 + 1 + 1, 0, none⟩), ptrOf b6, .pointer (some ⟨W.heap.size + 1 + 1, 0, none⟩)]) := by
            have := Boxed.cell (HT.out.L.get 5 rfl)
            rw [HPE.out] at this
            exact this
          have HTS : Hid (trun S (k + 1) = visitT S S.length (trun S k) k) := Lib.hid (by rw [trun_succ]; unfold tround; rw [if_pos hz])
          rw [hz] at hcik
          have HCALL := Lib.hid hcall
          clear hcall
          go_wp2_with fail
          refine HCALL.out.mono ?_
          rintro e w4 ⟨rfl, sv4, hT4, hF4⟩
          go_wp2_with fail
          go_roundw
          case rel => exact ⟨k + 1, sv4, by omega, by go_num, Lib.hid (by rw [HTS.out]; exact hT4), Lib.hid (HF.out.trans hF4)⟩
          case measure => simp [intOf]; omega
        · have HTS : Hid (trun S (k + 1) = trun S k) := Lib.hid (by rw [trun_succ]; unfold tround; rw [if_neg hz])
          obtain ⟨xi, hxi⟩ : ∃ xi, xi = gD (trun S k).ix k := ⟨_, rfl⟩
          rw [← hxi] at hcik hz
          clear hxi
          have hzd : decide (xi = 0) = false := decide_eq_false hz
          go_wp2_with fail
          go_roundw
          case rel => exact ⟨k + 1, sv, by omega, by go_num, Lib.hid (by rw [HTS.out]; exact HT.out), HF⟩
          case measure => simp [intOf]; omega
      · have hkk : k = S.length := by omega
        subst hkk
        go_wp2_with fail
        go_quiet (fail)
        go_wp2_with fail
        refine bodyPost_ret (v := .tuple #[.slice (some ⟨gr, 0, none⟩) S.length S.length, natC (trun S S.length).ct]) (by simp [results, Try.results67, go_sem]) rfl ?_
        have hfin := HF.out.below HOK.out (by omega) HTW0.out
        refine ⟨gr, rfl, HGR.out.2, ?_, HB3.out.trans ⟨hfin.os, hfin.tape, hfin.output, hfin.size, hfin.block⟩⟩
        have := HT.out.L.get 10 rfl
        rw [HPE.out] at this
        exact this
  case step =>
    rintro listed a W i ⟨l2, l5, l6, l9, l10, l11, l12, l13, l14, l15, s4, s5, s6, s14, s17, s18, s21, g1, g2, gb, gr, b4, b5, b6, rfl, rfl, hJ⟩ hi
    obtain ⟨h1, h2, h3⟩ := ready_spec hi
    have hi16 : i < 16 := h1
    have hSW : W.cell? ⟨w.heap.size, 0, none⟩ = some (.slice va S.length vc) := (World.cell?_of_block (hJ.bel.block w.heap.size (by omega))).trans hc1
    have hi : i = 0 ∨ i = 1 ∨ i = 2 ∨ i = 3 ∨ i = 4 ∨ i = 5 ∨ i = 6 ∨ i = 7 ∨ i = 8 ∨ i = 9 ∨ i = 10 ∨ i = 11 ∨ i = 12 ∨ i = 13 ∨ i = 14 ∨ i = 15 := by omega
    have HSW : Hid (∀ W' : World, Below (w.heap.size + 1) w1 W' → W'.cell? ⟨w.heap.size, 0, none⟩ = some (.slice va S.length vc)) := Lib.hid fun W' h => (World.cell?_of_block (h.block w.heap.size (by omega))).trans hc1
    clear h1
    rcases hi with rfl | rfl | rfl | rfl | rfl | rfl | rfl | rfl | rfl | rfl | rfl | rfl | rfl | rfl | rfl | rfl
    · cases h2
    · cases h2
    · obtain rfl : l2 = false := h2
      refine wpOp_hid rfl (fun K hK => ?_)
      have HJ := Lib.hid hJ
      clear h3 hJ
      go_simp
      have h := HJ.out.mk1 (Nat.le_refl _) (bel_alloc W (.cells (Array.replicate S.length (.int .i64 0)) 3)) (World.alloc_heap_new W _)
      exact hK.out _ _ ⟨HSW.out _ h.bel, true, l5, l6, l9, l10, l11, l12, l13, l14, l15, _, _, _, _, _, _, _, _, _, _, _, _, _, _, rfl, rfl, h⟩
    · cases h2
    · cases h2
    · obtain rfl : l5 = false := h2
      refine wpOp_hid rfl (fun K hK => ?_)
      have HJ := Lib.hid hJ
      clear h3 hJ
      go_simp
      have h := HJ.out.mk2 (Nat.le_refl _) (bel_alloc W (.cells (Array.replicate S.length (.int .i64 0)) 3)) (World.alloc_heap_new W _)
      exact hK.out _ _ ⟨HSW.out _ h.bel, l2, true, l6, l9, l10, l11, l12, l13, l14, l15, _, _, _, _, _, _, _, _, _, _, _, _, _, _, rfl, rfl, h⟩
    · obtain rfl : l6 = false := h2
      refine wpOp_hid rfl (fun K hK => ?_)
      have HJ := Lib.hid hJ
      clear h3 hJ
      go_simp
      have h := HJ.out.mkb (Nat.le_refl _) (bel_alloc W (.cells #[.int .i64 (-1)] 3)) (World.alloc_heap_new W _)
      exact hK.out _ _ ⟨HSW.out _ h.bel, l2, l5, true, l9, l10, l11, l12, l13, l14, l15, _, _, _, _, _, _, _, _, _, _, _, _, _, _, rfl, rfl, h⟩
    · cases h2
    · cases h2
    · obtain rfl : l9 = false := h2
      obtain rfl : l6 = true := by
        cases l6 with
        | true => rfl
        | false => exact Bool.noConfusion (h3.symm.trans (by kernel_rfl : _ = false))
      obtain ⟨e6, hb6, hc6⟩ := hJ.mb rfl
      have hrp := Repeat_any gb 1 S.length (-1) W hS (cell_of_row _ _ 0 _ _ _ hc6) (Array.getElem?_eq_some_iff.1 hc6).1
      subst e6
      refine wpOp_hid rfl (fun K hK => ?_)
      have HJ := Lib.hid hJ
      have HRP := Lib.hid hrp
      clear h3 hJ hrp
      go_simp
      refine HRP.out.mono ?_
      rintro e W' ⟨g, rfl, hg, hcg, hbg⟩
      have h := HJ.out.mkr hg hbg hcg
      exact hK.out _ _ ⟨HSW.out _ h.bel, l2, l5, true, true, l10, l11, l12, l13, l14, l15, _, _, _, _, _, _, _, _, _, _, _, _, _, _, rfl, rfl, h⟩
    · obtain rfl : l10 = false := h2
      refine wpOp_hid rfl (fun K hK => ?_)
      have HJ := Lib.hid hJ
      clear h3 hJ
      go_simp
      have h := HJ.out.al4 (Nat.le_refl _) (bel_alloc W (.cells #[.slice none 0 0] 26)) (World.alloc_heap_new W _)
      exact hK.out _ _ ⟨HSW.out _ h.bel, l2, l5, l6, l9, true, l11, l12, l13, l14, l15, _, _, _, _, _, _, _, _, _, _, _, _, _, _, rfl, rfl, h⟩
    · obtain rfl : l11 = false := h2
      refine wpOp_hid rfl (fun K hK => ?_)
      have HJ := Lib.hid hJ
      clear h3 hJ
      go_simp
      have h := HJ.out.al5 (Nat.le_refl _) (bel_alloc W (.cells #[.slice none 0 0] 26)) (World.alloc_heap_new W _)
      exact hK.out _ _ ⟨HSW.out _ h.bel, l2, l5, l6, l9, l10, true, l12, l13, l14, l15, _, _, _, _, _, _, _, _, _, _, _, _, _, _, rfl, rfl, h⟩
    · obtain rfl : l12 = false := h2
      refine wpOp_hid rfl (fun K hK => ?_)
      have HJ := Lib.hid hJ
      clear h3 hJ
      go_simp
      have h := HJ.out.al6 (Nat.le_refl _) (bel_alloc W (.cells #[.slice none 0 0] 26)) (World.alloc_heap_new W _)
      exact hK.out _ _ ⟨HSW.out _ h.bel, l2, l5, l6, l9, l10, l11, true, l13, l14, l15, _, _, _, _, _, _, _, _, _, _, _, _, _, _, rfl, rfl, h⟩
    · obtain rfl : l13 = false := h2
      obtain rfl : l10 = true := by
        cases l10 with
        | true => rfl
        | false => exact Bool.noConfusion (h3.symm.trans (by kernel_rfl : _ = false))
      obtain rfl : l2 = true := by
        cases l2 with
        | true => rfl
        | false => exact Bool.noConfusion (h3.symm.trans (by kernel_rfl : _ = false))
      obtain ⟨ea, hba, hca⟩ := hJ.a4 rfl
      obtain ⟨es, hbs, hcs⟩ := hJ.m1 rfl
      have hcell := Boxed.cell hca
      have hfroz := Boxed.frozen hca
      have HJ := Lib.hid hJ
      subst ea
      subst es
      refine wpOp_hid rfl (fun K hK => ?_)
      clear h3 hJ hca hcs
      go_simp
      have h := HJ.out.st13 rfl rfl
      exact hK.out _ _ ⟨HSW.out _ h.bel, true, l5, l6, l9, true, l11, l12, true, l14, l15, _, _, _, _, _, _, _, _, _, _, _, _, _, _, rfl, rfl, h⟩
    · obtain rfl : l14 = false := h2
      obtain rfl : l11 = true := by
        cases l11 with
        | true => rfl
        | false => exact Bool.noConfusion (h3.symm.trans (by kernel_rfl : _ = false))
      obtain rfl : l5 = true := by
        cases l5 with
        | true => rfl
        | false => exact Bool.noConfusion (h3.symm.trans (by kernel_rfl : _ = false))
      obtain ⟨ea, hba, hca⟩ := hJ.a5 rfl
      obtain ⟨es, hbs, hcs⟩ := hJ.m2 rfl
      have hcell := Boxed.cell hca
      have hfroz := Boxed.frozen hca
      have HJ := Lib.hid hJ
      subst ea
      subst es
      refine wpOp_hid rfl (fun K hK => ?_)
      clear h3 hJ hca hcs
      go_simp
      have h := HJ.out.st14 rfl rfl
      exact hK.out _ _ ⟨HSW.out _ h.bel, l2, true, l6, l9, l10, true, l12, l13, true, l15, _, _, _, _, _, _, _, _, _, _, _, _, _, _, rfl, rfl, h⟩
    · obtain rfl : l15 = false := h2
      obtain rfl : l12 = true := by
        cases l12 with
        | true => rfl
        | false => exact Bool.noConfusion (h3.symm.trans (by kernel_rfl : _ = false))
      obtain rfl : l9 = true := by
        cases l9 with
        | true => rfl
        | false => exact Bool.noConfusion (h3.symm.trans (by kernel_rfl : _ = false))
      obtain ⟨ea, hba, hca⟩ := hJ.a6 rfl
      obtain ⟨es, hbs, hcs⟩ := hJ.mr rfl
      have hcell := Boxed.cell hca
      have hfroz := Boxed.frozen hca
      have HJ := Lib.hid hJ
      subst ea
      subst es
      refine wpOp_hid rfl (fun K hK => ?_)
      clear h3 hJ hca hcs
      go_simp
      have h := HJ.out.st15 rfl rfl
      exact hK.out _ _ ⟨HSW.out _ h.bel, l2, l5, l6, true, l10, l11, true, l13, l14, true, _, _, _, _, _, _, _, _, _, _, _, _, _, _, rfl, rfl, h⟩
end Go.Proofs.Ytlcgbkeggmaljaa
