/- Some blocks of memory, each with what it holds, as one list. -/
import Derived.Test.YtlcgbkeggmaljaaGCycle
import Derived.Test.YtlcgbkeggmaljaaGPlainTarj
namespace Go.Proofs.Ytlcgbkeggmaljaa
set_option linter.unusedVariables false
set_option linter.unusedSimpArgs false
open Go Go.RowKit

/-- what the blocks hold. -/
def Lay (W : World) (L : List (Nat × Obj)) : Prop := ∀ p ∈ L, W.heap[p.1]? = some p.2
theorem Lay.get {W : World} {L : List (Nat × Obj)} (h : Lay W L) (i : Nat) {b : Nat} {o : Obj} (hi : L[i]? = some (b, o)) : W.heap[b]? = some o := h _ (List.mem_of_getElem? hi)
theorem Lay.keep {W W' : World} {L : List (Nat × Obj)} (h : Lay W L) (hk : ∀ b ∈ L.map (·.1), b < W.heap.size → W'.heap[b]? = W.heap[b]?) : Lay W' L := fun p hp =>
  (hk p.1 (List.mem_map.2 ⟨p, hp, rfl⟩) (Array.getElem?_eq_some_iff.1 (h p hp)).1).trans (h p hp)
theorem Lay.lt {W : World} {L : List (Nat × Obj)} (h : Lay W L) : ∀ b ∈ L.map (·.1), b < W.heap.size := fun b hb => by
  obtain ⟨p, hp, rfl⟩ := List.mem_map.1 hb
  exact (Array.getElem?_eq_some_iff.1 (h p hp)).1
theorem Lay.put {W W' : World} {L : List (Nat × Obj)} (h : Lay W L) (hn : (L.map (·.1)).Nodup) (i : Nat) {b : Nat} {o o' : Obj} (hi : L[i]? = some (b, o)) (hs : W'.heap[b]? = some o') (ho : ∀ k, k ≠ b → W'.heap[k]? = W.heap[k]?) : Lay W' (L.set i (b, o')) := by
  intro p hp
  obtain ⟨j, hj⟩ := List.getElem?_of_mem hp
  by_cases e : j = i
  · subst e
    rw [List.getElem?_set_self (List.getElem?_eq_some_iff.1 hi).1] at hj
    cases hj
    exact hs
  · rw [List.getElem?_set_ne (Ne.symm e)] at hj
    refine (ho _ (fun e2 => e ?_)).trans (h p (List.mem_of_getElem? hj))
    have h1 : (L.map (·.1))[j]? = some b := by rw [List.getElem?_map, hj]; simp [e2]
    have h2 : (L.map (·.1))[i]? = some b := by rw [List.getElem?_map, hi]; rfl
    have hjl := (List.getElem?_eq_some_iff.1 h1).1
    exact (List.getElem?_inj hjl hn).1 (h1.trans h2.symm)
theorem Lay.set {W : World} {L : List (Nat × Obj)} (h : Lay W L) (hn : (L.map (·.1)).Nodup) (i : Nat) {b t : Nat} {cs : Array Value} (hi : L[i]? = some (b, .cells cs t (0, 0))) (j : Nat) (x : Value) : Lay (W.setCell ⟨b, j, none⟩ x) (L.set i (b, .cells (cs.setIfInBounds j x) t (0, 0))) :=
  h.put hn i hi (heap_setCell_same W b j _ _ x (h.get i hi)) (fun k hk => heap_setCell_other _ _ _ _ hk)
/-- a box. -/
theorem Lay.box {W : World} {L : List (Nat × Obj)} (h : Lay W L) (hn : (L.map (·.1)).Nodup) (i : Nat) {b t : Nat} {u : Value} (hi : L[i]? = some (b, .cells #[u] t (0, 0))) (x : Value) : Lay (W.setCell ⟨b, 0, none⟩ x) (L.set i (b, .cells #[x] t (0, 0))) := h.set hn i hi 0 x
/-- numbers. -/
theorem Lay.int {W : World} {L : List (Nat × Obj)} (h : Lay W L) (hn : (L.map (·.1)).Nodup) (i : Nat) {b t : Nat} {l : List Int} (hi : L[i]? = some (b, .cells (l.map intC).toArray t (0, 0))) (j : Nat) (x : Int) : Lay (W.setCell ⟨b, j, none⟩ (intC x)) (L.set i (b, .cells ((l.set j x).map intC).toArray t (0, 0))) := by
  have := h.set hn i hi j (intC x)
  rwa [show (l.map intC).toArray.setIfInBounds j (intC x) = ((l.set j x).map intC).toArray by simp [List.map_set]] at this
theorem Lay.alloc {W : World} {L : List (Nat × Obj)} (h : Lay W L) (o : Obj) : Lay (W.alloc o) L := h.keep fun _ _ hb => Below.heap_alloc _ _ _ hb
theorem Lay.drew {W : World} {L : List (Nat × Obj)} (h : Lay W L) : Lay W.drew L := h
theorem Lay.grown {W W' : World} {L : List (Nat × Obj)} {row : Option Nat} (h : Lay W L) (hg : W.grownBy W' row) (hr : ∀ r, row = some r → r ∉ L.map (·.1)) : Lay W' L := h.keep fun b hb hl => hg.block b hl (fun e => hr b e.symm hb)

/-- the blocks of a numbering. -/
structure TP where
  bx : Nat
  bi : Nat
  bl : Nat
  bs : Nat
  bg : Nat
  bv : Nat
  bc : Nat
  bk : Nat
  gi : Nat
  gl : Nat
  gc : Nat
def TP.blocks (p : TP) : List Nat := [p.bx, p.bi, p.bl, p.bs, p.bg, p.bv, p.bc, p.bk, p.gi, p.gl, p.gc]
def TP.caps (p : TP) : Array Value := #[.pointer (some ⟨p.bx, 0, none⟩), .pointer (some ⟨p.bi, 0, none⟩), .pointer (some ⟨p.bl, 0, none⟩), .pointer (some ⟨p.bs, 0, none⟩), .pointer (some ⟨p.bg, 0, none⟩), .pointer (some ⟨p.bv, 0, none⟩), .pointer (some ⟨p.bc, 0, none⟩), .pointer (some ⟨p.bk, 0, none⟩)]
def tlay (p : TP) (N : Nat) (v : Value) (s : TS) (sv : Value) : List (Nat × Obj) :=
  [(p.bx, .cells #[natC s.nx] 3 (0, 0)), (p.bi, .cells #[.slice (some ⟨p.gi, 0, none⟩) N N] 26 (0, 0)), (p.bl, .cells #[.slice (some ⟨p.gl, 0, none⟩) N N] 26 (0, 0)), (p.bs, .cells #[sv] 26 (0, 0)), (p.bg, .cells #[v] 53 (0, 0)),
   (p.bv, .cells #[.func (.func 73) #[] p.caps] 56 (0, 0)), (p.bc, .cells #[.slice (some ⟨p.gc, 0, none⟩) N N] 26 (0, 0)), (p.bk, .cells #[natC s.ct] 3 (0, 0)), (p.gi, .cells (s.ix.map intC).toArray 3 (0, 0)), (p.gl, .cells (s.lo.map intC).toArray 3 (0, 0)), (p.gc, .cells (s.co.map intC).toArray 3 (0, 0))]
theorem tlay_blocks (p : TP) (N : Nat) (v : Value) (s : TS) (sv : Value) : (tlay p N v s sv).map (·.1) = p.blocks := rfl
/-- what is known of the blocks. -/
structure TOk (B0 : Nat) (p : TP) : Prop where
  nd : p.blocks.Nodup
  lo : ∀ b ∈ p.blocks, B0 ≤ b
/-- the memory of a numbering. -/
structure TarW (W : World) (B0 : Nat) (p : TP) (v : Value) (S : List (List Nat)) (s : TS) (sv : Value) : Prop where
  L : Lay W (tlay p S.length v s sv)
  os : W.ownsRow B0 3 1 sv s.st.length (s.st.map natC)
  ne : ∀ j, sv.ownBlock = some j → j ∉ p.blocks
  r : RowsOf B0 v S W
/-- what a visit leaves alone. -/
structure TFr (p : TP) (W W' : World) (sv sv' : Value) : Prop where
  o : W'.os = W.os
  t : W'.tape = W.tape
  u : W'.output = W.output
  size : W.heap.size ≤ W'.heap.size
  blk : ∀ k, k < W.heap.size → k ∉ p.blocks → sv.ownBlock ≠ some k → W'.heap[k]? = W.heap[k]?
  own : ∀ k, sv'.ownBlock = some k → sv.ownBlock = some k ∨ W.heap.size ≤ k
theorem TFr.refl (p : TP) (W : World) (sv : Value) : TFr p W W sv sv := ⟨rfl, rfl, rfl, Nat.le_refl _, fun _ _ _ _ => rfl, fun _ h => .inl h⟩
theorem TFr.trans {p : TP} {A B C : World} {x y z : Value} (h : TFr p A B x y) (k : TFr p B C y z) : TFr p A C x z := by
  refine ⟨k.o.trans h.o, k.t.trans h.t, k.u.trans h.u, Nat.le_trans h.size k.size, fun j h1 h2 h3 => ?_, fun j hj => ?_⟩
  · refine (k.blk j (Nat.lt_of_lt_of_le h1 h.size) h2 (fun e => ?_)).trans (h.blk j h1 h2 h3)
    rcases h.own j e with e | e
    · exact h3 e
    · omega
  · rcases k.own j hj with e | e
    · exact h.own j e
    · exact .inr (Nat.le_trans h.size e)
theorem TarW.lt {W : World} {B0 : Nat} {p : TP} {v : Value} {S : List (List Nat)} {s : TS} {sv : Value} (h : TarW W B0 p v S s sv) : ∀ b ∈ p.blocks, b < W.heap.size := h.L.lt
theorem TarW.cellsAt {W : World} {B0 : Nat} {p : TP} {v : Value} {S : List (List Nat)} {s : TS} {sv : Value} (h : TarW W B0 p v S s sv) : ∀ b ∈ p.blocks, ∃ o : Obj, W.heap[b]? = some o ∧ o.isCells = true := fun b hb => by
  have hm : b ∈ (tlay p S.length v s sv).map (·.1) := hb
  obtain ⟨q, hq, rfl⟩ := List.mem_map.1 hm
  refine ⟨q.2, h.L q hq, ?_⟩
  simp only [tlay, List.mem_cons, List.not_mem_nil, or_false] at hq
  rcases hq with rfl | rfl | rfl | rfl | rfl | rfl | rfl | rfl | rfl | rfl | rfl <;> rfl
theorem own_cells {W : World} {B e n s : Nat} {v : Value} {xs : List Value} (h : W.ownsRow B e s v n xs) : ∀ j, v.ownBlock = some j → ∃ o : Obj, W.heap[j]? = some o ∧ o.isCells = true := fun j hj => by
  rcases h.2 with ⟨rfl, _⟩ | ⟨g, cap, cur, rfl, _, hg, _⟩
  · simp [Value.ownBlock] at hj
  · simp [Value.ownBlock] at hj; subst hj; exact ⟨_, hg, rfl⟩
theorem TFr.others {W W' : World} {B0 : Nat} {p : TP} {v : Value} {S : List (List Nat)} {s : TS} {sv sv' : Value} (h : TFr p W W' sv sv') (hw : TarW W B0 p v S s sv) : KeepsOthers W W' := by
  refine ⟨h.size, fun k o hk ho => ?_⟩
  refine (h.blk k (Array.getElem?_eq_some_iff.1 hk).1 (fun hm => ?_) (fun e => ?_)).trans hk
  · obtain ⟨o', h1, h2⟩ := hw.cellsAt k hm
    rw [hk] at h1; cases h1; rw [ho] at h2; cases h2
  · obtain ⟨o', h1, h2⟩ := own_cells hw.os k e
    rw [hk] at h1; cases h1; rw [ho] at h2; cases h2
theorem TFr.below {W W' : World} {B0 : Nat} {p : TP} {v : Value} {S : List (List Nat)} {s : TS} {sv sv' : Value} (h : TFr p W W' sv sv') (hp : TOk B0 p) (hB : B0 ≤ W.heap.size) (hw : TarW W B0 p v S s sv) : Below B0 W W' :=
  ⟨h.o, h.t, h.u, h.size, fun k hk => h.blk k (by omega) (fun hm => by have := hp.lo k hm; omega) (fun e => by have := (hw.os.lt k e).1; omega)⟩
theorem TarW.turn {W W' : World} {B0 : Nat} {p : TP} {v : Value} {S : List (List Nat)} {s : TS} {sv : Value} (h : TarW W B0 p v S s sv) {row : Option Nat} (hg : W.grownBy W' row) (hr : ∀ r, row = some r → B0 ≤ r ∧ ∃ o : Obj, W.heap[r]? = some o ∧ o.isCells = false) (hB : B0 ≤ W.heap.size) : TarW W' B0 p v S s sv := by
  refine ⟨h.L.grown hg (fun r e hm => ?_), own_far h.os (fun k hk => hg.block k (h.os.lt k hk).2 (fun e => ?_)), h.ne, h.r.below (B' := B0) ((Below.refl B0 W).grown hg hB (fun k e => (hr k e).1)) (Nat.le_refl _)⟩
  · obtain ⟨o', h1, h2⟩ := h.cellsAt r hm
    obtain ⟨_, o, h3, h4⟩ := hr r e
    rw [h1] at h3; cases h3; rw [h2] at h4; cases h4
  · obtain ⟨o', h1, h2⟩ := own_cells h.os k hk
    obtain ⟨_, o, h3, h4⟩ := hr k e.symm
    rw [h1] at h3; cases h3; rw [h2] at h4; cases h4
theorem TarW.alloc {W : World} {B0 : Nat} {p : TP} {v : Value} {S : List (List Nat)} {s : TS} {sv : Value} (h : TarW W B0 p v S s sv) (o : Obj) (hB : B0 ≤ W.heap.size) : TarW (W.alloc o) B0 p v S s sv := h.turn (World.grownBy_alloc W o none) (fun r e => by cases e) hB
theorem TarW.drew {W : World} {B0 : Nat} {p : TP} {v : Value} {S : List (List Nat)} {s : TS} {sv : Value} (h : TarW W B0 p v S s sv) : TarW W.drew B0 p v S s sv := ⟨h.L, h.os, h.ne, h.r⟩
/-- one block of the numbering is written: no row and no stack is it. -/
theorem TarW.store {W W' : World} {B0 : Nat} {p : TP} {v : Value} {S : List (List Nat)} {s s' : TS} {sv : Value} (h : TarW W B0 p v S s sv) (hp : TOk B0 p) (hst : s'.st = s.st) (b j : Nat) (x : Value) (hb : b ∈ p.blocks) (hW : W' = W.setCell ⟨b, j, none⟩ x) (hL : Lay W' (tlay p S.length v s' sv)) : TarW W' B0 p v S s' sv := by
  subst hW
  refine ⟨hL, ?_, h.ne, h.r.below (B' := B0) ((Below.refl B0 W).setCell (by exact hp.lo b hb) _) (Nat.le_refl _)⟩
  rw [hst]
  exact own_far h.os (fun k hk => heap_setCell_other _ _ _ _ (fun e => h.ne k hk (by rw [show k = b from e]; exact hb)))
theorem TFr.store {W : World} {p : TP} {sv : Value} (b j : Nat) (x : Value) (hb : b ∈ p.blocks) : TFr p W (W.setCell ⟨b, j, none⟩ x) sv sv :=
  ⟨rfl, rfl, rfl, by rw [World.size_setCell]; exact Nat.le_refl _, fun k _ hk _ => heap_setCell_other _ _ _ _ (fun e => hk (by rw [show k = b from e]; exact hb)), fun _ h => .inl h⟩
theorem TFr.alloc {W : World} {p : TP} {sv : Value} (o : Obj) : TFr p W (W.alloc o) sv sv :=
  ⟨rfl, rfl, rfl, by simp, fun k hk _ _ => Below.heap_alloc _ _ _ hk, fun _ h => .inl h⟩
theorem TFr.drew {W W' : World} {p : TP} {sv sv' : Value} (h : TFr p W W' sv sv') : TFr p W W'.drew sv sv' := ⟨h.o, h.t, h.u, h.size, h.blk, h.own⟩
theorem TFr.turn {A W W' : World} {p : TP} {sv sv' : Value} (h : TFr p A W sv sv') {row : Option Nat} (hg : W.grownBy W' row) (hr : ∀ r, row = some r → A.heap.size ≤ r) : TFr p A W' sv sv' :=
  ⟨hg.os.trans h.o, hg.tape.trans h.t, hg.output.trans h.u, Nat.le_trans h.size hg.size, fun k h1 h2 h3 => (hg.block k (Nat.lt_of_lt_of_le h1 h.size) (fun e => by have := hr k e.symm; omega)).trans (h.blk k h1 h2 h3), h.own⟩
theorem TOk.ne {B0 : Nat} {p : TP} (h : TOk B0 p) (i j : Nat) {a b : Nat} (hi : p.blocks[i]? = some a) (hj : p.blocks[j]? = some b) (hij : i ≠ j) : a ≠ b := fun e => by
  subst e
  exact hij ((List.getElem?_inj (List.getElem?_eq_some_iff.1 hi).1 h.nd).1 (hi.trans hj.symm))
/-- the stack's box gets a new slice. -/
theorem TarW.stack {W W1 : World} {B0 : Nat} {p : TP} {v : Value} {S : List (List Nat)} {s : TS} {sv sv1 : Value} (h : TarW W B0 p v S s sv) (hp : TOk B0 p) (hB : B0 ≤ W.heap.size) (st' : List Nat) (hg : W.grownBy W1 sv.ownBlock) (ho : W1.ownsRow B0 3 1 sv1 st'.length (st'.map natC))
    (hat : ∀ k, sv1.ownBlock = some k → sv.ownBlock = some k ∨ W.heap.size ≤ k) : TarW (W1.setCell ⟨p.bs, 0, none⟩ sv1) B0 p v S { s with st := st' } sv1 ∧ TFr p W (W1.setCell ⟨p.bs, 0, none⟩ sv1) sv sv1 := by
  have hne : ∀ k, sv1.ownBlock = some k → k ∉ p.blocks := fun k hk hm => by
    rcases hat k hk with e | e
    · exact h.ne k e hm
    · have := h.lt k hm; omega
  have hb : p.bs ∈ p.blocks := by simp [TP.blocks]
  refine ⟨⟨(h.L.grown hg (fun r e => h.ne r e)).box hp.nd 3 rfl sv1, own_far ho (fun k hk => heap_setCell_other _ _ _ _ (fun e => hne k hk (by rw [show k = p.bs from e]; exact hb))), hne, ?_⟩, ⟨hg.os, hg.tape, hg.output, by rw [World.size_setCell]; exact hg.size, fun k h1 h2 h3 => ?_, hat⟩⟩
  · exact h.r.below (B' := B0) (((Below.refl B0 W).grown hg hB (fun k e => (h.os.lt k e).1)).setCell (by exact hp.lo _ hb) _) (Nat.le_refl _)
  · exact (heap_setCell_other _ _ _ _ (fun e => h2 (by rw [show k = p.bs from e]; exact hb))).trans (hg.block k h1 (fun e => h3 e.symm))
/-- what four cells hold. -/
def HeldT (a b c d : Addr) (x y z u : Value) (W : World) : Prop := W.cell? a = some x ∧ W.cell? b = some y ∧ W.cell? c = some z ∧ W.cell? d = some u
/-- what five cells hold. -/
def HeldV (a b c d f : Addr) (x y z u q : Value) (W : World) : Prop := W.cell? a = some x ∧ W.cell? b = some y ∧ W.cell? c = some z ∧ W.cell? d = some u ∧ W.cell? f = some q
/-- a slice of its own that is cut by its last element. -/
theorem own_pop {W : World} {B e n g cap : Nat} {xs : List Value} {x : Value} (h : W.ownsRow B e 1 (.slice (some ⟨g, 0, none⟩) (n + 1) cap) (n + 1) (xs ++ [x])) : W.ownsRow B e 1 (.slice (some ⟨g, 0, none⟩) n cap) n xs := by
  obtain ⟨hl, h⟩ := h
  simp at hl
  refine ⟨by omega, .inr ?_⟩
  rcases h with ⟨h, _⟩ | ⟨g', cap', cur, h1, h2, h3, h4, h5, h6, h7⟩
  · cases h
  · cases h1
    refine ⟨g, cap, cur, rfl, h2, h3, by omega, h5, h6, ?_⟩
    have hx : xs.length = n := by omega
    have : (cur.toList.take ((n + 1) * 1)).take n = (xs ++ [x]).take n := by rw [h7]
    rw [List.take_take, Nat.min_eq_left (by omega)] at this
    rw [Nat.mul_one, this, ← hx, List.take_left]
theorem Shut.at {B b : Nat} {W W' : World} (h : Shut B W W') (hc : ∃ o : Obj, W.heap[b]? = some o ∧ o.isCells = true) : W'.heap[b]? = W.heap[b]? := by
  obtain ⟨o, h1, h2⟩ := hc
  rw [h.cells b o h1 h2, h1]
theorem TarW.shut {W W' : World} {B0 B : Nat} {p : TP} {v : Value} {S : List (List Nat)} {s : TS} {sv : Value} (h : TarW W B0 p v S s sv) (hs : Shut B W W') (hB : B0 ≤ B) : TarW W' B0 p v S s sv :=
  ⟨h.L.keep fun b hb _ => hs.at (h.cellsAt b hb), own_far h.os fun k hk => hs.at (own_cells h.os k hk), h.ne, h.r.below (hs.below hB) (Nat.le_refl _)⟩
theorem TFr.shut {A W W' : World} {p : TP} {sv sv' : Value} (h : TFr p A W sv sv') (hs : Shut A.heap.size W W') : TFr p A W' sv sv' :=
  ⟨hs.os.trans h.o, hs.tape.trans h.t, hs.output.trans h.u, by rw [hs.size]; exact h.size, fun k h1 h2 h3 => (hs.low k h1).trans (h.blk k h1 h2 h3), h.own⟩
end Go.Proofs.Ytlcgbkeggmaljaa
