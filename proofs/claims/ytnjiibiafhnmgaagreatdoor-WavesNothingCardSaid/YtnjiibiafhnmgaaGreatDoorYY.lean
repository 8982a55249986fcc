/- Graphs, plain: the numbering of components as the program does it. Some blocks of memory, each with what it holds, as one list. -/
import Derived.Test.YtnjiibiafhnmgaaGreatDoorYF
import Derived.Test.YtnjiibiafhnmgaaGreatDoorYX
namespace Go.Proofs.YtnjiibiafhnmgaaGreatDoor
set_option linter.unusedVariables false
set_option linter.unusedSimpArgs false

structure TS where
  ix : List Int
  lo : List Int
  co : List Int
  st : List Nat
  nx : Nat
  ct : Nat
def tmark (s : TS) (n : Nat) : TS := ⟨s.ix.set n s.nx, s.lo.set n s.nx, s.co, s.st ++ [n], s.nx + 1, s.ct⟩
def tlow (s : TS) (n : Nat) (x : Int) : TS := { s with lo := s.lo.set n (min (gD s.lo n) x) }
def tstep (v : TS → Nat → TS) (n : Nat) (s : TS) (k : Nat) : TS :=
  if gD s.ix k = 0 then tlow (v s k) n (gD (v s k).lo k) else if gD s.co k < 0 then tlow s n (gD s.ix k) else s
def tpopL (ct : Int) (n : Nat) : List Nat → List Int → List Nat × List Int
  | [], co => ([], co)
  | k :: r, co => if k = n then (r, co.set k ct) else tpopL ct n r (co.set k ct)
def tpop (s : TS) (n : Nat) : TS := { s with st := (tpopL s.ct n s.st.reverse s.co).1.reverse, co := (tpopL s.ct n s.st.reverse s.co).2, ct := s.ct + 1 }
def tfin (s : TS) (n : Nat) : TS := if gD s.lo n < gD s.ix n then s else tpop s n
def visitT (S : List (List Nat)) : Nat → TS → Nat → TS
  | 0, s, _ => s
  | f + 1, s, n => tfin ((S.getD n []).foldl (tstep (visitT S f) n) (tmark s n)) n
def tinit (N : Nat) : TS := ⟨List.replicate N 0, List.replicate N 0, List.replicate N (-1), [], 1, 0⟩
def tround (S : List (List Nat)) (s : TS) (n : Nat) : TS := if gD s.ix n = 0 then visitT S S.length s n else s
def tarjan (S : List (List Nat)) : TS := (List.range S.length).foldl (tround S) (tinit S.length)

def zeros (d : List Int) : Nat := d.countP (fun x => decide (x = 0))
theorem zeros_set : ∀ (d : List Int) (k : Nat) (x : Int), k < d.length → gD d k = 0 → x ≠ 0 → zeros (d.set k x) + 1 = zeros d
  | [], k, x, h, _, _ => by simp at h
  | y :: d, 0, x, _, h, hx => by
    have hy : y = 0 := h
    unfold zeros
    rw [List.set_cons_zero, List.countP_cons, List.countP_cons]
    simp [hy, hx]
  | y :: d, k + 1, x, hk, h, hx => by
    have := zeros_set d k x (by simpa using hk) h hx
    unfold zeros at *
    rw [List.set_cons_succ, List.countP_cons, List.countP_cons]
    omega
structure TInv (N : Nat) (s : TS) : Prop where
  li : s.ix.length = N
  ll : s.lo.length = N
  lc : s.co.length = N
  nz : s.nx + zeros s.ix = N + 1
  sl : s.st.length < s.nx
  sk : ∀ k ∈ s.st, k < N
  ct : s.ct < s.nx
structure TRel (s s' : TS) : Prop where
  z : zeros s'.ix ≤ zeros s.ix
  p : ∃ zs, s'.st = s.st ++ zs
  k : s.nx + s'.ct ≤ s'.nx + s.ct
theorem TRel.refl (s : TS) : TRel s s := ⟨Nat.le_refl _, ⟨[], by simp⟩, Nat.le_refl _⟩
theorem TRel.trans {a b c : TS} (h : TRel a b) (k : TRel b c) : TRel a c := by
  refine ⟨Nat.le_trans k.z h.z, ?_, by have := h.k; have := k.k; omega⟩
  obtain ⟨x, hx⟩ := h.p
  obtain ⟨y, hy⟩ := k.p
  exact ⟨x ++ y, by rw [hy, hx, List.append_assoc]⟩
theorem TInv.mark {N : Nat} {s : TS} {n : Nat} (h : TInv N s) (hn : n < N) (h0 : gD s.ix n = 0) : TInv N (tmark s n) ∧ zeros (tmark s n).ix + 1 = zeros s.ix := by
  have hx : ((s.nx : Nat) : Int) ≠ 0 := by have := h.ct; omega
  have hz := zeros_set s.ix n s.nx (by rw [h.li]; exact hn) h0 hx
  refine ⟨⟨by simp [tmark, h.li], by simp [tmark, h.ll], h.lc, ?_, ?_, ?_, ?_⟩, hz⟩
  · have := h.nz; show s.nx + 1 + zeros (s.ix.set n s.nx) = N + 1; omega
  · have := h.sl; simp [tmark]; exact this
  · intro k hk
    rcases List.mem_append.1 hk with hk | hk
    · exact h.sk k hk
    · rw [List.mem_singleton] at hk; omega
  · have := h.ct; show s.ct < s.nx + 1; omega
theorem TInv.low {N : Nat} {s : TS} (h : TInv N s) (n : Nat) (x : Int) : TInv N (tlow s n x) := ⟨h.li, by simp [tlow, h.ll], h.lc, h.nz, h.sl, h.sk, h.ct⟩
theorem TRel.low (s : TS) (n : Nat) (x : Int) : TRel s (tlow s n x) := ⟨Nat.le_refl _, ⟨[], by simp [tlow]⟩, Nat.le_refl _⟩
theorem tpopL_spec (ct : Int) (n : Nat) : ∀ (r : List Nat) (co : List Int), (tpopL ct n r co).2.length = co.length ∧ (tpopL ct n r co).1.length ≤ r.length ∧ ∃ zs, r = zs ++ (tpopL ct n r co).1
  | [], co => ⟨rfl, Nat.le_refl _, [], rfl⟩
  | k :: r, co => by
    unfold tpopL
    split
    · exact ⟨by simp, by simp, [k], rfl⟩
    · obtain ⟨h1, h2, zs, h3⟩ := tpopL_spec ct n r (co.set k ct)
      exact ⟨by simpa using h1, by simp; omega, k :: zs, by rw [List.cons_append, ← h3]⟩
theorem tpopL_above (ct : Int) (n : Nat) : ∀ (zs r : List Nat) (co : List Int), n ∈ zs → ∃ ys, (tpopL ct n (zs ++ r) co).1 = ys ++ r
  | [], r, co, h => by simp at h
  | k :: zs, r, co, h => by
    show ∃ ys, (if k = n then (zs ++ r, co.set k ct) else tpopL ct n (zs ++ r) (co.set k ct)).1 = ys ++ r
    by_cases e : k = n
    · rw [if_pos e]; exact ⟨zs, rfl⟩
    · rw [if_neg e]
      exact tpopL_above ct n zs r _ (by rcases List.mem_cons.1 h with h | h; exact absurd h.symm e; exact h)
theorem TInv.pop {N : Nat} {s : TS} (h : TInv N s) (n : Nat) (hc : s.ct + 1 < s.nx) : TInv N (tpop s n) := by
  obtain ⟨h1, h2, zs, h3⟩ := tpopL_spec s.ct n s.st.reverse s.co
  refine ⟨h.li, h.ll, by show (tpopL s.ct n s.st.reverse s.co).2.length = N; rw [h1, h.lc], h.nz, ?_, ?_, hc⟩
  · have := h.sl
    show (tpopL s.ct n s.st.reverse s.co).1.reverse.length < s.nx
    rw [List.length_reverse] at *
    omega
  · intro k hk
    have hk2 : k ∈ (tpopL s.ct n s.st.reverse s.co).1 := List.mem_reverse.1 hk
    refine h.sk k (List.mem_reverse.1 ?_)
    rw [h3]
    exact List.mem_append_right _ hk2
theorem tfold_ok {N f n : Nat} {v : TS → Nat → TS} (hv : ∀ s k, zeros s.ix ≤ f → TInv N s → k < N → gD s.ix k = 0 → TInv N (v s k) ∧ TRel s (v s k)) :
    ∀ (l : List Nat) (s : TS), (∀ k ∈ l, k < N) → zeros s.ix ≤ f → TInv N s → TInv N (l.foldl (tstep v n) s) ∧ TRel s (l.foldl (tstep v n) s)
  | [], s, _, _, h => ⟨h, TRel.refl _⟩
  | k :: l, s, hl, hz, h => by
    have h1 : TInv N (tstep v n s k) ∧ TRel s (tstep v n s k) := by
      unfold tstep
      split
      · obtain ⟨h1, h2⟩ := hv s k hz h (hl k (by simp)) ‹_›
        exact ⟨h1.low _ _, h2.trans (TRel.low _ _ _)⟩
      · split
        · exact ⟨h.low _ _, TRel.low _ _ _⟩
        · exact ⟨h, TRel.refl _⟩
    obtain ⟨h2, h3⟩ := tfold_ok (n := n) hv l (tstep v n s k) (fun j hj => hl j (by simp [hj])) (Nat.le_trans h1.2.z hz) h1.1
    exact ⟨h2, h1.2.trans h3⟩
theorem visitT_ok {S : List (List Nat)} (hS : ∀ a, ∀ k ∈ S.getD a [], k < S.length) : ∀ (f : Nat) (s : TS) (n : Nat), zeros s.ix ≤ f → TInv S.length s → n < S.length → gD s.ix n = 0 → TInv S.length (visitT S f s n) ∧ TRel s (visitT S f s n)
  | 0, s, n, hz, h, hn, h0 => by
    have := zeros_set s.ix n 1 (by rw [h.li]; exact hn) h0 (by decide)
    omega
  | f + 1, s, n, hz, h, hn, h0 => by
    obtain ⟨m1, m2⟩ := h.mark hn h0
    obtain ⟨f1, f2⟩ := tfold_ok (n := n) (fun s k a b c d => visitT_ok hS f s k a b c d) (S.getD n []) (tmark s n) (hS n) (by omega) m1
    unfold visitT
    generalize (S.getD n []).foldl (tstep (visitT S f) n) (tmark s n) = t at *
    obtain ⟨zs, hzs⟩ := f2.p
    have hk := f2.k
    have e1 : (tmark s n).nx = s.nx + 1 := rfl
    have e2 : (tmark s n).ct = s.ct := rfl
    have e3 : (tmark s n).st = s.st ++ [n] := rfl
    have hz2 := f2.z
    have hct := h.ct
    unfold tfin
    split
    · exact ⟨f1, by omega, ⟨[n] ++ zs, by rw [hzs, e3, List.append_assoc]⟩, by omega⟩
    · refine ⟨f1.pop n (by omega), by show zeros t.ix ≤ _; omega, ?_, by show s.nx + (t.ct + 1) ≤ t.nx + s.ct; omega⟩
      obtain ⟨ys, hys⟩ := tpopL_above t.ct n (zs.reverse ++ [n]) s.st.reverse t.co (by simp)
      refine ⟨ys.reverse, ?_⟩
      show (tpopL t.ct n t.st.reverse t.co).1.reverse = _
      have : t.st.reverse = zs.reverse ++ [n] ++ s.st.reverse := by rw [hzs, e3]; simp
      rw [this, hys]
      simp
theorem tinit_ok (N : Nat) : TInv N (tinit N) := by
  refine ⟨by simp [tinit], by simp [tinit], by simp [tinit], ?_, by simp [tinit], by simp [tinit], by simp [tinit]⟩
  have : zeros (List.replicate N 0) = N := by
    unfold zeros
    rw [List.countP_replicate]
    simp
  show 1 + zeros (List.replicate N 0) = N + 1
  omega
theorem zeros_le (d : List Int) : zeros d ≤ d.length := List.countP_le_length
theorem tround_ok {S : List (List Nat)} (hS : ∀ a, ∀ k ∈ S.getD a [], k < S.length) (s : TS) (n : Nat) (hn : n < S.length) (h : TInv S.length s) : TInv S.length (tround S s n) := by
  unfold tround
  split
  · exact (visitT_ok hS S.length s n (by have := zeros_le s.ix; rw [h.li] at this; exact this) h hn ‹_›).1
  · exact h
def trun (S : List (List Nat)) (k : Nat) : TS := (List.range k).foldl (tround S) (tinit S.length)
theorem trun_succ (S : List (List Nat)) (k : Nat) : trun S (k + 1) = tround S (trun S k) k := by
  unfold trun
  rw [List.range_succ, List.foldl_append]
  rfl
theorem tarj_inv {S : List (List Nat)} (hS : ∀ a, ∀ k ∈ S.getD a [], k < S.length) : ∀ k, k ≤ S.length → TInv S.length (trun S k)
  | 0, _ => tinit_ok _
  | k + 1, h => by
    rw [trun_succ]
    exact tround_ok hS _ k (by omega) (tarj_inv hS k (by omega))
end Go.Proofs.YtnjiibiafhnmgaaGreatDoor

namespace Go.Proofs.YtnjiibiafhnmgaaGreatDoor
set_option linter.unusedVariables false
set_option linter.unusedSimpArgs false
open Go Go.RowKit

def Lay (W : World) (L : List (Nat × Obj)) : Prop := ∀ p ∈ L, W.heap[p.1]? = some p.2
theorem Lay.get {W : World} {L : List (Nat × Obj)} (h : Lay W L) (i : Nat) {b : Nat} {o : Obj} (hi : L[i]? = some (b, o)) : W.heap[b]? = some o := h _ (List.mem_of_getElem? hi)
theorem Lay.keep {W W' : World} {L : List (Nat × Obj)} (h : Lay W L) (hk : ∀ b ∈ L.map (·.1), b < W.heap.size → W'.heap[b]? = W.heap[b]?) : Lay W' L := fun p hp =>
  (hk p.1 (List.mem_map.2 ⟨p, hp, rfl⟩) (Array.getElem?_eq_some_iff.1 (h p hp)).1).trans (h p hp)
theorem Lay.lt {W : World} {L : List (Nat × Obj)} (h : Lay W L) : ∀ b ∈ L.map (·.1), b < W.heap.size := fun b hb => by
  obtain ⟨p, hp, rfl⟩ := List.mem_map.1 hb
  exact (Array.getElem?_eq_some_iff.1 (h p hp)).1
theorem Lay.put {W W' : World} {L : List (Nat × Obj)} (h : Lay W L) (hn : (L.map (·.1)).Nodup) (i : Nat) {b : Nat} {o o' : Obj} (hi : L[i]? = some (b, o)) (hs : W'.heap[b]? = some o') (ho : ∀ k, k ≠ b → W'.heap[k]? = W.heap[k]?) : Lay W' (L.set i (b, o')) := by
  intro p hp
  obtain ⟨j, hj⟩ := List.getElem?_of_mem hp
  by_cases e : j = i
  · subst e
    rw [List.getElem?_set_self (List.getElem?_eq_some_iff.1 hi).1] at hj
    cases hj
    exact hs
  · rw [List.getElem?_set_ne (Ne.symm e)] at hj
    refine (ho _ (fun e2 => e ?_)).trans (h p (List.mem_of_getElem? hj))
    have h1 : (L.map (·.1))[j]? = some b := by rw [List.getElem?_map, hj]; simp [e2]
    have h2 : (L.map (·.1))[i]? = some b := by rw [List.getElem?_map, hi]; rfl
    have hjl := (List.getElem?_eq_some_iff.1 h1).1
    exact (List.getElem?_inj hjl hn).1 (h1.trans h2.symm)
theorem Lay.set {W : World} {L : List (Nat × Obj)} (h : Lay W L) (hn : (L.map (·.1)).Nodup) (i : Nat) {b t : Nat} {cs : Array Value} (hi : L[i]? = some (b, .cells cs t (0, 0))) (j : Nat) (x : Value) : Lay (W.setCell ⟨b, j, none⟩ x) (L.set i (b, .cells (cs.setIfInBounds j x) t (0, 0))) :=
  h.put hn i hi (heap_setCell_same W b j _ _ x (h.get i hi)) (fun k hk => heap_setCell_other _ _ _ _ hk)
theorem Lay.box {W : World} {L : List (Nat × Obj)} (h : Lay W L) (hn : (L.map (·.1)).Nodup) (i : Nat) {b t : Nat} {u : Value} (hi : L[i]? = some (b, .cells #[u] t (0, 0))) (x : Value) : Lay (W.setCell ⟨b, 0, none⟩ x) (L.set i (b, .cells #[x] t (0, 0))) := h.set hn i hi 0 x
theorem Lay.int {W : World} {L : List (Nat × Obj)} (h : Lay W L) (hn : (L.map (·.1)).Nodup) (i : Nat) {b t : Nat} {l : List Int} (hi : L[i]? = some (b, .cells (l.map intC).toArray t (0, 0))) (j : Nat) (x : Int) : Lay (W.setCell ⟨b, j, none⟩ (intC x)) (L.set i (b, .cells ((l.set j x).map intC).toArray t (0, 0))) := by
  have := h.set hn i hi j (intC x)
  rwa [show (l.map intC).toArray.setIfInBounds j (intC x) = ((l.set j x).map intC).toArray by simp [List.map_set]] at this
theorem Lay.grown {W W' : World} {L : List (Nat × Obj)} {row : Option Nat} (h : Lay W L) (hg : W.grownBy W' row) (hr : ∀ r, row = some r → r ∉ L.map (·.1)) : Lay W' L := h.keep fun b hb hl => hg.block b hl (fun e => hr b e.symm hb)

structure TP where
  bx : Nat
  bi : Nat
  bl : Nat
  bs : Nat
  bg : Nat
  bv : Nat
  bc : Nat
  bk : Nat
  gi : Nat
  gl : Nat
  gc : Nat
def TP.blocks (p : TP) : List Nat := [p.bx, p.bi, p.bl, p.bs, p.bg, p.bv, p.bc, p.bk, p.gi, p.gl, p.gc]
def TP.caps (p : TP) : Array Value := #[.pointer (some ⟨p.bx, 0, none⟩), .pointer (some ⟨p.bi, 0, none⟩), .pointer (some ⟨p.bl, 0, none⟩), .pointer (some ⟨p.bs, 0, none⟩), .pointer (some ⟨p.bg, 0, none⟩), .pointer (some ⟨p.bv, 0, none⟩), .pointer (some ⟨p.bc, 0, none⟩), .pointer (some ⟨p.bk, 0, none⟩)]
def tlay (p : TP) (N : Nat) (v : Value) (s : TS) (sv : Value) : List (Nat × Obj) :=
  [(p.bx, .cells #[natC s.nx] 3 (0, 0)), (p.bi, .cells #[.slice (some ⟨p.gi, 0, none⟩) N N] 120 (0, 0)), (p.bl, .cells #[.slice (some ⟨p.gl, 0, none⟩) N N] 120 (0, 0)), (p.bs, .cells #[sv] 120 (0, 0)), (p.bg, .cells #[v] 122 (0, 0)),
   (p.bv, .cells #[.func (.func 139) #[] p.caps] 182 (0, 0)), (p.bc, .cells #[.slice (some ⟨p.gc, 0, none⟩) N N] 120 (0, 0)), (p.bk, .cells #[natC s.ct] 3 (0, 0)), (p.gi, .cells (s.ix.map intC).toArray 3 (0, 0)), (p.gl, .cells (s.lo.map intC).toArray 3 (0, 0)), (p.gc, .cells (s.co.map intC).toArray 3 (0, 0))]
structure TOk (B0 : Nat) (p : TP) : Prop where
  nd : p.blocks.Nodup
  lo : ∀ b ∈ p.blocks, B0 ≤ b
structure TarW (W : World) (B0 : Nat) (p : TP) (v : Value) (S : List (List Nat)) (s : TS) (sv : Value) : Prop where
  L : Lay W (tlay p S.length v s sv)
  os : W.ownsRow B0 3 1 sv s.st.length (s.st.map natC)
  ne : ∀ j, sv.ownBlock = some j → j ∉ p.blocks
  r : RowsOf B0 v S W
structure TFr (p : TP) (W W' : World) (sv sv' : Value) : Prop where
  o : W'.os = W.os
  t : W'.tape = W.tape
  u : W'.output = W.output
  size : W.heap.size ≤ W'.heap.size
  blk : ∀ k, k < W.heap.size → k ∉ p.blocks → sv.ownBlock ≠ some k → W'.heap[k]? = W.heap[k]?
  own : ∀ k, sv'.ownBlock = some k → sv.ownBlock = some k ∨ W.heap.size ≤ k
theorem TFr.refl (p : TP) (W : World) (sv : Value) : TFr p W W sv sv := ⟨rfl, rfl, rfl, Nat.le_refl _, fun _ _ _ _ => rfl, fun _ h => .inl h⟩
theorem TFr.trans {p : TP} {A B C : World} {x y z : Value} (h : TFr p A B x y) (k : TFr p B C y z) : TFr p A C x z := by
  refine ⟨k.o.trans h.o, k.t.trans h.t, k.u.trans h.u, Nat.le_trans h.size k.size, fun j h1 h2 h3 => ?_, fun j hj => ?_⟩
  · refine (k.blk j (Nat.lt_of_lt_of_le h1 h.size) h2 (fun e => ?_)).trans (h.blk j h1 h2 h3)
    rcases h.own j e with e | e
    · exact h3 e
    · omega
  · rcases k.own j hj with e | e
    · exact h.own j e
    · exact .inr (Nat.le_trans h.size e)
theorem TarW.lt {W : World} {B0 : Nat} {p : TP} {v : Value} {S : List (List Nat)} {s : TS} {sv : Value} (h : TarW W B0 p v S s sv) : ∀ b ∈ p.blocks, b < W.heap.size := h.L.lt
theorem TarW.cellsAt {W : World} {B0 : Nat} {p : TP} {v : Value} {S : List (List Nat)} {s : TS} {sv : Value} (h : TarW W B0 p v S s sv) : ∀ b ∈ p.blocks, ∃ o : Obj, W.heap[b]? = some o ∧ o.isCells = true := fun b hb => by
  have hm : b ∈ (tlay p S.length v s sv).map (·.1) := hb
  obtain ⟨q, hq, rfl⟩ := List.mem_map.1 hm
  refine ⟨q.2, h.L q hq, ?_⟩
  simp only [tlay, List.mem_cons, List.not_mem_nil, or_false] at hq
  rcases hq with rfl | rfl | rfl | rfl | rfl | rfl | rfl | rfl | rfl | rfl | rfl <;> rfl
theorem own_cells {W : World} {B e n s : Nat} {v : Value} {xs : List Value} (h : W.ownsRow B e s v n xs) : ∀ j, v.ownBlock = some j → ∃ o : Obj, W.heap[j]? = some o ∧ o.isCells = true := fun j hj => by
  rcases h.2 with ⟨rfl, _⟩ | ⟨g, cap, cur, rfl, _, hg, _⟩
  · simp [Value.ownBlock] at hj
  · simp [Value.ownBlock] at hj; subst hj; exact ⟨_, hg, rfl⟩
theorem TFr.others {W W' : World} {B0 : Nat} {p : TP} {v : Value} {S : List (List Nat)} {s : TS} {sv sv' : Value} (h : TFr p W W' sv sv') (hw : TarW W B0 p v S s sv) : KeepsOthers W W' := by
  refine ⟨h.size, fun k o hk ho => ?_⟩
  refine (h.blk k (Array.getElem?_eq_some_iff.1 hk).1 (fun hm => ?_) (fun e => ?_)).trans hk
  · obtain ⟨o', h1, h2⟩ := hw.cellsAt k hm
    rw [hk] at h1; cases h1; rw [ho] at h2; cases h2
  · obtain ⟨o', h1, h2⟩ := own_cells hw.os k e
    rw [hk] at h1; cases h1; rw [ho] at h2; cases h2
theorem TFr.below {W W' : World} {B0 : Nat} {p : TP} {v : Value} {S : List (List Nat)} {s : TS} {sv sv' : Value} (h : TFr p W W' sv sv') (hp : TOk B0 p) (hB : B0 ≤ W.heap.size) (hw : TarW W B0 p v S s sv) : Below B0 W W' :=
  ⟨h.o, h.t, h.u, h.size, fun k hk => h.blk k (by omega) (fun hm => by have := hp.lo k hm; omega) (fun e => by have := (hw.os.lt k e).1; omega)⟩
theorem TarW.turn {W W' : World} {B0 : Nat} {p : TP} {v : Value} {S : List (List Nat)} {s : TS} {sv : Value} (h : TarW W B0 p v S s sv) {row : Option Nat} (hg : W.grownBy W' row) (hr : ∀ r, row = some r → B0 ≤ r ∧ ∃ o : Obj, W.heap[r]? = some o ∧ o.isCells = false) (hB : B0 ≤ W.heap.size) : TarW W' B0 p v S s sv := by
  refine ⟨h.L.grown hg (fun r e hm => ?_), own_far h.os (fun k hk => hg.block k (h.os.lt k hk).2 (fun e => ?_)), h.ne, h.r.below (B' := B0) ((Below.refl B0 W).grown hg hB (fun k e => (hr k e).1)) (Nat.le_refl _)⟩
  · obtain ⟨o', h1, h2⟩ := h.cellsAt r hm
    obtain ⟨_, o, h3, h4⟩ := hr r e
    rw [h1] at h3; cases h3; rw [h2] at h4; cases h4
  · obtain ⟨o', h1, h2⟩ := own_cells h.os k hk
    obtain ⟨_, o, h3, h4⟩ := hr k e.symm
    rw [h1] at h3; cases h3; rw [h2] at h4; cases h4
theorem TarW.alloc {W : World} {B0 : Nat} {p : TP} {v : Value} {S : List (List Nat)} {s : TS} {sv : Value} (h : TarW W B0 p v S s sv) (o : Obj) (hB : B0 ≤ W.heap.size) : TarW (W.alloc o) B0 p v S s sv := h.turn (World.grownBy_alloc W o none) (fun r e => by cases e) hB
theorem TarW.drew {W : World} {B0 : Nat} {p : TP} {v : Value} {S : List (List Nat)} {s : TS} {sv : Value} (h : TarW W B0 p v S s sv) : TarW W.drew B0 p v S s sv := ⟨h.L, h.os, h.ne, h.r⟩
theorem TarW.store {W W' : World} {B0 : Nat} {p : TP} {v : Value} {S : List (List Nat)} {s s' : TS} {sv : Value} (h : TarW W B0 p v S s sv) (hp : TOk B0 p) (hst : s'.st = s.st) (b j : Nat) (x : Value) (hb : b ∈ p.blocks) (hW : W' = W.setCell ⟨b, j, none⟩ x) (hL : Lay W' (tlay p S.length v s' sv)) : TarW W' B0 p v S s' sv := by
  subst hW
  refine ⟨hL, ?_, h.ne, h.r.below (B' := B0) ((Below.refl B0 W).setCell (by exact hp.lo b hb) _) (Nat.le_refl _)⟩
  rw [hst]
  exact own_far h.os (fun k hk => heap_setCell_other _ _ _ _ (fun e => h.ne k hk (by rw [show k = b from e]; exact hb)))
theorem TFr.store {W : World} {p : TP} {sv : Value} (b j : Nat) (x : Value) (hb : b ∈ p.blocks) : TFr p W (W.setCell ⟨b, j, none⟩ x) sv sv :=
  ⟨rfl, rfl, rfl, by rw [World.size_setCell]; exact Nat.le_refl _, fun k _ hk _ => heap_setCell_other _ _ _ _ (fun e => hk (by rw [show k = b from e]; exact hb)), fun _ h => .inl h⟩
theorem TFr.alloc {W : World} {p : TP} {sv : Value} (o : Obj) : TFr p W (W.alloc o) sv sv :=
  ⟨rfl, rfl, rfl, by simp, fun k hk _ _ => Below.heap_alloc _ _ _ hk, fun _ h => .inl h⟩
theorem TFr.drew {W W' : World} {p : TP} {sv sv' : Value} (h : TFr p W W' sv sv') : TFr p W W'.drew sv sv' := ⟨h.o, h.t, h.u, h.size, h.blk, h.own⟩
theorem TFr.turn {A W W' : World} {p : TP} {sv sv' : Value} (h : TFr p A W sv sv') {row : Option Nat} (hg : W.grownBy W' row) (hr : ∀ r, row = some r → A.heap.size ≤ r) : TFr p A W' sv sv' :=
  ⟨hg.os.trans h.o, hg.tape.trans h.t, hg.output.trans h.u, Nat.le_trans h.size hg.size, fun k h1 h2 h3 => (hg.block k (Nat.lt_of_lt_of_le h1 h.size) (fun e => by have := hr k e.symm; omega)).trans (h.blk k h1 h2 h3), h.own⟩
theorem TOk.ne {B0 : Nat} {p : TP} (h : TOk B0 p) (i j : Nat) {a b : Nat} (hi : p.blocks[i]? = some a) (hj : p.blocks[j]? = some b) (hij : i ≠ j) : a ≠ b := fun e => by
  subst e
  exact hij ((List.getElem?_inj (List.getElem?_eq_some_iff.1 hi).1 h.nd).1 (hi.trans hj.symm))
theorem TarW.stack {W W1 : World} {B0 : Nat} {p : TP} {v : Value} {S : List (List Nat)} {s : TS} {sv sv1 : Value} (h : TarW W B0 p v S s sv) (hp : TOk B0 p) (hB : B0 ≤ W.heap.size) (st' : List Nat) (hg : W.grownBy W1 sv.ownBlock) (ho : W1.ownsRow B0 3 1 sv1 st'.length (st'.map natC))
    (hat : ∀ k, sv1.ownBlock = some k → sv.ownBlock = some k ∨ W.heap.size ≤ k) : TarW (W1.setCell ⟨p.bs, 0, none⟩ sv1) B0 p v S { s with st := st' } sv1 ∧ TFr p W (W1.setCell ⟨p.bs, 0, none⟩ sv1) sv sv1 := by
  have hne : ∀ k, sv1.ownBlock = some k → k ∉ p.blocks := fun k hk hm => by
    rcases hat k hk with e | e
    · exact h.ne k e hm
    · have := h.lt k hm; omega
  have hb : p.bs ∈ p.blocks := by simp [TP.blocks]
  refine ⟨⟨(h.L.grown hg (fun r e => h.ne r e)).box hp.nd 3 rfl sv1, own_far ho (fun k hk => heap_setCell_other _ _ _ _ (fun e => hne k hk (by rw [show k = p.bs from e]; exact hb))), hne, ?_⟩, ⟨hg.os, hg.tape, hg.output, by rw [World.size_setCell]; exact hg.size, fun k h1 h2 h3 => ?_, hat⟩⟩
  · exact h.r.below (B' := B0) (((Below.refl B0 W).grown hg hB (fun k e => (h.os.lt k e).1)).setCell (by exact hp.lo _ hb) _) (Nat.le_refl _)
  · exact (heap_setCell_other _ _ _ _ (fun e => h2 (by rw [show k = p.bs from e]; exact hb))).trans (hg.block k h1 (fun e => h3 e.symm))
def HeldT (a b c d : Addr) (x y z u : Value) (W : World) : Prop := W.cell? a = some x ∧ W.cell? b = some y ∧ W.cell? c = some z ∧ W.cell? d = some u
def HeldV (a b c d f : Addr) (x y z u q : Value) (W : World) : Prop := W.cell? a = some x ∧ W.cell? b = some y ∧ W.cell? c = some z ∧ W.cell? d = some u ∧ W.cell? f = some q
theorem own_pop {W : World} {B e n g cap : Nat} {xs : List Value} {x : Value} (h : W.ownsRow B e 1 (.slice (some ⟨g, 0, none⟩) (n + 1) cap) (n + 1) (xs ++ [x])) : W.ownsRow B e 1 (.slice (some ⟨g, 0, none⟩) n cap) n xs := by
  obtain ⟨hl, h⟩ := h
  simp at hl
  refine ⟨by omega, .inr ?_⟩
  rcases h with ⟨h, _⟩ | ⟨g', cap', cur, h1, h2, h3, h4, h5, h6, h7⟩
  · cases h
  · cases h1
    refine ⟨g, cap, cur, rfl, h2, h3, by omega, h5, h6, ?_⟩
    have hx : xs.length = n := by omega
    have : (cur.toList.take ((n + 1) * 1)).take n = (xs ++ [x]).take n := by rw [h7]
    rw [List.take_take, Nat.min_eq_left (by omega)] at this
    rw [Nat.mul_one, this, ← hx, List.take_left]
theorem Shut.at {B b : Nat} {W W' : World} (h : Shut B W W') (hc : ∃ o : Obj, W.heap[b]? = some o ∧ o.isCells = true) : W'.heap[b]? = W.heap[b]? := by
  obtain ⟨o, h1, h2⟩ := hc
  rw [h.cells b o h1 h2, h1]
theorem TarW.shut {W W' : World} {B0 B : Nat} {p : TP} {v : Value} {S : List (List Nat)} {s : TS} {sv : Value} (h : TarW W B0 p v S s sv) (hs : Shut B W W') (hB : B0 ≤ B) : TarW W' B0 p v S s sv :=
  ⟨h.L.keep fun b hb _ => hs.at (h.cellsAt b hb), own_far h.os fun k hk => hs.at (own_cells h.os k hk), h.ne, h.r.below (hs.below hB) (Nat.le_refl _)⟩
theorem TFr.shut {A W W' : World} {p : TP} {sv sv' : Value} (h : TFr p A W sv sv') (hs : Shut A.heap.size W W') : TFr p A W' sv sv' :=
  ⟨hs.os.trans h.o, hs.tape.trans h.t, hs.output.trans h.u, by rw [hs.size]; exact h.size, fun k h1 h2 h3 => (hs.low k h1).trans (h.blk k h1 h2 h3), h.own⟩
end Go.Proofs.YtnjiibiafhnmgaaGreatDoor
