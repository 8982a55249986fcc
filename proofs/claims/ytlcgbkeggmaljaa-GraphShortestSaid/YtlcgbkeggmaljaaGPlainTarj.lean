/- Graphs, plain: the numbering of components as the program does it. -/
import Derived.Test.YtlcgbkeggmaljaaGPlainBfs
namespace Go.Proofs.Ytlcgbkeggmaljaa
set_option linter.unusedVariables false
set_option linter.unusedSimpArgs false

/-- the state of a numbering. -/
structure TS where
  ix : List Int
  lo : List Int
  co : List Int
  st : List Nat
  nx : Nat
  ct : Nat
/-- a node is entered. -/
def tmark (s : TS) (n : Nat) : TS := ⟨s.ix.set n s.nx, s.lo.set n s.nx, s.co, s.st ++ [n], s.nx + 1, s.ct⟩
/-- a node's least number becomes less. -/
def tlow (s : TS) (n : Nat) (x : Int) : TS := { s with lo := s.lo.set n (min (gD s.lo n) x) }
/-- a successor. -/
def tstep (v : TS → Nat → TS) (n : Nat) (s : TS) (k : Nat) : TS :=
  if gD s.ix k = 0 then tlow (v s k) n (gD (v s k).lo k) else if gD s.co k < 0 then tlow s n (gD s.ix k) else s
/-- a component is taken off a stack that is turned. -/
def tpopL (ct : Int) (n : Nat) : List Nat → List Int → List Nat × List Int
  | [], co => ([], co)
  | k :: r, co => if k = n then (r, co.set k ct) else tpopL ct n r (co.set k ct)
def tpop (s : TS) (n : Nat) : TS := { s with st := (tpopL s.ct n s.st.reverse s.co).1.reverse, co := (tpopL s.ct n s.st.reverse s.co).2, ct := s.ct + 1 }
/-- a node is left. -/
def tfin (s : TS) (n : Nat) : TS := if gD s.lo n < gD s.ix n then s else tpop s n
/-- a visit. -/
def visitT (S : List (List Nat)) : Nat → TS → Nat → TS
  | 0, s, _ => s
  | f + 1, s, n => tfin ((S.getD n []).foldl (tstep (visitT S f) n) (tmark s n)) n
/-- the start. -/
def tinit (N : Nat) : TS := ⟨List.replicate N 0, List.replicate N 0, List.replicate N (-1), [], 1, 0⟩
/-- a node of the outer loop. -/
def tround (S : List (List Nat)) (s : TS) (n : Nat) : TS := if gD s.ix n = 0 then visitT S S.length s n else s
def tarjan (S : List (List Nat)) : TS := (List.range S.length).foldl (tround S) (tinit S.length)

/-- how many nodes have no number. -/
def zeros (d : List Int) : Nat := d.countP (fun x => decide (x = 0))
theorem zeros_set : ∀ (d : List Int) (k : Nat) (x : Int), k < d.length → gD d k = 0 → x ≠ 0 → zeros (d.set k x) + 1 = zeros d
  | [], k, x, h, _, _ => by simp at h
  | y :: d, 0, x, _, h, hx => by
    have hy : y = 0 := h
    unfold zeros
    rw [List.set_cons_zero, List.countP_cons, List.countP_cons]
    simp [hy, hx]
  | y :: d, k + 1, x, hk, h, hx => by
    have := zeros_set d k x (by simpa using hk) h hx
    unfold zeros at *
    rw [List.set_cons_succ, List.countP_cons, List.countP_cons]
    omega
/-- what holds between two visits. -/
structure TInv (N : Nat) (s : TS) : Prop where
  li : s.ix.length = N
  ll : s.lo.length = N
  lc : s.co.length = N
  nz : s.nx + zeros s.ix = N + 1
  sl : s.st.length < s.nx
  sk : ∀ k ∈ s.st, k < N
  ct : s.ct < s.nx
/-- what a visit leaves of what it found. -/
structure TRel (s s' : TS) : Prop where
  z : zeros s'.ix ≤ zeros s.ix
  p : ∃ zs, s'.st = s.st ++ zs
  k : s.nx + s'.ct ≤ s'.nx + s.ct
theorem TRel.refl (s : TS) : TRel s s := ⟨Nat.le_refl _, ⟨[], by simp⟩, Nat.le_refl _⟩
theorem TRel.trans {a b c : TS} (h : TRel a b) (k : TRel b c) : TRel a c := by
  refine ⟨Nat.le_trans k.z h.z, ?_, by have := h.k; have := k.k; omega⟩
  obtain ⟨x, hx⟩ := h.p
  obtain ⟨y, hy⟩ := k.p
  exact ⟨x ++ y, by rw [hy, hx, List.append_assoc]⟩
theorem TInv.mark {N : Nat} {s : TS} {n : Nat} (h : TInv N s) (hn : n < N) (h0 : gD s.ix n = 0) : TInv N (tmark s n) ∧ zeros (tmark s n).ix + 1 = zeros s.ix := by
  have hx : ((s.nx : Nat) : Int) ≠ 0 := by have := h.ct; omega
  have hz := zeros_set s.ix n s.nx (by rw [h.li]; exact hn) h0 hx
  refine ⟨⟨by simp [tmark, h.li], by simp [tmark, h.ll], h.lc, ?_, ?_, ?_, ?_⟩, hz⟩
  · have := h.nz; show s.nx + 1 + zeros (s.ix.set n s.nx) = N + 1; omega
  · have := h.sl; simp [tmark]; exact this
  · intro k hk
    rcases List.mem_append.1 hk with hk | hk
    · exact h.sk k hk
    · rw [List.mem_singleton] at hk; omega
  · have := h.ct; show s.ct < s.nx + 1; omega
theorem TInv.low {N : Nat} {s : TS} (h : TInv N s) (n : Nat) (x : Int) : TInv N (tlow s n x) := ⟨h.li, by simp [tlow, h.ll], h.lc, h.nz, h.sl, h.sk, h.ct⟩
theorem TRel.low (s : TS) (n : Nat) (x : Int) : TRel s (tlow s n x) := ⟨Nat.le_refl _, ⟨[], by simp [tlow]⟩, Nat.le_refl _⟩
theorem tpopL_spec (ct : Int) (n : Nat) : ∀ (r : List Nat) (co : List Int), (tpopL ct n r co).2.length = co.length ∧ (tpopL ct n r co).1.length ≤ r.length ∧ ∃ zs, r = zs ++ (tpopL ct n r co).1
  | [], co => ⟨rfl, Nat.le_refl _, [], rfl⟩
  | k :: r, co => by
    unfold tpopL
    split
    · exact ⟨by simp, by simp, [k], rfl⟩
    · obtain ⟨h1, h2, zs, h3⟩ := tpopL_spec ct n r (co.set k ct)
      exact ⟨by simpa using h1, by simp; omega, k :: zs, by rw [List.cons_append, ← h3]⟩
/-- a stack on which the node lies is taken down to below it. -/
theorem tpopL_above (ct : Int) (n : Nat) : ∀ (zs r : List Nat) (co : List Int), n ∈ zs → ∃ ys, (tpopL ct n (zs ++ r) co).1 = ys ++ r
  | [], r, co, h => by simp at h
  | k :: zs, r, co, h => by
    show ∃ ys, (if k = n then (zs ++ r, co.set k ct) else tpopL ct n (zs ++ r) (co.set k ct)).1 = ys ++ r
    by_cases e : k = n
    · rw [if_pos e]; exact ⟨zs, rfl⟩
    · rw [if_neg e]
      exact tpopL_above ct n zs r _ (by rcases List.mem_cons.1 h with h | h; exact absurd h.symm e; exact h)
theorem TInv.pop {N : Nat} {s : TS} (h : TInv N s) (n : Nat) (hc : s.ct + 1 < s.nx) : TInv N (tpop s n) := by
  obtain ⟨h1, h2, zs, h3⟩ := tpopL_spec s.ct n s.st.reverse s.co
  refine ⟨h.li, h.ll, by show (tpopL s.ct n s.st.reverse s.co).2.length = N; rw [h1, h.lc], h.nz, ?_, ?_, hc⟩
  · have := h.sl
    show (tpopL s.ct n s.st.reverse s.co).1.reverse.length < s.nx
    rw [List.length_reverse] at *
    omega
  · intro k hk
    have hk2 : k ∈ (tpopL s.ct n s.st.reverse s.co).1 := List.mem_reverse.1 hk
    refine h.sk k (List.mem_reverse.1 ?_)
    rw [h3]
    exact List.mem_append_right _ hk2
/-- the successors of a node, one after the other. -/
theorem tfold_ok {N f n : Nat} {v : TS → Nat → TS} (hv : ∀ s k, zeros s.ix ≤ f → TInv N s → k < N → gD s.ix k = 0 → TInv N (v s k) ∧ TRel s (v s k)) :
    ∀ (l : List Nat) (s : TS), (∀ k ∈ l, k < N) → zeros s.ix ≤ f → TInv N s → TInv N (l.foldl (tstep v n) s) ∧ TRel s (l.foldl (tstep v n) s)
  | [], s, _, _, h => ⟨h, TRel.refl _⟩
  | k :: l, s, hl, hz, h => by
    have h1 : TInv N (tstep v n s k) ∧ TRel s (tstep v n s k) := by
      unfold tstep
      split
      · obtain ⟨h1, h2⟩ := hv s k hz h (hl k (by simp)) ‹_›
        exact ⟨h1.low _ _, h2.trans (TRel.low _ _ _)⟩
      · split
        · exact ⟨h.low _ _, TRel.low _ _ _⟩
        · exact ⟨h, TRel.refl _⟩
    obtain ⟨h2, h3⟩ := tfold_ok (n := n) hv l (tstep v n s k) (fun j hj => hl j (by simp [hj])) (Nat.le_trans h1.2.z hz) h1.1
    exact ⟨h2, h1.2.trans h3⟩
theorem visitT_ok {S : List (List Nat)} (hS : ∀ a, ∀ k ∈ S.getD a [], k < S.length) : ∀ (f : Nat) (s : TS) (n : Nat), zeros s.ix ≤ f → TInv S.length s → n < S.length → gD s.ix n = 0 → TInv S.length (visitT S f s n) ∧ TRel s (visitT S f s n)
  | 0, s, n, hz, h, hn, h0 => by
    have := zeros_set s.ix n 1 (by rw [h.li]; exact hn) h0 (by decide)
    omega
  | f + 1, s, n, hz, h, hn, h0 => by
    obtain ⟨m1, m2⟩ := h.mark hn h0
    obtain ⟨f1, f2⟩ := tfold_ok (n := n) (fun s k a b c d => visitT_ok hS f s k a b c d) (S.getD n []) (tmark s n) (hS n) (by omega) m1
    unfold visitT
    generalize (S.getD n []).foldl (tstep (visitT S f) n) (tmark s n) = t at *
    obtain ⟨zs, hzs⟩ := f2.p
    have hk := f2.k
    have e1 : (tmark s n).nx = s.nx + 1 := rfl
    have e2 : (tmark s n).ct = s.ct := rfl
    have e3 : (tmark s n).st = s.st ++ [n] := rfl
    have hz2 := f2.z
    have hct := h.ct
    unfold tfin
    split
    · exact ⟨f1, by omega, ⟨[n] ++ zs, by rw [hzs, e3, List.append_assoc]⟩, by omega⟩
    · refine ⟨f1.pop n (by omega), by show zeros t.ix ≤ _; omega, ?_, by show s.nx + (t.ct + 1) ≤ t.nx + s.ct; omega⟩
      obtain ⟨ys, hys⟩ := tpopL_above t.ct n (zs.reverse ++ [n]) s.st.reverse t.co (by simp)
      refine ⟨ys.reverse, ?_⟩
      show (tpopL t.ct n t.st.reverse t.co).1.reverse = _
      have : t.st.reverse = zs.reverse ++ [n] ++ s.st.reverse := by rw [hzs, e3]; simp
      rw [this, hys]
      simp
theorem tinit_ok (N : Nat) : TInv N (tinit N) := by
  refine ⟨by simp [tinit], by simp [tinit], by simp [tinit], ?_, by simp [tinit], by simp [tinit], by simp [tinit]⟩
  have : zeros (List.replicate N 0) = N := by
    unfold zeros
    rw [List.countP_replicate]
    simp
  show 1 + zeros (List.replicate N 0) = N + 1
  omega
theorem zeros_le (d : List Int) : zeros d ≤ d.length := List.countP_le_length
theorem tround_ok {S : List (List Nat)} (hS : ∀ a, ∀ k ∈ S.getD a [], k < S.length) (s : TS) (n : Nat) (hn : n < S.length) (h : TInv S.length s) : TInv S.length (tround S s n) := by
  unfold tround
  split
  · exact (visitT_ok hS S.length s n (by have := zeros_le s.ix; rw [h.li] at this; exact this) h hn ‹_›).1
  · exact h
/-- the outer loop's first rounds. -/
def trun (S : List (List Nat)) (k : Nat) : TS := (List.range k).foldl (tround S) (tinit S.length)
theorem trun_succ (S : List (List Nat)) (k : Nat) : trun S (k + 1) = tround S (trun S k) k := by
  unfold trun
  rw [List.range_succ, List.foldl_append]
  rfl
theorem tarj_inv {S : List (List Nat)} (hS : ∀ a, ∀ k ∈ S.getD a [], k < S.length) : ∀ k, k ≤ S.length → TInv S.length (trun S k)
  | 0, _ => tinit_ok _
  | k + 1, h => by
    rw [trun_succ]
    exact tround_ok hS _ k (by omega) (tarj_inv hS k (by omega))
end Go.Proofs.Ytlcgbkeggmaljaa
