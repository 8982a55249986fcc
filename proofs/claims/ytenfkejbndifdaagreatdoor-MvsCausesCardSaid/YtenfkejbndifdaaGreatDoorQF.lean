/- The graph of a selection, plain; what solving says. Graphs, plain: edges, successors; a list that is sorted and compacted. Graphs, plain: what is reached, and what a visit leaves. Graphs, plain: breadth-first distances. Graphs, plain: distances computed; the least shortest way; a reversed graph's successors. A selection that is needed whole: all its nodes are reached. -/
import Derived.Test.YtenfkejbndifdaaGreatDoorQD
import Derived.Lib.SlicesCompact
namespace Go.Proofs.YtenfkejbndifdaaGreatDoor
set_option linter.unusedVariables false
set_option linter.unusedSimpArgs false
open Go

theorem ltB_irrefl (a : ByteArray) : ltB a a = false := by
  unfold ltB
  generalize a.toList = l
  induction l with
  | nil => rfl
  | cons c l ih => simp [Op.bytesLess, ih]
def pathIx (s : List SelL) (p : ByteArray) : Option Nat := s.findIdx? fun z => decide (z.1 = p)
def nodeE (s : List SelL) (i : Nat) (l : List ReqL) : List (Int × Int) := l.filterMap fun q => (pathIx s q.1).map fun k => ((i : Int), (k : Int))
def reqsOf (X : List RelL) (y : SelL) : List ReqL := match findR X y with
  | some r => r.reqs
  | none => []
def edgesK (X : List RelL) (s : List SelL) (k : Nat) : List (Int × Int) := (List.range k).flatMap fun i => nodeE s i (reqsOf X (s.getD i default))
noncomputable def ofV (X : List RelL) (s : List SelL) : (List ByteArray × List (Int × Int)) × Int := open Classical in
  if checkX X ≠ 0 ∨ ¬ incrS s then (([], []), 1)
  else if (s.all fun y => (findR X y).isSome) = true then ((s.map (·.1), edgesK X s s.length), 0)
  else (([], []), 6)
inductive Need (X : List RelL) (roots : List ReqL) (s : List SelL) : ByteArray → Prop
  | root {q : ReqL} (h : q ∈ roots) : Need X roots s q.1
  | step {y : SelL} {q : ReqL} (hy : y ∈ s) (h : Need X roots s y.1) (hq : q ∈ reqsOf X y) : Need X roots s q.1
def metB (s : List SelL) (q : ReqL) : Bool := s.any fun y => decide (y.1 = q.1) && hasB q.2 (1000 * y.2.2.1 + y.2.2.2)
end Go.Proofs.YtenfkejbndifdaaGreatDoor

namespace Go.Proofs.YtenfkejbndifdaaGreatDoor
set_option linter.unusedVariables false
set_option linter.unusedSimpArgs false
open Go.Lib

def sucL (n : Nat) (es : List (Int × Int)) (i : Nat) : List Nat := (List.range n).filter fun k => es.contains ((i : Int), (k : Int))
def sucs (n : Nat) (es : List (Int × Int)) : List (List Nat) := (List.range n).map (sucL n es)
def rawL (es : List (Int × Int)) (i : Nat) : List Int := (es.filter fun e => e.1 == (i : Int)).map (·.2)
def validG (n : Nat) (es : List (Int × Int)) : Bool := decide (n ≤ 1024) && decide (es.length ≤ 4096) && es.all fun e => decide (0 ≤ e.1 ∧ e.1 < n ∧ 0 ≤ e.2 ∧ e.2 < n)

theorem sucs_length (n : Nat) (es : List (Int × Int)) : (sucs n es).length = n := by simp [sucs]
theorem sucs_get (n : Nat) (es : List (Int × Int)) (i : Nat) (h : i < n) : (sucs n es)[i]? = some (sucL n es i) := by simp [sucs, h]
theorem sucs_getD (n : Nat) (es : List (Int × Int)) (i : Nat) (h : i < n) : (sucs n es).getD i [] = sucL n es i := by rw [List.getD_eq_getElem?_getD, sucs_get n es i h]; rfl
theorem mem_sucL {n : Nat} {es : List (Int × Int)} {i k : Nat} : k ∈ sucL n es i ↔ k < n ∧ ((i : Int), (k : Int)) ∈ es := by simp [sucL]
theorem sucL_sorted (n : Nat) (es : List (Int × Int)) (i : Nat) : (sucL n es i).Pairwise (· < ·) := List.Pairwise.filter _ List.pairwise_lt_range

end Go.Proofs.YtenfkejbndifdaaGreatDoor

namespace Go.Proofs.YtenfkejbndifdaaGreatDoor
set_option linter.unusedVariables false
set_option linter.unusedSimpArgs false

inductive Rch (S : List (List Nat)) : Nat → Nat → Prop
  | refl (a : Nat) : Rch S a a
  | step {a b c : Nat} : b ∈ S.getD a [] → Rch S b c → Rch S a c
theorem Rch.trans {S : List (List Nat)} {a b c : Nat} (h : Rch S a b) (k : Rch S b c) : Rch S a c := by
  induction h with
  | refl => exact k
  | step hb _ ih => exact .step hb (ih k)

def Mono (a b : List Bool) : Prop := a.length = b.length ∧ ∀ i : Nat, a[i]? = some true → b[i]? = some true
def VisR (S : List (List Nat)) (seen : List Bool) (n : Nat) (seen' : List Bool) : Prop :=
  Mono seen seen' ∧ seen'[n]? = some true ∧ ∀ a : Nat, seen'[a]? = some true → seen[a]? ≠ some true → Rch S n a ∧ ∀ k ∈ S.getD a [], seen'[k]? = some true
def VisL (S : List (List Nat)) (s0 : List Bool) (pre : List Nat) (sn : List Bool) : Prop :=
  Mono s0 sn ∧ (∀ k ∈ pre, sn[k]? = some true) ∧ ∀ a : Nat, sn[a]? = some true → s0[a]? ≠ some true → (∃ k ∈ pre, Rch S k a) ∧ ∀ k ∈ S.getD a [], sn[k]? = some true

def unseen (l : List Bool) : Nat := l.count false
end Go.Proofs.YtenfkejbndifdaaGreatDoor

namespace Go.Proofs.YtenfkejbndifdaaGreatDoor
set_option linter.unusedVariables false
set_option linter.unusedSimpArgs false

def ofP (S : List (List Nat)) (node least : Nat) : List Nat := (S.getD node []).filter (fun k => decide (least ≤ k))
abbrev gD (d : List Int) (a : Nat) : Int := d.getD a (-1)
structure DistR (S : List (List Nat)) (least tgt : Nat) (d : List Int) : Prop where
  len : d.length = S.length
  lo : ∀ a, -1 ≤ gD d a
  t0 : gD d tgt = 0
  zero : ∀ a, gD d a = 0 → a = tgt
  pred : ∀ (a m : Nat), gD d a = (m : Int) + 1 → ∃ b, a ∈ ofP S b least ∧ gD d b = m
  near : ∀ b, 0 ≤ gD d b → ∀ a ∈ ofP S b least, 0 ≤ gD d a ∧ gD d a ≤ gD d b + 1

theorem DistR.le {S : List (List Nat)} {least tgt : Nat} {d e : List Int} (hd : DistR S least tgt d) (he : DistR S least tgt e) : ∀ (m a : Nat), gD d a = (m : Int) → 0 ≤ gD e a ∧ gD e a ≤ m
  | 0, a, h => by
    have : a = tgt := hd.zero a (by simpa using h)
    subst this
    rw [he.t0]; simp
  | m + 1, a, h => by
    obtain ⟨b, hb, hm⟩ := hd.pred a m (by rw [h]; simp)
    obtain ⟨h1, h2⟩ := DistR.le hd he m b hm
    obtain ⟨h3, h4⟩ := he.near b h1 a hb
    refine ⟨h3, ?_⟩
    have : ((m + 1 : Nat) : Int) = (m : Int) + 1 := by simp
    omega
theorem DistR.unique {S : List (List Nat)} {least tgt : Nat} {d e : List Int} (hd : DistR S least tgt d) (he : DistR S least tgt e) : d = e := by
  have hl : d.length = e.length := hd.len.trans he.len.symm
  refine List.ext_getElem hl fun i h1 h2 => ?_
  have e1 : gD d i = d[i] := by unfold gD; rw [List.getD_eq_getElem?_getD, List.getElem?_eq_getElem h1]; rfl
  have e2 : gD e i = e[i] := by unfold gD; rw [List.getD_eq_getElem?_getD, List.getElem?_eq_getElem h2]; rfl
  rw [← e1, ← e2]
  have a1 := hd.lo i
  have a2 := he.lo i
  by_cases h : 0 ≤ gD d i
  · have b1 := hd.le he (gD d i).toNat i (by omega)
    have b2 := he.le hd (gD e i).toNat i (by omega)
    omega
  · by_cases h' : 0 ≤ gD e i
    · have b2 := he.le hd (gD e i).toNat i (by omega)
      omega
    · omega

def bstep (n : Nat) (st : List Int × List Nat) (k : Nat) : List Int × List Nat := if gD st.1 k < 0 then (st.1.set k (gD st.1 n + 1), st.2 ++ [k]) else st
def unass (d : List Int) : Nat := d.countP (fun x => decide (x < 0))
theorem unass_set : ∀ (d : List Int) (k : Nat) (x : Int), k < d.length → gD d k < 0 → 0 ≤ x → unass (d.set k x) + 1 = unass d
  | [], k, x, h, _, _ => by simp at h
  | y :: d, 0, x, _, h, hx => by
    have hy : y < 0 := h
    unfold unass
    rw [List.set_cons_zero, List.countP_cons, List.countP_cons]
    simp [hy, show ¬ x < 0 by omega]
  | y :: d, k + 1, x, hk, h, hx => by
    have := unass_set d k x (by simpa using hk) h hx
    unfold unass at *
    rw [List.set_cons_succ, List.countP_cons, List.countP_cons]
    omega
theorem gD_set (d : List Int) (k : Nat) (x : Int) (a : Nat) (hk : k < d.length) : gD (d.set k x) a = if a = k then x else gD d a := by
  unfold gD
  rw [List.getD_eq_getElem?_getD, List.getD_eq_getElem?_getD]
  by_cases h : a = k
  · subst h; rw [if_pos rfl, List.getElem?_set_self hk]; rfl
  · rw [if_neg h, List.getElem?_set_ne (Ne.symm h)]
structure BfsI (S : List (List Nat)) (least tgt : Nat) (d : List Int) (q : List Nat) : Prop where
  len : d.length = S.length
  lo : ∀ a, -1 ≤ gD d a
  t0 : gD d tgt = 0
  zero : ∀ a, gD d a = 0 → a = tgt
  pred : ∀ (a m : Nat), gD d a = (m : Int) + 1 → ∃ b, a ∈ ofP S b least ∧ gD d b = m
  bound : ∀ a, gD d a + unass d < S.length
  qok : ∀ k ∈ q, 0 ≤ gD d k
  mono : q.Pairwise fun x y => gD d x ≤ gD d y
  near : ∀ a h, q.head? = some h → gD d a ≤ gD d h + 1
  done : ∀ b, 0 ≤ gD d b → b ∉ q → ∀ a ∈ ofP S b least, 0 ≤ gD d a ∧ gD d a ≤ gD d b + 1
structure BfsJ (S : List (List Nat)) (least tgt n : Nat) (pre : List Nat) (d : List Int) (q : List Nat) : Prop where
  len : d.length = S.length
  lo : ∀ a, -1 ≤ gD d a
  t0 : gD d tgt = 0
  zero : ∀ a, gD d a = 0 → a = tgt
  pred : ∀ (a m : Nat), gD d a = (m : Int) + 1 → ∃ b, a ∈ ofP S b least ∧ gD d b = m
  bound : ∀ a, gD d a + unass d < S.length
  n0 : 0 ≤ gD d n
  qok : ∀ k ∈ q, gD d n ≤ gD d k
  mono : q.Pairwise fun x y => gD d x ≤ gD d y
  near : ∀ a, gD d a ≤ gD d n + 1
  done : ∀ b, 0 ≤ gD d b → b ∉ q → b ≠ n → ∀ a ∈ ofP S b least, 0 ≤ gD d a ∧ gD d a ≤ gD d b + 1
  row : ∀ a ∈ pre, 0 ≤ gD d a ∧ gD d a ≤ gD d n + 1

theorem BfsJ.start {S : List (List Nat)} {least tgt n : Nat} {d : List Int} {q : List Nat} (h : BfsI S least tgt d (n :: q)) : BfsJ S least tgt n [] d q := by
  have hm := List.pairwise_cons.1 h.mono
  exact ⟨h.len, h.lo, h.t0, h.zero, h.pred, h.bound, h.qok n (by simp), hm.1, hm.2, fun a => h.near a n rfl, fun b hb hq hn => h.done b hb (by simp [hn, hq]), by simp⟩
theorem BfsJ.step {S : List (List Nat)} {least tgt n : Nat} {pre : List Nat} {st : List Int × List Nat} (h : BfsJ S least tgt n pre st.1 st.2) (k : Nat) (hk : k ∈ ofP S n least) (hkl : k < S.length) :
    BfsJ S least tgt n (pre ++ [k]) (bstep n st k).1 (bstep n st k).2 ∧ unass (bstep n st k).1 + (bstep n st k).2.length = unass st.1 + st.2.length := by
  obtain ⟨d, q⟩ := st
  simp only at h
  unfold bstep
  by_cases hneg : gD d k < 0
  · simp only [hneg, if_true]
    have hkd : k < d.length := by rw [h.len]; exact hkl
    have hn0 := h.n0
    have hu := unass_set d k (gD d n + 1) hkd hneg (by omega)
    have hkn : n ≠ k := fun e => by subst e; omega
    have hnn : gD (d.set k (gD d n + 1)) n = gD d n := by rw [gD_set _ _ _ _ hkd, if_neg hkn]
    have hg : ∀ a, gD (d.set k (gD d n + 1)) a = if a = k then gD d n + 1 else gD d a := fun a => gD_set _ _ _ _ hkd
    refine ⟨⟨by rw [List.length_set]; exact h.len, fun a => ?_, ?_, fun a ha => ?_, fun a m ha => ?_, fun a => ?_, by rw [hnn]; exact hn0, fun j hj => ?_, ?_, fun a => ?_, fun b hb hq hbn a ha => ?_, fun a ha => ?_⟩, ?_⟩
    · rw [hg]; split
      · omega
      · exact h.lo a
    · rw [hg]; split
      · rename_i e; subst e; have := h.t0; omega
      · exact h.t0
    · rw [hg] at ha; split at ha
      · omega
      · exact h.zero a ha
    · rw [hg] at ha; split at ha
      · rename_i e
        subst e
        exact ⟨n, hk, by rw [hnn]; omega⟩
      · obtain ⟨b, hb, hm⟩ := h.pred a m ha
        refine ⟨b, hb, ?_⟩
        rw [hg, if_neg (fun e => by subst e; omega)]
        exact hm
    · rw [hg]
      have b1 := h.bound n
      have b2 := h.bound a
      split <;> omega
    · rw [hnn, hg]
      split
      · omega
      · rename_i e
        rcases List.mem_append.1 hj with hj | hj
        · exact h.qok j hj
        · rw [List.mem_singleton] at hj; exact absurd hj e
    · rw [List.pairwise_append]
      refine ⟨h.mono.imp_of_mem fun {x y} hx hy hxy => ?_, by simp, fun x hx y hy => ?_⟩
      · have e1 : x ≠ k := fun e => by subst e; have := h.qok x hx; omega
        have e2 : y ≠ k := fun e => by subst e; have := h.qok y hy; omega
        rw [hg, hg, if_neg e1, if_neg e2]
        exact hxy
      · rw [List.mem_singleton] at hy
        subst hy
        have e1 : x ≠ y := fun e => by subst e; have := h.qok x hx; omega
        rw [hg, hg, if_neg e1, if_pos rfl]
        exact h.near x
    · rw [hnn, hg]
      split
      · omega
      · exact h.near a
    · have hbk : b ≠ k := fun e => hq (by simp [e])
      rw [hg, if_neg hbk] at hb
      obtain ⟨h1, h2⟩ := h.done b hb (fun e => hq (by simp [e])) hbn a ha
      have hak : a ≠ k := fun e => by subst e; omega
      rw [hg, hg, if_neg hak, if_neg hbk]
      exact ⟨h1, h2⟩
    · rw [hnn, hg]
      split
      · omega
      · rename_i e
        rcases List.mem_append.1 ha with ha | ha
        · exact h.row a ha
        · rw [List.mem_singleton] at ha; exact absurd ha e
    · rw [List.length_append, List.length_singleton]; omega
  · simp only [hneg, if_false]
    refine ⟨⟨h.len, h.lo, h.t0, h.zero, h.pred, h.bound, h.n0, h.qok, h.mono, h.near, h.done, fun a ha => ?_⟩, trivial⟩
    rcases List.mem_append.1 ha with ha | ha
    · exact h.row a ha
    · rw [List.mem_singleton] at ha
      subst ha
      exact ⟨by omega, h.near a⟩
theorem BfsJ.fin {S : List (List Nat)} {least tgt n : Nat} {d : List Int} {q : List Nat} (h : BfsJ S least tgt n (ofP S n least) d q) : BfsI S least tgt d q := by
  refine ⟨h.len, h.lo, h.t0, h.zero, h.pred, h.bound, fun k hk => by have := h.qok k hk; have := h.n0; omega, h.mono, fun a x hx => ?_, fun b hb hq a ha => ?_⟩
  · have h1 := h.near a
    have h2 := h.qok x (List.mem_of_mem_head? hx)
    omega
  · by_cases e : b = n
    · subst e; exact h.row a ha
    · exact h.done b hb hq e a ha
theorem BfsI.dist {S : List (List Nat)} {least tgt : Nat} {d : List Int} (h : BfsI S least tgt d []) : DistR S least tgt d :=
  ⟨h.len, h.lo, h.t0, h.zero, h.pred, fun b hb => h.done b hb (by simp)⟩
theorem gD_rep (N a : Nat) : gD (List.replicate N (-1)) a = -1 := by
  unfold gD
  rw [List.getD_eq_getElem?_getD, List.getElem?_replicate]
  split <;> rfl
theorem BfsI.start {S : List (List Nat)} {least tgt : Nat} (hto : tgt < S.length) : BfsI S least tgt ((List.replicate S.length (-1)).set tgt 0) [tgt] := by
  have hl : tgt < (List.replicate S.length (-1 : Int)).length := by simpa using hto
  have hg : ∀ a, gD ((List.replicate S.length (-1)).set tgt 0) a = if a = tgt then 0 else -1 := fun a => by rw [gD_set _ _ _ _ hl, gD_rep]
  have hu : unass ((List.replicate S.length (-1)).set tgt 0) + 1 = S.length := by
    rw [unass_set _ _ _ hl (by rw [gD_rep]; omega) (by omega)]
    unfold unass
    rw [List.countP_replicate]
    simp
  refine ⟨by simp, fun a => ?_, ?_, fun a ha => ?_, fun a m ha => ?_, fun a => ?_, fun k hk => ?_, by simp, fun a h hh => ?_, fun b hb hq a ha => ?_⟩
  · rw [hg]; split <;> omega
  · rw [hg, if_pos rfl]
  · rw [hg] at ha; split at ha
    · assumption
    · omega
  · rw [hg] at ha; split at ha <;> omega
  · rw [hg]; split <;> omega
  · rw [List.mem_singleton] at hk; subst hk; rw [hg, if_pos rfl]; omega
  · simp at hh; subst hh; rw [hg, hg, if_pos rfl]; split <;> omega
  · rw [hg] at hb; split at hb
    · rename_i e; exact absurd (by simp [e]) hq
    · omega
end Go.Proofs.YtenfkejbndifdaaGreatDoor

namespace Go.Proofs.YtenfkejbndifdaaGreatDoor
set_option linter.unusedVariables false
set_option linter.unusedSimpArgs false

def bfsRun (S : List (List Nat)) (least : Nat) : Nat → List Int → List Nat → List Int
  | 0, d, _ => d
  | _ + 1, d, [] => d
  | m + 1, d, n :: q => let st := (ofP S n least).foldl (bstep n) (d, q); bfsRun S least m st.1 st.2
def bfsD (S : List (List Nat)) (least tgt : Nat) : List Int := bfsRun S least (S.length + 1) ((List.replicate S.length (-1)).set tgt 0) [tgt]

theorem BfsJ.fold {S : List (List Nat)} {least tgt n : Nat} (hS : ∀ a, ∀ k ∈ S.getD a [], k < S.length) : ∀ (l : List Nat) (pre : List Nat) (st : List Int × List Nat), pre ++ l = ofP S n least → BfsJ S least tgt n pre st.1 st.2 →
    BfsJ S least tgt n (ofP S n least) (l.foldl (bstep n) st).1 (l.foldl (bstep n) st).2 ∧ unass (l.foldl (bstep n) st).1 + (l.foldl (bstep n) st).2.length = unass st.1 + st.2.length
  | [], pre, st, hp, h => by rw [List.append_nil] at hp; subst hp; exact ⟨h, rfl⟩
  | k :: l, pre, st, hp, h => by
    have hk : k ∈ ofP S n least := by rw [← hp]; simp
    have hkl : k < S.length := by unfold ofP at hk; exact hS n k (List.mem_filter.1 hk).1
    obtain ⟨h1, h2⟩ := h.step k hk hkl
    obtain ⟨h3, h4⟩ := BfsJ.fold hS l (pre ++ [k]) (bstep n st k) (by rw [← hp]; simp) h1
    exact ⟨h3, h4.trans h2⟩
theorem bfsRun_dist {S : List (List Nat)} {least tgt : Nat} (hS : ∀ a, ∀ k ∈ S.getD a [], k < S.length) : ∀ (m : Nat) (d : List Int) (q : List Nat), BfsI S least tgt d q → unass d + q.length < m → DistR S least tgt (bfsRun S least m d q)
  | 0, _, _, _, h => by omega
  | m + 1, d, [], hI, _ => hI.dist
  | m + 1, d, n :: q, hI, h => by
    obtain ⟨h1, h2⟩ := BfsJ.fold hS (ofP S n least) [] (d, q) rfl (BfsJ.start hI)
    refine bfsRun_dist hS m _ _ h1.fin ?_
    rw [h2]
    simp at h ⊢
    omega
theorem bfsD_dist {S : List (List Nat)} {least tgt : Nat} (hS : ∀ a, ∀ k ∈ S.getD a [], k < S.length) (hto : tgt < S.length) : DistR S least tgt (bfsD S least tgt) := by
  have hu : unass ((List.replicate S.length (-1)).set tgt 0) + 1 = S.length := by
    rw [unass_set _ _ _ (by simpa using hto) (by rw [gD_rep]; omega) (by omega)]
    unfold unass
    rw [List.countP_replicate]
    simp
  exact bfsRun_dist hS _ _ _ (BfsI.start hto) (by simp; omega)
theorem DistR.eq {S : List (List Nat)} {least tgt : Nat} {d : List Int} (h : DistR S least tgt d) (hS : ∀ a, ∀ k ∈ S.getD a [], k < S.length) (hto : tgt < S.length) : d = bfsD S least tgt := h.unique (bfsD_dist hS hto)

def swapE (x : Int × Int) : Int × Int := (x.2, x.1)
theorem sucs_lt {N : Nat} {es : List (Int × Int)} : ∀ a, ∀ k ∈ (sucs N es).getD a [], k < (sucs N es).length := fun a k hk => by
  rw [sucs_length]
  by_cases ha : a < N
  · rw [sucs_getD _ _ _ ha] at hk; exact (mem_sucL.1 hk).1
  · rw [List.getD_eq_getElem?_getD, List.getElem?_eq_none (by rw [sucs_length]; omega)] at hk; simp at hk
theorem mem_sucs {N : Nat} {es : List (Int × Int)} {a k : Nat} : k ∈ (sucs N es).getD a [] ↔ a < N ∧ k < N ∧ ((a : Int), (k : Int)) ∈ es := by
  constructor
  · intro h
    by_cases ha : a < N
    · rw [sucs_getD _ _ _ ha] at h; exact ⟨ha, mem_sucL.1 h⟩
    · rw [List.getD_eq_getElem?_getD, List.getElem?_eq_none (by rw [sucs_length]; omega)] at h; simp at h
  · rintro ⟨ha, h⟩
    rw [sucs_getD _ _ _ ha]
    exact mem_sucL.2 h
theorem mem_swap {es : List (Int × Int)} {a b : Int} : (a, b) ∈ es.map swapE ↔ (b, a) ∈ es := by
  rw [List.mem_map]
  constructor
  · rintro ⟨⟨x, y⟩, h, e⟩
    unfold swapE at e
    simp at e
    obtain ⟨rfl, rfl⟩ := e
    exact h
  · intro h; exact ⟨(b, a), h, rfl⟩
theorem DistR.desc {N : Nat} {es : List (Int × Int)} {least tgt : Nat} {d : List Int} (h : DistR (sucs N (es.map swapE)) least tgt d) : ∀ a (m : Nat), gD d a = (m : Int) + 1 → ∃ k ∈ (sucs N es).getD a [], gD d k = (m : Int) := fun a m ha => by
  obtain ⟨b, hb, hm⟩ := h.pred a m ha
  unfold ofP at hb
  have := (List.mem_filter.1 hb).1
  obtain ⟨h1, h2, h3⟩ := mem_sucs.1 this
  exact ⟨b, mem_sucs.2 ⟨h2, h1, mem_swap.1 h3⟩, hm⟩
theorem DistR.bound {S : List (List Nat)} {least tgt : Nat} {d : List Int} (h : DistR S least tgt d) (hS : ∀ a, ∀ k ∈ S.getD a [], k < S.length) (hto : tgt < S.length) : ∀ a, gD d a ≤ S.length := by
  have key : ∀ (m : Nat) (d : List Int) (q : List Nat), BfsI S least tgt d q → unass d + q.length < m → ∀ a, gD (bfsRun S least m d q) a ≤ S.length := by
    intro m
    induction m with
    | zero => intro _ _ _ h; omega
    | succ m ih =>
      intro d q hI hm
      cases q with
      | nil => intro a; have := hI.bound a; show gD d a ≤ S.length; omega
      | cons n q =>
        obtain ⟨h1, h2⟩ := BfsJ.fold hS (ofP S n least) [] (d, q) rfl (BfsJ.start hI)
        exact ih _ _ h1.fin (by rw [h2]; simp at hm ⊢; omega)
  rw [h.eq hS hto]
  have hu : unass ((List.replicate S.length (-1)).set tgt 0) + 1 = S.length := by
    rw [unass_set _ _ _ (by simpa using hto) (by rw [gD_rep]; omega) (by omega)]
    unfold unass
    rw [List.countP_replicate]
    simp
  exact key _ _ _ (BfsI.start hto) (by simp; omega)

def descP (S : List (List Nat)) (far : List Int) : Nat → Nat → List Nat
  | 0, n => [n]
  | m + 1, n => n :: (match (S.getD n []).find? (fun k => gD far k == (m : Int)) with | some k => descP S far m k | none => [])
def pathF (N : Nat) (es : List (Int × Int)) (a b : Nat) : List Nat := let far := bfsD (sucs N (es.map swapE)) 0 b; if gD far a < 0 then [] else descP (sucs N es) far (gD far a).toNat a
end Go.Proofs.YtenfkejbndifdaaGreatDoor

namespace Go.Proofs.YtenfkejbndifdaaGreatDoor
set_option linter.unusedVariables false
set_option linter.unusedSimpArgs false
open Go

end Go.Proofs.YtenfkejbndifdaaGreatDoor
