/- Graphs, plain: edges, successors; a list that is sorted and compacted. Graphs, plain: what is reached, and what a visit leaves. -/
import Derived.Lib.SlicesCompact
import Derived.Test.YtnjiibiafhnmgaaGreatDoorYE
namespace Go.Proofs.YtnjiibiafhnmgaaGreatDoor
set_option linter.unusedVariables false
set_option linter.unusedSimpArgs false
open Go.Lib

def sucL (n : Nat) (es : List (Int × Int)) (i : Nat) : List Nat := (List.range n).filter fun k => es.contains ((i : Int), (k : Int))
def sucs (n : Nat) (es : List (Int × Int)) : List (List Nat) := (List.range n).map (sucL n es)
def rawL (es : List (Int × Int)) (i : Nat) : List Int := (es.filter fun e => e.1 == (i : Int)).map (·.2)
def validG (n : Nat) (es : List (Int × Int)) : Bool := decide (n ≤ 1024) && decide (es.length ≤ 4096) && es.all fun e => decide (0 ≤ e.1 ∧ e.1 < n ∧ 0 ≤ e.2 ∧ e.2 < n)

theorem sucs_length (n : Nat) (es : List (Int × Int)) : (sucs n es).length = n := by simp [sucs]
theorem sucs_get (n : Nat) (es : List (Int × Int)) (i : Nat) (h : i < n) : (sucs n es)[i]? = some (sucL n es i) := by simp [sucs, h]
theorem sucs_getD (n : Nat) (es : List (Int × Int)) (i : Nat) (h : i < n) : (sucs n es).getD i [] = sucL n es i := by rw [List.getD_eq_getElem?_getD, sucs_get n es i h]; rfl
theorem mem_sucL {n : Nat} {es : List (Int × Int)} {i k : Nat} : k ∈ sucL n es i ↔ k < n ∧ ((i : Int), (k : Int)) ∈ es := by simp [sucL]
theorem sucL_length (n : Nat) (es : List (Int × Int)) (i : Nat) : (sucL n es i).length ≤ n := by
  unfold sucL
  have := List.length_filter_le (fun k : Nat => es.contains ((i : Int), (k : Int))) (List.range n)
  simpa using this
theorem sucL_sorted (n : Nat) (es : List (Int × Int)) (i : Nat) : (sucL n es i).Pairwise (· < ·) := List.Pairwise.filter _ List.pairwise_lt_range

theorem rawL_snoc (es : List (Int × Int)) (e : Int × Int) (i : Nat) : rawL (es ++ [e]) i = if e.1 = (i : Int) then rawL es i ++ [e.2] else rawL es i := by
  unfold rawL
  rw [List.filter_append]
  by_cases h : e.1 = (i : Int) <;> simp [h]
theorem mem_rawL {es : List (Int × Int)} {i : Nat} {x : Int} : x ∈ rawL es i ↔ ((i : Int), x) ∈ es := by
  unfold rawL
  rw [List.mem_map]
  constructor
  · rintro ⟨⟨a, b⟩, h, rfl⟩
    rw [List.mem_filter] at h
    have : a = (i : Int) := by simpa using h.2
    subst this
    exact h.1
  · intro h
    exact ⟨((i : Int), x), List.mem_filter.2 ⟨h, by simp⟩, rfl⟩

theorem incr_ext : ∀ {a b : List Int}, a.Pairwise (· < ·) → b.Pairwise (· < ·) → (∀ x, x ∈ a ↔ x ∈ b) → a = b
  | [], [], _, _, _ => rfl
  | [], y :: b, _, _, h => by have := (h y).2 (by simp); simp at this
  | x :: a, [], _, _, h => by have := (h x).1 (by simp); simp at this
  | x :: a, y :: b, ha, hb, h => by
    rw [List.pairwise_cons] at ha hb
    have hxy : x = y := by
      have h1 := (h x).1 (by simp)
      have h2 := (h y).2 (by simp)
      rcases List.mem_cons.1 h1 with h1 | h1
      · exact h1
      · rcases List.mem_cons.1 h2 with h2 | h2
        · exact h2.symm
        · have := hb.1 x h1
          have := ha.1 y h2
          omega
    subst hxy
    congr 1
    refine incr_ext ha.2 hb.2 fun z => ?_
    have := h z
    constructor
    · intro hz
      rcases List.mem_cons.1 (this.1 (by simp [hz])) with e | e
      · have := ha.1 z hz; omega
      · exact e
    · intro hz
      rcases List.mem_cons.1 (this.2 (by simp [hz])) with e | e
      · have := hb.1 z hz; omega
      · exact e

theorem compactUpTo_incr (d : Array Int) (hs : ∀ i j, i ≤ j → j < d.size → d[i]! ≤ d[j]!) : ∀ m, m ≤ d.size →
    (compactUpTo d m).Pairwise (· < ·) ∧ (∀ x ∈ compactUpTo d m, ∃ j, j < m ∧ d[j]! = x) ∧ (∀ j, j < m → d[j]! ∈ compactUpTo d m)
  | 0, _ => by simp [compactUpTo]
  | m + 1, hm => by
    obtain ⟨h1, h2, h3⟩ := compactUpTo_incr d hs m (by omega)
    rw [compactUpTo_succ]
    by_cases hk : keeps d m = true
    · rw [if_pos hk]
      refine ⟨?_, ?_, ?_⟩
      · rw [List.pairwise_append]
        refine ⟨h1, by simp, fun x hx y hy => ?_⟩
        obtain ⟨j, hj, rfl⟩ := h2 x hx
        rw [List.mem_singleton] at hy
        subst hy
        unfold keeps at hk
        simp only [decide_eq_true_eq] at hk
        have h0 : d[m]! ≠ d[m - 1]! := by rcases hk with hk | hk
                                          · omega
                                          · exact hk
        have ha := hs j (m - 1) (by omega) (by omega)
        have hb := hs (m - 1) m (by omega) (by omega)
        omega
      · intro x hx
        rcases List.mem_append.1 hx with hx | hx
        · obtain ⟨j, hj, e⟩ := h2 x hx; exact ⟨j, by omega, e⟩
        · rw [List.mem_singleton] at hx; exact ⟨m, by omega, hx.symm⟩
      · intro j hj
        by_cases e : j = m
        · subst e; simp
        · exact List.mem_append_left _ (h3 j (by omega))
    · rw [if_neg hk, List.append_nil]
      refine ⟨h1, fun x hx => ?_, fun j hj => ?_⟩
      · obtain ⟨j, hj, e⟩ := h2 x hx; exact ⟨j, by omega, e⟩
      · by_cases e : j = m
        · subst e
          unfold keeps at hk
          simp only [decide_eq_true_eq, not_or, ne_eq, Decidable.not_not] at hk
          rw [hk.2]
          exact h3 (j - 1) (by omega)
        · exact h3 j (by omega)

theorem compact_sort (l : List Int) (t : List Int) (ht : t.Pairwise (· < ·)) (hm : ∀ x, x ∈ t ↔ x ∈ l) : compact (l.mergeSort fun x y => decide (x ≤ y)) = t := by
  have hp := List.mergeSort_perm l (fun x y => decide (x ≤ y))
  have hs := List.pairwise_mergeSort (le := fun (x y : Int) => decide (x ≤ y)) (fun a b c h1 h2 => by simp at *; omega) (fun a b => by simp; omega) l
  generalize l.mergeSort (fun x y => decide (x ≤ y)) = s at *
  have hsz : s.toArray.size = s.length := by simp
  have key := compactUpTo_incr s.toArray (fun i j hij hj => by
    have hj' : j < s.length := by simpa using hj
    rw [getElem!_pos s.toArray i (by simp; omega), getElem!_pos s.toArray j (by simpa using hj')]
    simp only [List.getElem_toArray]
    by_cases e : i = j
    · subst e; exact Int.le_refl _
    · have := List.pairwise_iff_getElem.1 hs i j (by omega) hj' (by omega)
      simpa using this) s.length (by simp)
  unfold compact
  refine incr_ext key.1 ht fun x => ?_
  rw [hm, ← hp.mem_iff]
  constructor
  · intro hx
    obtain ⟨j, hj, e⟩ := key.2.1 x hx
    rw [getElem!_pos s.toArray j (by simpa using hj)] at e
    simp only [List.getElem_toArray] at e
    rw [← e]
    exact List.getElem_mem hj
  · intro hx
    obtain ⟨j, hj, e⟩ := List.getElem_of_mem hx
    have := key.2.2 j hj
    rw [getElem!_pos s.toArray j (by simpa using hj)] at this
    simp only [List.getElem_toArray] at this
    rwa [e] at this

theorem validG_edge {n : Nat} {es : List (Int × Int)} (h : validG n es = true) {e : Int × Int} (he : e ∈ es) : 0 ≤ e.1 ∧ e.1 < n ∧ 0 ≤ e.2 ∧ e.2 < n := by
  unfold validG at h
  simp only [Bool.and_eq_true, List.all_eq_true, decide_eq_true_eq] at h
  exact h.2 e he
theorem validG_n {n : Nat} {es : List (Int × Int)} (h : validG n es = true) : n ≤ 1024 ∧ es.length ≤ 4096 := by
  unfold validG at h
  simp only [Bool.and_eq_true, decide_eq_true_eq] at h
  exact h.1
theorem compact_raw {n : Nat} {es : List (Int × Int)} (h : validG n es = true) (i : Nat) : compact ((rawL es i).mergeSort fun x y => decide (x ≤ y)) = ((sucL n es i).map Int.ofNat) := by
  refine compact_sort _ _ ?_ fun x => ?_
  · rw [List.pairwise_map]
    exact (sucL_sorted n es i).imp fun h => Int.ofNat_lt.2 h
  · rw [mem_rawL, List.mem_map]
    constructor
    · rintro ⟨k, hk, rfl⟩
      exact (mem_sucL.1 hk).2
    · intro hx
      have := validG_edge h hx
      have e : ((x.toNat : Nat) : Int) = x := by omega
      refine ⟨x.toNat, mem_sucL.2 ⟨by omega, ?_⟩, e⟩
      rw [e]
      exact hx
end Go.Proofs.YtnjiibiafhnmgaaGreatDoor

namespace Go.Proofs.YtnjiibiafhnmgaaGreatDoor
set_option linter.unusedVariables false
set_option linter.unusedSimpArgs false

inductive Rch (S : List (List Nat)) : Nat → Nat → Prop
  | refl (a : Nat) : Rch S a a
  | step {a b c : Nat} : b ∈ S.getD a [] → Rch S b c → Rch S a c
theorem Rch.trans {S : List (List Nat)} {a b c : Nat} (h : Rch S a b) (k : Rch S b c) : Rch S a c := by
  induction h with
  | refl => exact k
  | step hb _ ih => exact .step hb (ih k)

def Mono (a b : List Bool) : Prop := a.length = b.length ∧ ∀ i : Nat, a[i]? = some true → b[i]? = some true
def VisR (S : List (List Nat)) (seen : List Bool) (n : Nat) (seen' : List Bool) : Prop :=
  Mono seen seen' ∧ seen'[n]? = some true ∧ ∀ a : Nat, seen'[a]? = some true → seen[a]? ≠ some true → Rch S n a ∧ ∀ k ∈ S.getD a [], seen'[k]? = some true
def VisL (S : List (List Nat)) (s0 : List Bool) (pre : List Nat) (sn : List Bool) : Prop :=
  Mono s0 sn ∧ (∀ k ∈ pre, sn[k]? = some true) ∧ ∀ a : Nat, sn[a]? = some true → s0[a]? ≠ some true → (∃ k ∈ pre, Rch S k a) ∧ ∀ k ∈ S.getD a [], sn[k]? = some true

def unseen (l : List Bool) : Nat := l.count false
theorem unseen_set : ∀ (l : List Bool) (n : Nat), l[n]? = some false → unseen (l.set n true) + 1 = unseen l
  | [], n, h => by simp at h
  | x :: l, 0, h => by
    simp at h
    subst h
    simp [unseen]
  | x :: l, n + 1, h => by
    have := unseen_set l n (by simpa using h)
    unfold unseen at *
    rw [List.set_cons_succ, List.count_cons, List.count_cons]
    omega
end Go.Proofs.YtnjiibiafhnmgaaGreatDoor

namespace Go.Proofs.YtnjiibiafhnmgaaGreatDoor
set_option linter.unusedVariables false
set_option linter.unusedSimpArgs false

def ofP (S : List (List Nat)) (node least : Nat) : List Nat := (S.getD node []).filter (fun k => decide (least ≤ k))
abbrev gD (d : List Int) (a : Nat) : Int := d.getD a (-1)
structure DistR (S : List (List Nat)) (least tgt : Nat) (d : List Int) : Prop where
  len : d.length = S.length
  lo : ∀ a, -1 ≤ gD d a
  t0 : gD d tgt = 0
  zero : ∀ a, gD d a = 0 → a = tgt
  pred : ∀ (a m : Nat), gD d a = (m : Int) + 1 → ∃ b, a ∈ ofP S b least ∧ gD d b = m
  near : ∀ b, 0 ≤ gD d b → ∀ a ∈ ofP S b least, 0 ≤ gD d a ∧ gD d a ≤ gD d b + 1

def bstep (n : Nat) (st : List Int × List Nat) (k : Nat) : List Int × List Nat := if gD st.1 k < 0 then (st.1.set k (gD st.1 n + 1), st.2 ++ [k]) else st
def unass (d : List Int) : Nat := d.countP (fun x => decide (x < 0))
theorem gD_set (d : List Int) (k : Nat) (x : Int) (a : Nat) (hk : k < d.length) : gD (d.set k x) a = if a = k then x else gD d a := by
  unfold gD
  rw [List.getD_eq_getElem?_getD, List.getD_eq_getElem?_getD]
  by_cases h : a = k
  · subst h; rw [if_pos rfl, List.getElem?_set_self hk]; rfl
  · rw [if_neg h, List.getElem?_set_ne (Ne.symm h)]
theorem gD_lt {d : List Int} {a : Nat} (h : 0 ≤ gD d a) : a < d.length := by
  unfold gD at h
  rw [List.getD_eq_getElem?_getD] at h
  cases e : d[a]? with
  | none => rw [e] at h; simp at h
  | some x => exact (List.getElem?_eq_some_iff.1 e).1

structure BfsI (S : List (List Nat)) (least tgt : Nat) (d : List Int) (q : List Nat) : Prop where
  len : d.length = S.length
  lo : ∀ a, -1 ≤ gD d a
  t0 : gD d tgt = 0
  zero : ∀ a, gD d a = 0 → a = tgt
  pred : ∀ (a m : Nat), gD d a = (m : Int) + 1 → ∃ b, a ∈ ofP S b least ∧ gD d b = m
  bound : ∀ a, gD d a + unass d < S.length
  qok : ∀ k ∈ q, 0 ≤ gD d k
  mono : q.Pairwise fun x y => gD d x ≤ gD d y
  near : ∀ a h, q.head? = some h → gD d a ≤ gD d h + 1
  done : ∀ b, 0 ≤ gD d b → b ∉ q → ∀ a ∈ ofP S b least, 0 ≤ gD d a ∧ gD d a ≤ gD d b + 1
structure BfsJ (S : List (List Nat)) (least tgt n : Nat) (pre : List Nat) (d : List Int) (q : List Nat) : Prop where
  len : d.length = S.length
  lo : ∀ a, -1 ≤ gD d a
  t0 : gD d tgt = 0
  zero : ∀ a, gD d a = 0 → a = tgt
  pred : ∀ (a m : Nat), gD d a = (m : Int) + 1 → ∃ b, a ∈ ofP S b least ∧ gD d b = m
  bound : ∀ a, gD d a + unass d < S.length
  n0 : 0 ≤ gD d n
  qok : ∀ k ∈ q, gD d n ≤ gD d k
  mono : q.Pairwise fun x y => gD d x ≤ gD d y
  near : ∀ a, gD d a ≤ gD d n + 1
  done : ∀ b, 0 ≤ gD d b → b ∉ q → b ≠ n → ∀ a ∈ ofP S b least, 0 ≤ gD d a ∧ gD d a ≤ gD d b + 1
  row : ∀ a ∈ pre, 0 ≤ gD d a ∧ gD d a ≤ gD d n + 1

theorem gD_rep (N a : Nat) : gD (List.replicate N (-1)) a = -1 := by
  unfold gD
  rw [List.getD_eq_getElem?_getD, List.getElem?_replicate]
  split <;> rfl
end Go.Proofs.YtnjiibiafhnmgaaGreatDoor

namespace Go.Proofs.YtnjiibiafhnmgaaGreatDoor
set_option linter.unusedVariables false
set_option linter.unusedSimpArgs false

def bfsRun (S : List (List Nat)) (least : Nat) : Nat → List Int → List Nat → List Int
  | 0, d, _ => d
  | _ + 1, d, [] => d
  | m + 1, d, n :: q => let st := (ofP S n least).foldl (bstep n) (d, q); bfsRun S least m st.1 st.2
def bfsD (S : List (List Nat)) (least tgt : Nat) : List Int := bfsRun S least (S.length + 1) ((List.replicate S.length (-1)).set tgt 0) [tgt]

def swapE (x : Int × Int) : Int × Int := (x.2, x.1)
theorem sucs_lt {N : Nat} {es : List (Int × Int)} : ∀ a, ∀ k ∈ (sucs N es).getD a [], k < (sucs N es).length := fun a k hk => by
  rw [sucs_length]
  by_cases ha : a < N
  · rw [sucs_getD _ _ _ ha] at hk; exact (mem_sucL.1 hk).1
  · rw [List.getD_eq_getElem?_getD, List.getElem?_eq_none (by rw [sucs_length]; omega)] at hk; simp at hk
theorem sucs_row {N : Nat} {es : List (Int × Int)} (a : Nat) : ((sucs N es).getD a []).length ≤ N := by
  by_cases ha : a < N
  · rw [sucs_getD _ _ _ ha]; exact sucL_length N es a
  · rw [List.getD_eq_getElem?_getD, List.getElem?_eq_none (by rw [sucs_length]; omega)]; simp
theorem mem_sucs {N : Nat} {es : List (Int × Int)} {a k : Nat} : k ∈ (sucs N es).getD a [] ↔ a < N ∧ k < N ∧ ((a : Int), (k : Int)) ∈ es := by
  constructor
  · intro h
    by_cases ha : a < N
    · rw [sucs_getD _ _ _ ha] at h; exact ⟨ha, mem_sucL.1 h⟩
    · rw [List.getD_eq_getElem?_getD, List.getElem?_eq_none (by rw [sucs_length]; omega)] at h; simp at h
  · rintro ⟨ha, h⟩
    rw [sucs_getD _ _ _ ha]
    exact mem_sucL.2 h
def descP (S : List (List Nat)) (far : List Int) : Nat → Nat → List Nat
  | 0, n => [n]
  | m + 1, n => n :: (match (S.getD n []).find? (fun k => gD far k == (m : Int)) with | some k => descP S far m k | none => [])
def pathF (N : Nat) (es : List (Int × Int)) (a b : Nat) : List Nat := let far := bfsD (sucs N (es.map swapE)) 0 b; if gD far a < 0 then [] else descP (sucs N es) far (gD far a).toNat a
end Go.Proofs.YtnjiibiafhnmgaaGreatDoor

namespace Go.Proofs.YtnjiibiafhnmgaaGreatDoor
set_option linter.unusedVariables false
set_option linter.unusedSimpArgs false
open Go

end Go.Proofs.YtnjiibiafhnmgaaGreatDoor

namespace Go.Proofs.YtnjiibiafhnmgaaGreatDoor
set_option linter.unusedVariables false
set_option linter.unusedSimpArgs false
open Go

theorem sub_length {α : Type} [DecidableEq α] : ∀ {l m : List α}, l.Nodup → (∀ a ∈ l, a ∈ m) → l.length ≤ m.length
  | [], m, _, _ => Nat.zero_le _
  | a :: l, m, hn, hs => by
    rw [List.nodup_cons] at hn
    have h1 := hs a (by simp)
    have h2 : l.length ≤ (m.erase a).length := sub_length hn.2 fun b hb => (List.mem_erase_of_ne (fun e => by subst e; exact hn.1 hb)).2 (hs b (by simp [hb]))
    have h3 := List.length_erase_of_mem h1
    have h4 := List.length_pos_of_mem h1
    rw [List.length_cons]
    omega
theorem incrS_nodup {s : List SelL} (h : incrS s) : (s.map (·.1)).Nodup := by
  unfold List.Nodup
  rw [List.pairwise_map]
  exact h.imp fun {a b} hab e => by rw [e, ltB_irrefl] at hab; cases hab
structure SatP (X : List RelL) (roots : List ReqL) (s : List SelL) : Prop where
  ok : checkX X = 0
  incr : incrS s
  found : ∀ y ∈ s, (findR X y).isSome = true
  own : ∀ y ∈ s, ∀ q ∈ reqsOf X y, metB s q = true
  root : ∀ q ∈ roots, metB s q = true
structure NeedI (X : List RelL) (roots : List ReqL) (s : List SelL) (seen : List ByteArray) (todo : List ReqL) : Prop where
  nodup : seen.Nodup
  seen : ∀ p ∈ seen, Need X roots s p ∧ p ∈ s.map (·.1)
  todo : ∀ q ∈ todo, Need X roots s q.1 ∧ q.1 ∈ s.map (·.1)
theorem reqsOf_len {X : List RelL} (h : checkX X = 0) (y : SelL) : (reqsOf X y).length ≤ 16 := by
  unfold reqsOf
  cases hf : findR X y with
  | none => simp
  | some r =>
    have hm : r ∈ X := List.mem_of_find?_eq_some hf
    obtain ⟨k, hk, rfl⟩ := List.mem_iff_getElem.1 hm
    unfold checkX at h
    split at h
    · exact absurd h (by decide)
    · have h1 := firstE_zero h k hk
      unfold idxErr at h1
      have h2 : relE (X.getD k default) = 0 := by
        by_cases e : relE (X.getD k default) = 0
        · exact e
        · rw [if_pos e] at h1; exact absurd h1 e
      rw [List.getD_eq_getElem?_getD, List.getElem?_eq_getElem hk] at h2
      simp only [Option.getD_some] at h2
      unfold relE at h2
      split at h2
      · exact absurd h2 (by decide)
      · split at h2
        · exact absurd h2 (by decide)
        · split at h2
          · rename_i h3; exact absurd h2 h3
          · rename_i h3
            have h4 : checkReqs X[k].reqs = 0 := Classical.not_not.1 h3
            unfold checkReqs at h4
            split at h4
            · exact absurd h4 (by decide)
            · simp only
              omega
end Go.Proofs.YtnjiibiafhnmgaaGreatDoor
