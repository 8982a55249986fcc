/- Graphs, plain: what is reached, and what a visit leaves. -/
import Derived.Test.YtlcgbkeggmaljaaGPlain
namespace Go.Proofs.Ytlcgbkeggmaljaa
set_option linter.unusedVariables false
set_option linter.unusedSimpArgs false

/-- a way leads from a node to another one. -/
inductive Rch (S : List (List Nat)) : Nat → Nat → Prop
  | refl (a : Nat) : Rch S a a
  | step {a b c : Nat} : b ∈ S.getD a [] → Rch S b c → Rch S a c
theorem Rch.trans {S : List (List Nat)} {a b c : Nat} (h : Rch S a b) (k : Rch S b c) : Rch S a c := by
  induction h with
  | refl => exact k
  | step hb _ ih => exact .step hb (ih k)

/-- the nodes that have been seen grow. -/
def Mono (a b : List Bool) : Prop := a.length = b.length ∧ ∀ i : Nat, a[i]? = some true → b[i]? = some true
theorem Mono.refl (a : List Bool) : Mono a a := ⟨rfl, fun _ h => h⟩
theorem Mono.trans {a b c : List Bool} (h : Mono a b) (k : Mono b c) : Mono a c := ⟨h.1.trans k.1, fun i hi => k.2 i (h.2 i hi)⟩

/-- what a visit of a node leaves. -/
def VisR (S : List (List Nat)) (seen : List Bool) (n : Nat) (seen' : List Bool) : Prop :=
  Mono seen seen' ∧ seen'[n]? = some true ∧ ∀ a : Nat, seen'[a]? = some true → seen[a]? ≠ some true → Rch S n a ∧ ∀ k ∈ S.getD a [], seen'[k]? = some true
/-- what the visits of some nodes leave. -/
def VisL (S : List (List Nat)) (s0 : List Bool) (pre : List Nat) (sn : List Bool) : Prop :=
  Mono s0 sn ∧ (∀ k ∈ pre, sn[k]? = some true) ∧ ∀ a : Nat, sn[a]? = some true → s0[a]? ≠ some true → (∃ k ∈ pre, Rch S k a) ∧ ∀ k ∈ S.getD a [], sn[k]? = some true

theorem VisL.nil (S : List (List Nat)) (s0 : List Bool) : VisL S s0 [] s0 := ⟨Mono.refl _, by simp, fun a h1 h2 => absurd h1 h2⟩
theorem VisL.snoc {S : List (List Nat)} {s0 sn sn' : List Bool} {pre : List Nat} {k : Nat} (h : VisL S s0 pre sn) (hv : VisR S sn k sn') : VisL S s0 (pre ++ [k]) sn' := by
  obtain ⟨h1, h2, h3⟩ := h
  obtain ⟨v1, v2, v3⟩ := hv
  refine ⟨h1.trans v1, fun j hj => ?_, fun a ha hna => ?_⟩
  · rcases List.mem_append.1 hj with hj | hj
    · exact v1.2 _ (h2 j hj)
    · rw [List.mem_singleton] at hj; rw [hj]; exact v2
  · by_cases hs : sn[a]? = some true
    · obtain ⟨⟨j, hj, hr⟩, hc⟩ := h3 a hs hna
      exact ⟨⟨j, by simp [hj], hr⟩, fun i hi => v1.2 _ (hc i hi)⟩
    · obtain ⟨hr, hc⟩ := v3 a ha hs
      exact ⟨⟨k, by simp, hr⟩, hc⟩
theorem VisR.seen {S : List (List Nat)} {seen : List Bool} {n : Nat} (h : seen[n]? = some true) : VisR S seen n seen := ⟨Mono.refl _, h, fun a h1 h2 => absurd h1 h2⟩
theorem VisR.done {S : List (List Nat)} {seen sn : List Bool} {n : Nat} (h : seen[n]? = some false) (hl : VisL S (seen.set n true) (S.getD n []) sn) : VisR S seen n sn := by
  obtain ⟨h1, h2, h3⟩ := hl
  have hn : n < seen.length := (List.getElem?_eq_some_iff.1 h).1
  have hnn : (seen.set n true)[n]? = some true := List.getElem?_set_self hn
  refine ⟨⟨by rw [← h1.1, List.length_set], fun i hi => ?_⟩, h1.2 _ hnn, fun a ha hna => ?_⟩
  · refine h1.2 _ ?_
    by_cases e : i = n
    · subst e; exact hnn
    · rw [List.getElem?_set_ne (Ne.symm e)]; exact hi
  · by_cases e : a = n
    · subst e
      exact ⟨.refl _, h2⟩
    · obtain ⟨⟨k, hk, hr⟩, hc⟩ := h3 a ha (by rw [List.getElem?_set_ne (Ne.symm e)]; exact hna)
      exact ⟨.step hk hr, hc⟩

/-- how many have not been seen. -/
def unseen (l : List Bool) : Nat := l.count false
theorem Mono.left : ∀ {a b : List Bool}, Mono a b → unseen b ≤ unseen a
  | [], [], _ => Nat.le_refl _
  | [], _ :: _, h => by have := h.1; simp at this
  | _ :: _, [], h => by have := h.1; simp at this
  | x :: a, y :: b, h => by
    have ih := Mono.left (a := a) (b := b) ⟨by have := h.1; simpa using this, fun i hi => by have := h.2 (i + 1) (by simpa using hi); simpa using this⟩
    unfold unseen at *
    have h0 := h.2 0
    simp at h0
    rw [List.count_cons, List.count_cons]
    cases x <;> cases y <;> simp at h0 ⊢ <;> omega
theorem unseen_set : ∀ (l : List Bool) (n : Nat), l[n]? = some false → unseen (l.set n true) + 1 = unseen l
  | [], n, h => by simp at h
  | x :: l, 0, h => by
    simp at h
    subst h
    simp [unseen]
  | x :: l, n + 1, h => by
    have := unseen_set l n (by simpa using h)
    unfold unseen at *
    rw [List.set_cons_succ, List.count_cons, List.count_cons]
    omega
end Go.Proofs.Ytlcgbkeggmaljaa
