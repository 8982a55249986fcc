/- Graphs, plain: where there is no cycle, the components in order are the single nodes of the program's order. -/
import Derived.Test.YtlcgbkeggmaljaaGPlainRComp
import Derived.Test.YtlcgbkeggmaljaaGPlainAcyc
namespace Go.Proofs.Ytlcgbkeggmaljaa
set_option linter.unusedVariables false
set_option linter.unusedSimpArgs false

theorem acyc_inj {N : Nat} {es : List (Int × Int)} (h : cycF N es N = []) {a b : Nat} (ha : a < N) (hb : b < N) (e : clG N es a = clG N es b) : a = b := by
  obtain ⟨h1, h2⟩ := (clG_eq ha hb).1 e
  cases h1 with
  | refl => rfl
  | step hj hr =>
    obtain ⟨m, hm⟩ := (hr.trans h2).walk
    exact absurd h (cycF_least hj hm).1
theorem acyc_hd {N : Nat} {es : List (Int × Int)} (h : cycF N es N = []) {n : Nat} (hn : n < N) : hdG N es (clG N es n) = n := by
  obtain ⟨_, h1, h2⟩ := hdG_head (clG_lt (es := es) hn)
  exact acyc_inj h h1 hn h2
theorem acyc_mono {N : Nat} {es : List (Int × Int)} (h : cycF N es N = []) {a b : Nat} (hb : b < N) (hab : a < b) : clG N es a < clG N es b := by
  have ha : a < N := by omega
  refine Nat.lt_of_not_le fun hle => ?_
  rcases Nat.lt_or_eq_of_le hle with h1 | h1
  · have := hdG_lt (clG_lt (es := es) ha) h1
    rw [acyc_hd h ha, acyc_hd h hb] at this
    omega
  · have := acyc_inj h hb ha h1
    omega
theorem acyc_ge {N : Nat} {es : List (Int × Int)} (h : cycF N es N = []) : ∀ n, n < N → n ≤ clG N es n
  | 0, _ => Nat.zero_le _
  | n + 1, hn => by
    have h1 := acyc_ge h n (by omega)
    have h2 := acyc_mono h hn (Nat.lt_succ_self n)
    omega
theorem hdG_ge {N : Nat} {es : List (Int × Int)} : ∀ p, p < (nodesG N es).length → p ≤ hdG N es p
  | 0, _ => Nat.zero_le _
  | p + 1, hp => by
    have h1 := hdG_ge (N := N) (es := es) p (by omega)
    have h2 := hdG_lt hp (Nat.lt_succ_self p)
    omega
theorem acyc_cl {N : Nat} {es : List (Int × Int)} (h : cycF N es N = []) {n : Nat} (hn : n < N) : clG N es n = n := by
  have h1 := acyc_ge h n hn
  have h2 := hdG_ge (N := N) (es := es) (clG N es n) (clG_lt hn)
  rw [acyc_hd h hn] at h2
  omega
theorem acyc_len {N : Nat} {es : List (Int × Int)} (h : cycF N es N = []) : (nodesG N es).length = N := by
  have h1 := (nodesG_len (numbered N es)).1
  by_cases h0 : N = 0
  · omega
  · have h2 := clG_lt (es := es) (n := N - 1) (N := N) (by omega)
    rw [acyc_cl h (by omega)] at h2
    omega
theorem acyc_node {N : Nat} {es : List (Int × Int)} (h : cycF N es N = []) {p : Nat} (hp : p < N) : (nodesG N es).getD p [] = [p] := by
  refine sorted_eq (nodesG_srt N es p) (by simp) fun a => ?_
  rw [nodesG_mem, List.mem_singleton]
  constructor
  · rintro ⟨h1, h2⟩
    rw [acyc_cl h h1] at h2
    exact h2
  · rintro rfl
    exact ⟨hp, acyc_cl h hp⟩
theorem acyc_cond {N : Nat} {es : List (Int × Int)} (h : cycF N es N = []) (p d : Nat) : d ∈ (condG N es).getD p [] ↔ d ∈ (sucs N es).getD p [] := by
  rw [condG_mem]
  constructor
  · rintro ⟨n, j, hn, hj, hp, hd, _⟩
    have hjN : j < N := (mem_sucs.1 hj).2.1
    rw [acyc_cl h hn] at hp
    rw [acyc_cl h hjN] at hd
    subst hp
    subst hd
    exact hj
  · intro hd
    obtain ⟨h1, h2, _⟩ := mem_sucs.1 hd
    refine ⟨p, d, h1, hd, acyc_cl h h1, acyc_cl h h2, fun e => ?_⟩
    subst e
    exact (cycF_least hd (.nil p)).1 h
theorem lrun_same {S T : List (List Nat)} (hl : S.length = T.length) (h : ∀ a j, j ∈ S.getD a [] ↔ j ∈ T.getD a []) : ∀ k, lrun S k = lrun T k := by
  have hr : ∀ done k, lrdy S done k = lrdy T done k := fun done k => by
    unfold lrdy
    congr 2
    rw [Bool.eq_iff_iff, List.any_eq_true, List.any_eq_true]
    exact ⟨fun ⟨x, h1, h2⟩ => ⟨x, (h k x).1 h1, h2⟩, fun ⟨x, h1, h2⟩ => ⟨x, (h k x).2 h1, h2⟩⟩
  have hp : ∀ done, lpick S done = lpick T done := fun done => by
    unfold lpick
    rw [hl, show lrdy S done = lrdy T done from funext (hr done)]
  intro k
  induction k with
  | zero => simp [lrun, hl]
  | succ k ih =>
    unfold lrun lstep
    rw [ih, hp]
/-- the components behind one another. -/
theorem acyc_comps {N : Nat} {es : List (Int × Int)} (h : cycF N es N = []) : (compsG N es).flatten = listF (sucs N es) := by
  have hl : (condG N es).length = (sucs N es).length := by rw [(condG_len N es).1, acyc_len h, sucs_length]
  have h1 : listF (condG N es) = listF (sucs N es) := by
    unfold listF
    rw [hl, lrun_same hl (acyc_cond h)]
  have h2 : ∀ l : List Nat, (∀ x ∈ l, x < N) → (l.map fun c => (nodesG N es).getD c []).flatten = l := fun l => by
    induction l with
    | nil => intro _; rfl
    | cons x l ih =>
      intro hx
      rw [List.map_cons, List.flatten_cons, ih (fun y hy => hx y (by simp [hy])), acyc_node h (hx x (by simp))]
      rfl
  unfold compsG
  rw [h1]
  exact h2 _ fun x hx => by have := listF_lt (sucs N es) x hx; rwa [sucs_length] at this
end Go.Proofs.Ytlcgbkeggmaljaa
