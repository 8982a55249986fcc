/- Graphs, plain: the reference's distances are the same. -/
import Derived.Test.YtlcgbkeggmaljaaGRef4
namespace Go.Proofs.Ytlcgbkeggmaljaa
set_option linter.unusedVariables false
set_option linter.unusedSimpArgs false

/-- what holds in the round n of the reference's search behind some edges. -/
structure RD (N : Nat) (es : List (Int × Int)) (to n : Nat) (pre : List (Int × Int)) (d : List Int) : Prop where
  len : d.length = N
  lo : ∀ a, -1 ≤ gD d a
  t0 : gD d to = 0
  zero : ∀ a, gD d a = 0 → a = to
  pred : ∀ (a m : Nat), gD d a = (m : Int) + 1 → ∃ b : Nat, ((a : Int), (b : Int)) ∈ es ∧ gD d b = m
  bound : ∀ a, gD d a + unass d < N
  done : ∀ x ∈ es, 0 ≤ gD d x.2.toNat → gD d x.2.toNat < (n : Int) → 0 ≤ gD d x.1.toNat ∧ gD d x.1.toNat ≤ gD d x.2.toNat + 1
  cur : ∀ x ∈ pre, gD d x.2.toNat = (n : Int) → 0 ≤ gD d x.1.toNat ∧ gD d x.1.toNat ≤ (n : Int) + 1
/-- one edge. -/
def rdstep (n : Nat) (d : List Int) (x : Int × Int) : List Int := if gD d x.2.toNat = (n : Int) ∧ gD d x.1.toNat < 0 then d.set x.1.toNat ((n : Int) + 1) else d
theorem RD.step {N : Nat} {es : List (Int × Int)} {to n : Nat} {pre : List (Int × Int)} {d : List Int} (h : RD N es to n pre d) (x : Int × Int) (hx : x ∈ es) (hok : okE N x) (htop : ∀ a, gD d a ≤ (n : Int) + 1) : RD N es to n (pre ++ [x]) (rdstep n d x) ∧ ∀ a, gD (rdstep n d x) a ≤ (n : Int) + 1 := by
  obtain ⟨k1, k2, k3, k4⟩ := hok
  unfold rdstep
  split
  · rename_i hc
    obtain ⟨c1, c2⟩ := hc
    obtain ⟨i, hi⟩ : ∃ i, i = x.1.toNat := ⟨_, rfl⟩
    obtain ⟨j, hj⟩ : ∃ j, j = x.2.toNat := ⟨_, rfl⟩
    rw [← hi] at c2 ⊢
    rw [← hj] at c1
    have hil : i < d.length := by rw [h.len]; omega
    have hg : ∀ a, gD (d.set i ((n : Int) + 1)) a = if a = i then (n : Int) + 1 else gD d a := fun a => gD_set d i _ a hil
    have hu := unass_set d i ((n : Int) + 1) hil c2 (by omega)
    have hb := h.bound j
    have hji : j ≠ i := fun e => by rw [e] at c1; omega
    have ht : to ≠ i := fun e => by have := h.t0; rw [e] at this; omega
    refine ⟨⟨by rw [List.length_set]; exact h.len, fun a => ?_, ?_, fun a ha => ?_, fun a m ha => ?_, fun a => ?_, fun y hy h1 h2 => ?_, fun y hy h1 => ?_⟩, fun a => ?_⟩
    · rw [hg]; have := h.lo a; split <;> omega
    · rw [hg, if_neg ht]; exact h.t0
    · rw [hg] at ha
      split at ha
      · omega
      · exact h.zero a ha
    · rw [hg] at ha
      split at ha
      · rename_i e
        refine ⟨j, ?_, by rw [hg, if_neg hji]; omega⟩
        rw [e, hi, hj]
        have e1 : ((x.1.toNat : Nat) : Int) = x.1 := by omega
        have e2 : ((x.2.toNat : Nat) : Int) = x.2 := by omega
        rw [e1, e2]
        exact hx
      · obtain ⟨b, hb1, hb2⟩ := h.pred a m ha
        refine ⟨b, hb1, ?_⟩
        rw [hg, if_neg (fun e => by rw [e] at hb2; omega)]
        exact hb2
    · rw [hg]
      have := h.bound a
      split <;> omega
    · rw [hg] at h1 h2 ⊢
      by_cases e2 : y.2.toNat = i
      · rw [if_pos e2] at h2; omega
      · rw [if_neg e2] at h1 h2
        have := h.done y hy h1 h2
        rw [hg, if_neg e2]
        by_cases e1 : y.1.toNat = i
        · rw [e1] at this; omega
        · rw [if_neg e1]; exact this
    · rw [hg] at h1
      by_cases e2 : y.2.toNat = i
      · rw [if_pos e2] at h1; omega
      · rw [if_neg e2] at h1
        rw [hg]
        rcases List.mem_append.1 hy with hy | hy
        · have := h.cur y hy h1
          by_cases e1 : y.1.toNat = i
          · rw [if_pos e1]; omega
          · rw [if_neg e1]; exact this
        · rw [List.mem_singleton] at hy
          subst hy
          rw [if_pos hi.symm]; omega
    · rw [hg]; have := htop a; split <;> omega
  · rename_i hc
    refine ⟨⟨h.len, h.lo, h.t0, h.zero, h.pred, h.bound, h.done, fun y hy h1 => ?_⟩, htop⟩
    rcases List.mem_append.1 hy with hy | hy
    · exact h.cur y hy h1
    · rw [List.mem_singleton] at hy
      subst hy
      have := htop y.1.toNat
      exact ⟨Int.not_lt.1 fun h9 => hc ⟨h1, h9⟩, this⟩
theorem RD.next {N : Nat} {es : List (Int × Int)} {to n : Nat} {d : List Int} (h : RD N es to n es d) : RD N es to (n + 1) [] d := by
  refine ⟨h.len, h.lo, h.t0, h.zero, h.pred, h.bound, fun x hx h1 h2 => ?_, fun x hx => by cases hx⟩
  by_cases e : gD d x.2.toNat = (n : Int)
  · have := h.cur x hx e
    omega
  · exact h.done x hx h1 (by omega)
theorem RD.start {N : Nat} {es : List (Int × Int)} {to : Nat} (hto : to < N) : RD N es to 0 [] ((List.replicate N (-1)).set to 0) ∧ ∀ a, gD ((List.replicate N (-1)).set to 0) a ≤ ((0 : Nat) : Int) := by
  have hg : ∀ a, gD ((List.replicate N (-1 : Int)).set to 0) a = if a = to then 0 else -1 := fun a => by
    rw [gD_set _ _ _ _ (by simpa using hto), gD_rep]
  have hu : unass ((List.replicate N (-1 : Int)).set to 0) + 1 = N := by
    rw [unass_set _ _ _ (by simpa using hto) (by rw [gD_rep]; omega) (by omega)]
    unfold unass
    rw [List.countP_replicate]
    simp
  refine ⟨⟨by simp, fun a => by rw [hg]; split <;> omega, by rw [hg, if_pos rfl], fun a ha => ?_, fun a m ha => ?_, fun a => by rw [hg]; split <;> omega, fun x hx h1 h2 => by omega, fun x hx => by cases hx⟩, fun a => by rw [hg]; split <;> omega⟩
  · rw [hg] at ha; split at ha
    · assumption
    · omega
  · rw [hg] at ha; split at ha <;> omega
theorem RD.dist {N : Nat} {es : List (Int × Int)} {to : Nat} {d : List Int} (h : RD N es to N [] d) (hv : validG N es = true) : DistR (sucs N (es.map swapE)) 0 to d := by
  have hof : ∀ a b : Nat, a ∈ ofP (sucs N (es.map swapE)) b 0 ↔ b < N ∧ a < N ∧ ((a : Int), (b : Int)) ∈ es := fun a b => by
    unfold ofP
    rw [List.mem_filter, mem_sucs, mem_swap]
    simp
  refine ⟨by rw [sucs_length]; exact h.len, h.lo, h.t0, h.zero, fun a m ha => ?_, fun b hb a ha => ?_⟩
  · obtain ⟨b, h1, h2⟩ := h.pred a m ha
    have hbl := gD_lt (d := d) (a := b) (by omega)
    have hal := gD_lt (d := d) (a := a) (by omega)
    rw [h.len] at hbl hal
    exact ⟨b, (hof a b).2 ⟨hbl, hal, h1⟩, h2⟩
  · obtain ⟨h1, h2, h3⟩ := (hof a b).1 ha
    have := h.done _ h3 (by simpa using hb) (by
      have := h.bound b
      show gD d ((b : Int)).toNat < _
      rw [Int.toNat_natCast]
      omega)
    simpa using this
end Go.Proofs.Ytlcgbkeggmaljaa
